/- The law RootTells. Condition: rows shorter than 10^14. -/
import Derived.Test.YtmfoihjkhoinaaaBf
import Derived.Test.YtmfoihjkhoinaaaBj
namespace Go.Proofs.Ytmfoihjkhoinaaa
open Go.RowKit
set_option linter.unusedSimpArgs false
set_option linter.unusedVariables false
def d_law5_RootTells : Den := den4 aLim aRat aBall aInt (fun n a b k => n.length ≤ 100000000000000 ∧ a.sz ≤ 100000000000000 ∧ b.sz ≤ 100000000000000) fun n a b k => boolV true
set_option maxRecDepth 100000 in
set_option maxHeartbeats 4000000 in
theorem s_law5_RootTells : Sound Try.prog 9 d_law5_RootTells := by
  refine sound4 (fz := nofz) (l := [(37, d_law5_big), (74, d_law5_wide), (41, d_root_Sqrt), (75, d_ref5_Sqrt), (76, d_root_Of), (77, d_ref5_Of), (78, d_root_Square), (79, d_ref5_Square), (39, d_root_Int), (80, d_ref4_Root), (43, d_ref1_Cmp), (81, d_ref4_Same), (82, d_ref2_Same), (48, d_law5_known)]) TT_ok ⟨s_law5_big, s_law5_wide, s_root_Sqrt, s_ref5_Sqrt, s_root_Of, s_ref5_Of, s_root_Square, s_ref5_Square, s_root_Int, s_ref4_Root, s_ref1_Cmp, s_ref4_Same, s_ref2_Same, s_law5_known, trivial⟩ mixed Try.func9 Try.ntmps9 Try.results9 Try.call9 rfl (by omega) (fun _ _ _ _ => rfl) ?_
  intro n a b k hp hn ha hb hk
  rw [codeK_start]
  by_cases h0 : (8 : Int) < n.length
  · skip
    simp only [go_sem, d_law5_big, d_law5_wide, d_root_Sqrt, d_ref5_Sqrt, d_root_Of, d_ref5_Of, d_root_Square, d_ref5_Square, d_root_Int, d_ref4_Root, d_ref1_Cmp, d_ref4_Same, d_ref2_Same, d_law5_known, h0, decide_true, Nat.reduceBEq, Nat.reduceBNe, Nat.reduceLT, Nat.reduceLeDiff, Nat.reduceAdd, Nat.reduceSub, Nat.reduceMul, Nat.reduceEqDiff, Int.reduceNeg, Int.reduceAdd, Int.reduceLT, Int.reduceLE, Int.reduceToNat, ↓reduceIte]
  have hall : ∀ r ∈ [a], r.sz ≤ 100000000000000 := by
    intro r hr
    simp only [List.mem_cons, List.not_mem_nil, or_false] at hr
    rcases hr with rfl <;> first | exact hp | exact hp.1 | exact hp.2 | exact hp.2.1 | exact hp.2.2 | exact hp.2.2.1
  by_cases hbig : [a].any bigR = true
  · skip
    simp only [go_sem, d_law5_big, d_law5_wide, d_root_Sqrt, d_ref5_Sqrt, d_root_Of, d_ref5_Of, d_root_Square, d_ref5_Square, d_root_Int, d_ref4_Root, d_ref1_Cmp, d_ref4_Same, d_ref2_Same, d_law5_known, h0, decide_false, hbig, Nat.reduceBEq, Nat.reduceBNe, Nat.reduceLT, Nat.reduceLeDiff, Nat.reduceAdd, Nat.reduceSub, Nat.reduceMul, Nat.reduceEqDiff, Int.reduceNeg, Int.reduceAdd, Int.reduceLT, Int.reduceLE, Int.reduceToNat, ↓reduceIte]
    exact hall
  rw [Bool.not_eq_true] at hbig
  have sa : a.sz ≤ 3 := not_big (any_false hbig a (by simp))
  have ra : rs a.q ≤ 3 := rs_ok ha sa (by omega)
  have hallb : ∀ r ∈ [b], r.sz ≤ 100000000000000 := by
    intro r hr
    simp only [List.mem_cons, List.not_mem_nil, or_false] at hr
    subst hr
    exact hp.2.2
  by_cases hw : [b].any wideB = true
  · skip
    simp only [go_sem, d_law5_big, d_law5_wide, d_root_Sqrt, d_ref5_Sqrt, d_root_Of, d_ref5_Of, d_root_Square, d_ref5_Square, d_root_Int, d_ref4_Root, d_ref1_Cmp, d_ref4_Same, d_ref2_Same, d_law5_known, h0, hbig, hw, decide_false, Nat.reduceBEq, Nat.reduceBNe, Nat.reduceLT, Nat.reduceLeDiff, Nat.reduceAdd, Nat.reduceSub, Nat.reduceMul, Nat.reduceEqDiff, Int.reduceNeg, Int.reduceAdd, Int.reduceLT, Int.reduceLE, Int.reduceToNat, ↓reduceIte]
    and_intros <;> first | exact hall | exact hallb | omega | (show okDraw _ _ = true; kernel_rfl)
  rw [Bool.not_eq_true] at hw
  obtain ⟨s1, s2, s3, s4, s5, s6⟩ := wide_facts (any_false hw b (by simp))
  have s7 : b.sz ≤ 3 := Nat.max_le.2 ⟨s1, s2⟩
  have q1 : rs b.lo.q ≤ 3 := rs_ok hb.1 s1 (by omega)
  have q2 : rs b.hi.q ≤ 3 := rs_ok hb.2 s2 (by omega)
  by_cases h1 : (200 : Int) < k
  · skip
    simp only [go_sem, d_law5_big, d_law5_wide, d_root_Sqrt, d_ref5_Sqrt, d_root_Of, d_ref5_Of, d_root_Square, d_ref5_Square, d_root_Int, d_ref4_Root, d_ref1_Cmp, d_ref4_Same, d_ref2_Same, d_law5_known, h0, hbig, hw, h1, decide_false, decide_true, Nat.reduceBEq, Nat.reduceBNe, Nat.reduceLT, Nat.reduceLeDiff, Nat.reduceAdd, Nat.reduceSub, Nat.reduceMul, Nat.reduceEqDiff, Int.reduceNeg, Int.reduceAdd, Int.reduceLT, Int.reduceLE, Int.reduceToNat, ↓reduceIte]
    and_intros <;> first | exact hall | exact hallb | omega | (show okDraw _ _ = true; kernel_rfl)
  have r1 := rs_sqLo ra (by omega) k
  have r2 := rs_sqHi ra (by omega) k
  have r3 := rs_sqLo q1 (by omega) k
  have r4 := rs_sqHi q2 (by omega) k
  have r5 := rs_sqR ra (by omega)
  have t0 : rs (0 : Rat) ≤ 1 := rs0 (by omega)
  have l1 := limbs_len_val (xs := n) hn
  have l2 := limbs_len_mono (rt_le (val n))
  have r6 : rs (if ng b.lo.q = true ∨ ng b.hi.q = true then 0 else sqLo b.lo.q k) ≤ 37 := by split <;> omega
  have r7 : rs (if ng b.lo.q = true ∨ ng b.hi.q = true then 0 else sqHi b.hi.q k) ≤ 37 := by split <;> omega
  refine cut_seq fun C hC => ?_
  simp only [go_sem, d_law5_big, d_law5_wide, d_root_Sqrt, d_ref5_Sqrt, d_root_Of, d_ref5_Of, d_root_Square, d_ref5_Square, d_root_Int, d_ref4_Root, d_ref1_Cmp, d_ref4_Same, d_ref2_Same, d_law5_known, h0, hbig, hw, h1, sameB_self, beq_self_eq_true, eq_self, decide_false, decide_true, Nat.reduceBEq, Nat.reduceBNe, Nat.reduceLT, Nat.reduceLeDiff, Nat.reduceAdd, Nat.reduceSub, Nat.reduceMul, Nat.reduceEqDiff, Int.reduceNeg, Int.reduceAdd, Int.reduceLT, Int.reduceLE, Int.reduceToNat, ↓reduceIte]
  try and_intros
  all_goals try (first | assumption | omega | (show okDraw _ _ = true; kernel_rfl) | exact hall | exact hallb)
  subst hC
  refine cut_seq fun C hC => ?_
  simp only [go_sem, d_law5_big, d_law5_wide, d_root_Sqrt, d_ref5_Sqrt, d_root_Of, d_ref5_Of, d_root_Square, d_ref5_Square, d_root_Int, d_ref4_Root, d_ref1_Cmp, d_ref4_Same, d_ref2_Same, d_law5_known, h0, hbig, hw, h1, sameB_self, beq_self_eq_true, eq_self, decide_false, decide_true, Nat.reduceBEq, Nat.reduceBNe, Nat.reduceLT, Nat.reduceLeDiff, Nat.reduceAdd, Nat.reduceSub, Nat.reduceMul, Nat.reduceEqDiff, Int.reduceNeg, Int.reduceAdd, Int.reduceLT, Int.reduceLE, Int.reduceToNat, ↓reduceIte]
  try and_intros
  all_goals try (first | assumption | omega | (show okDraw _ _ = true; kernel_rfl) | exact hall | exact hallb)
  subst hC
  refine cut_seq fun C hC => ?_
  simp only [go_sem, d_law5_big, d_law5_wide, d_root_Sqrt, d_ref5_Sqrt, d_root_Of, d_ref5_Of, d_root_Square, d_ref5_Square, d_root_Int, d_ref4_Root, d_ref1_Cmp, d_ref4_Same, d_ref2_Same, d_law5_known, h0, hbig, hw, h1, sameB_self, beq_self_eq_true, eq_self, decide_false, decide_true, Nat.reduceBEq, Nat.reduceBNe, Nat.reduceLT, Nat.reduceLeDiff, Nat.reduceAdd, Nat.reduceSub, Nat.reduceMul, Nat.reduceEqDiff, Int.reduceNeg, Int.reduceAdd, Int.reduceLT, Int.reduceLE, Int.reduceToNat, ↓reduceIte]
  try and_intros
  all_goals try (first | assumption | omega | (show okDraw _ _ = true; kernel_rfl) | exact hall | exact hallb)
  subst hC
  refine cut_seq fun C hC => ?_
  simp only [go_sem, d_law5_big, d_law5_wide, d_root_Sqrt, d_ref5_Sqrt, d_root_Of, d_ref5_Of, d_root_Square, d_ref5_Square, d_root_Int, d_ref4_Root, d_ref1_Cmp, d_ref4_Same, d_ref2_Same, d_law5_known, h0, hbig, hw, h1, sameB_self, beq_self_eq_true, eq_self, decide_false, decide_true, Nat.reduceBEq, Nat.reduceBNe, Nat.reduceLT, Nat.reduceLeDiff, Nat.reduceAdd, Nat.reduceSub, Nat.reduceMul, Nat.reduceEqDiff, Int.reduceNeg, Int.reduceAdd, Int.reduceLT, Int.reduceLE, Int.reduceToNat, ↓reduceIte]
  try and_intros
  all_goals try (first | assumption | omega | (show okDraw _ _ = true; kernel_rfl) | exact hall | exact hallb)
  subst hC
  refine cut_seq fun C hC => ?_
  simp only [go_sem, d_law5_big, d_law5_wide, d_root_Sqrt, d_ref5_Sqrt, d_root_Of, d_ref5_Of, d_root_Square, d_ref5_Square, d_root_Int, d_ref4_Root, d_ref1_Cmp, d_ref4_Same, d_ref2_Same, d_law5_known, h0, hbig, hw, h1, sameB_self, beq_self_eq_true, eq_self, decide_false, decide_true, Nat.reduceBEq, Nat.reduceBNe, Nat.reduceLT, Nat.reduceLeDiff, Nat.reduceAdd, Nat.reduceSub, Nat.reduceMul, Nat.reduceEqDiff, Int.reduceNeg, Int.reduceAdd, Int.reduceLT, Int.reduceLE, Int.reduceToNat, ↓reduceIte]
  try and_intros
  all_goals try (first | assumption | omega | (show okDraw _ _ = true; kernel_rfl) | exact hall | exact hallb)
  subst hC
  refine cut_seq fun C hC => ?_
  simp only [go_sem, d_law5_big, d_law5_wide, d_root_Sqrt, d_ref5_Sqrt, d_root_Of, d_ref5_Of, d_root_Square, d_ref5_Square, d_root_Int, d_ref4_Root, d_ref1_Cmp, d_ref4_Same, d_ref2_Same, d_law5_known, h0, hbig, hw, h1, sameB_self, beq_self_eq_true, eq_self, decide_false, decide_true, Nat.reduceBEq, Nat.reduceBNe, Nat.reduceLT, Nat.reduceLeDiff, Nat.reduceAdd, Nat.reduceSub, Nat.reduceMul, Nat.reduceEqDiff, Int.reduceNeg, Int.reduceAdd, Int.reduceLT, Int.reduceLE, Int.reduceToNat, ↓reduceIte]
  try and_intros
  all_goals try (first | assumption | omega | (show okDraw _ _ = true; kernel_rfl) | exact hall | exact hallb)
  subst hC
  refine cut_seq fun C hC => ?_
  simp only [go_sem, d_law5_big, d_law5_wide, d_root_Sqrt, d_ref5_Sqrt, d_root_Of, d_ref5_Of, d_root_Square, d_ref5_Square, d_root_Int, d_ref4_Root, d_ref1_Cmp, d_ref4_Same, d_ref2_Same, d_law5_known, h0, hbig, hw, h1, sameB_self, beq_self_eq_true, eq_self, decide_false, decide_true, Nat.reduceBEq, Nat.reduceBNe, Nat.reduceLT, Nat.reduceLeDiff, Nat.reduceAdd, Nat.reduceSub, Nat.reduceMul, Nat.reduceEqDiff, Int.reduceNeg, Int.reduceAdd, Int.reduceLT, Int.reduceLE, Int.reduceToNat, ↓reduceIte]
  try and_intros
  all_goals try (first | assumption | omega | (show okDraw _ _ = true; kernel_rfl) | exact hall | exact hallb)
  subst hC
  refine cut_seq fun C hC => ?_
  simp only [go_sem, d_law5_big, d_law5_wide, d_root_Sqrt, d_ref5_Sqrt, d_root_Of, d_ref5_Of, d_root_Square, d_ref5_Square, d_root_Int, d_ref4_Root, d_ref1_Cmp, d_ref4_Same, d_ref2_Same, d_law5_known, h0, hbig, hw, h1, sameB_self, beq_self_eq_true, eq_self, decide_false, decide_true, Nat.reduceBEq, Nat.reduceBNe, Nat.reduceLT, Nat.reduceLeDiff, Nat.reduceAdd, Nat.reduceSub, Nat.reduceMul, Nat.reduceEqDiff, Int.reduceNeg, Int.reduceAdd, Int.reduceLT, Int.reduceLE, Int.reduceToNat, ↓reduceIte]
  try and_intros
  all_goals try (first | assumption | omega | (show okDraw _ _ = true; kernel_rfl) | exact hall | exact hallb)
  subst hC
  simp only [go_sem, d_law5_big, d_law5_wide, d_root_Sqrt, d_ref5_Sqrt, d_root_Of, d_ref5_Of, d_root_Square, d_ref5_Square, d_root_Int, d_ref4_Root, d_ref1_Cmp, d_ref4_Same, d_ref2_Same, d_law5_known, h0, hbig, hw, h1, sameB_self, beq_self_eq_true, eq_self, decide_false, decide_true, Nat.reduceBEq, Nat.reduceBNe, Nat.reduceLT, Nat.reduceLeDiff, Nat.reduceAdd, Nat.reduceSub, Nat.reduceMul, Nat.reduceEqDiff, Int.reduceNeg, Int.reduceAdd, Int.reduceLT, Int.reduceLE, Int.reduceToNat, ↓reduceIte]
  and_intros
  all_goals first
    | exact hall
    | exact hallb
    | exact Nat.max_le.2 ⟨by rw [cr_sz]; omega, by rw [cr_sz]; omega⟩
    | exact hall
    | assumption
    | omega
    | (show okDraw _ _ = true; kernel_rfl)

end Go.Proofs.Ytmfoihjkhoinaaa
