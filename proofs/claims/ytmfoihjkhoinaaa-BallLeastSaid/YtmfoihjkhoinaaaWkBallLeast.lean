/- The law BallLeast. Condition: rows shorter than 10^14. -/
import Derived.Test.YtmfoihjkhoinaaaBi
import Derived.Test.YtmfoihjkhoinaaaBj
namespace Go.Proofs.Ytmfoihjkhoinaaa
open Go.RowKit
set_option linter.unusedSimpArgs false
set_option linter.unusedVariables false
def d_law4_BallLeast : Den := den4 aBall aBall aRat aRat (fun a b x y => a.sz ≤ 100000000000000 ∧ b.sz ≤ 100000000000000 ∧ x.sz ≤ 100000000000000 ∧ y.sz ≤ 100000000000000) fun a b x y => boolV true
set_option maxRecDepth 100000 in
set_option maxHeartbeats 4000000 in
theorem s_law4_BallLeast : Sound Try.prog 11 d_law4_BallLeast := by
  refine sound4 (fz := nofz) (l := [(88, d_law4_wide), (83, d_law4_big), (46, d_ref4_Width), (59, d_ref2_Add), (84, d_ball_Of), (89, d_ball_Mul), (91, d_ball_Add), (90, d_ball_Width), (82, d_ref2_Same), (92, d_ball_Sub), (42, d_ref2_Mul), (86, d_ref4_Of), (81, d_ref4_Same), (87, d_law4_known)]) TT_ok ⟨s_law4_wide, s_law4_big, s_ref4_Width, s_ref2_Add, s_ball_Of, s_ball_Mul, s_ball_Add, s_ball_Width, s_ref2_Same, s_ball_Sub, s_ref2_Mul, s_ref4_Of, s_ref4_Same, s_law4_known, trivial⟩ mixed Try.func11 Try.ntmps11 Try.results11 Try.call11 rfl (by omega) (fun _ _ _ _ => rfl) ?_
  intro a b x y hp ha hb hx hy
  rw [codeK_start]
  have za := hp.1
  have zb := hp.2.1
  have zx := hp.2.2.1
  have zy := hp.2.2.2
  have hallb : ∀ r ∈ [a, b], r.sz ≤ 100000000000000 := by
    intro r hr
    simp only [List.mem_cons, List.not_mem_nil, or_false] at hr
    rcases hr with rfl | rfl <;> assumption
  by_cases hw : [a, b].any wideB = true
  · skip
    simp only [go_sem, d_law4_wide, d_law4_big, d_ref4_Width, d_ref2_Add, d_ball_Of, d_ball_Mul, d_ball_Add, d_ball_Width, d_ref2_Same, d_ball_Sub, d_ref2_Mul, d_ref4_Of, d_ref4_Same, d_law4_known, hw, Nat.reduceBEq, Nat.reduceBNe, Nat.reduceLT, Nat.reduceLeDiff, Nat.reduceAdd, Nat.reduceSub, Nat.reduceMul, Nat.reduceEqDiff, Int.reduceNeg, Int.reduceAdd, Int.reduceLT, Int.reduceLE, Int.reduceToNat, ↓reduceIte]
    first | exact hallb | (and_intros <;> first | exact hallb | assumption | trivial | (show okDraw _ _ = true; kernel_rfl))
  rw [Bool.not_eq_true] at hw
  obtain ⟨ua, va, ca, ea, oa, ia⟩ := wide_facts (any_false hw a (by simp))
  have xa : rs a.lo.q ≤ 3 := rs_ok ha.1 ua (by omega)
  have ya : rs a.hi.q ≤ 3 := rs_ok ha.2 va (by omega)
  have wa : a.sz ≤ 3 := Nat.max_le.2 ⟨ua, va⟩
  obtain ⟨ub, vb, cb, eb, ob, ib⟩ := wide_facts (any_false hw b (by simp))
  have xb : rs b.lo.q ≤ 3 := rs_ok hb.1 ub (by omega)
  have yb : rs b.hi.q ≤ 3 := rs_ok hb.2 vb (by omega)
  have wb : b.sz ≤ 3 := Nat.max_le.2 ⟨ub, vb⟩
  have hallhbig : ∀ r ∈ [x, y], r.sz ≤ 100000000000000 := by
    intro r hr
    simp only [List.mem_cons, List.not_mem_nil, or_false] at hr
    rcases hr with rfl | rfl <;> assumption
  by_cases hbig : [x, y].any bigR = true
  · skip
    simp only [go_sem, d_law4_wide, d_law4_big, d_ref4_Width, d_ref2_Add, d_ball_Of, d_ball_Mul, d_ball_Add, d_ball_Width, d_ref2_Same, d_ball_Sub, d_ref2_Mul, d_ref4_Of, d_ref4_Same, d_law4_known, hw, hbig, Nat.reduceBEq, Nat.reduceBNe, Nat.reduceLT, Nat.reduceLeDiff, Nat.reduceAdd, Nat.reduceSub, Nat.reduceMul, Nat.reduceEqDiff, Int.reduceNeg, Int.reduceAdd, Int.reduceLT, Int.reduceLE, Int.reduceToNat, ↓reduceIte]
    first | exact hallhbig | (and_intros <;> first | exact hallb | exact hallhbig | assumption | trivial | (show okDraw _ _ = true; kernel_rfl))
  rw [Bool.not_eq_true] at hbig
  have sx : x.sz ≤ 3 := not_big (any_false hbig x (by simp))
  have rx : rs x.q ≤ 3 := rs_ok hx sx (by omega)
  have sy : y.sz ≤ 3 := not_big (any_false hbig y (by simp))
  have ry : rs y.q ≤ 3 := rs_ok hy sy (by omega)
  have s1 : rs (a.hi.q - a.lo.q) ≤ 7 := rsb_sub ya xa (by omega)
  have s2 : rs (b.hi.q - b.lo.q) ≤ 7 := rsb_sub yb xb (by omega)
  have s3 : rs (x.q * y.q) ≤ 6 := rsb_mul rx ry (by omega)
  have s4 : rs (a.hi.q - a.lo.q + (b.hi.q - b.lo.q)) ≤ 15 := rsb_add s1 s2 (by omega)
  have s5 : rs (a.lo.q + b.lo.q) ≤ 7 := rsb_add xa xb (by omega)
  have s6 : rs (a.hi.q + b.hi.q) ≤ 7 := rsb_add ya yb (by omega)
  have s7 : rs (a.lo.q - b.hi.q) ≤ 7 := rsb_sub xa yb (by omega)
  have s8 : rs (a.hi.q - b.lo.q) ≤ 7 := rsb_sub ya xb (by omega)
  have e1 : a.hi.q + b.hi.q - (a.lo.q + b.lo.q) = a.hi.q - a.lo.q + (b.hi.q - b.lo.q) := by grind
  have e2 : a.hi.q - b.lo.q - (a.lo.q - b.hi.q) = a.hi.q - a.lo.q + (b.hi.q - b.lo.q) := by grind
  have e3 := mul_point x.q y.q
  simp only [bb] at e3
  refine cut_seq fun C hC => ?_
  simp only [go_sem, d_law4_wide, d_law4_big, d_ref4_Width, d_ref2_Add, d_ball_Of, d_ball_Mul, d_ball_Add, d_ball_Width, d_ref2_Same, d_ball_Sub, d_ref2_Mul, d_ref4_Of, d_ref4_Same, d_law4_known, hw, hbig, e1, e2, e3.1, e3.2, sameB_self, eq_self, decide_true, decide_false, Nat.reduceBEq, Nat.reduceBNe, Nat.reduceLT, Nat.reduceLeDiff, Nat.reduceAdd, Nat.reduceSub, Nat.reduceMul, Nat.reduceEqDiff, Int.reduceNeg, Int.reduceAdd, Int.reduceLT, Int.reduceLE, Int.reduceToNat, ↓reduceIte]
  try and_intros
  all_goals try (first | assumption | omega | (show okDraw _ _ = true; kernel_rfl) | exact hallb | exact hallhbig | exact Nat.max_le.2 ⟨by rw [cr_sz]; omega, by rw [cr_sz]; omega⟩)
  subst hC
  refine cut_seq fun C hC => ?_
  simp only [go_sem, d_law4_wide, d_law4_big, d_ref4_Width, d_ref2_Add, d_ball_Of, d_ball_Mul, d_ball_Add, d_ball_Width, d_ref2_Same, d_ball_Sub, d_ref2_Mul, d_ref4_Of, d_ref4_Same, d_law4_known, hw, hbig, e1, e2, e3.1, e3.2, sameB_self, eq_self, decide_true, decide_false, Nat.reduceBEq, Nat.reduceBNe, Nat.reduceLT, Nat.reduceLeDiff, Nat.reduceAdd, Nat.reduceSub, Nat.reduceMul, Nat.reduceEqDiff, Int.reduceNeg, Int.reduceAdd, Int.reduceLT, Int.reduceLE, Int.reduceToNat, ↓reduceIte]
  try and_intros
  all_goals try (first | assumption | omega | (show okDraw _ _ = true; kernel_rfl) | exact hallb | exact hallhbig | exact Nat.max_le.2 ⟨by rw [cr_sz]; omega, by rw [cr_sz]; omega⟩)
  subst hC
  refine cut_seq fun C hC => ?_
  simp only [go_sem, d_law4_wide, d_law4_big, d_ref4_Width, d_ref2_Add, d_ball_Of, d_ball_Mul, d_ball_Add, d_ball_Width, d_ref2_Same, d_ball_Sub, d_ref2_Mul, d_ref4_Of, d_ref4_Same, d_law4_known, hw, hbig, e1, e2, e3.1, e3.2, sameB_self, eq_self, decide_true, decide_false, Nat.reduceBEq, Nat.reduceBNe, Nat.reduceLT, Nat.reduceLeDiff, Nat.reduceAdd, Nat.reduceSub, Nat.reduceMul, Nat.reduceEqDiff, Int.reduceNeg, Int.reduceAdd, Int.reduceLT, Int.reduceLE, Int.reduceToNat, ↓reduceIte]
  try and_intros
  all_goals try (first | assumption | omega | (show okDraw _ _ = true; kernel_rfl) | exact hallb | exact hallhbig | exact Nat.max_le.2 ⟨by rw [cr_sz]; omega, by rw [cr_sz]; omega⟩)
  subst hC
  refine cut_seq fun C hC => ?_
  simp only [go_sem, d_law4_wide, d_law4_big, d_ref4_Width, d_ref2_Add, d_ball_Of, d_ball_Mul, d_ball_Add, d_ball_Width, d_ref2_Same, d_ball_Sub, d_ref2_Mul, d_ref4_Of, d_ref4_Same, d_law4_known, hw, hbig, e1, e2, e3.1, e3.2, sameB_self, eq_self, decide_true, decide_false, Nat.reduceBEq, Nat.reduceBNe, Nat.reduceLT, Nat.reduceLeDiff, Nat.reduceAdd, Nat.reduceSub, Nat.reduceMul, Nat.reduceEqDiff, Int.reduceNeg, Int.reduceAdd, Int.reduceLT, Int.reduceLE, Int.reduceToNat, ↓reduceIte]
  try and_intros
  all_goals try (first | assumption | omega | (show okDraw _ _ = true; kernel_rfl) | exact hallb | exact hallhbig | exact Nat.max_le.2 ⟨by rw [cr_sz]; omega, by rw [cr_sz]; omega⟩)
  subst hC
  simp only [go_sem, d_law4_wide, d_law4_big, d_ref4_Width, d_ref2_Add, d_ball_Of, d_ball_Mul, d_ball_Add, d_ball_Width, d_ref2_Same, d_ball_Sub, d_ref2_Mul, d_ref4_Of, d_ref4_Same, d_law4_known, hw, hbig, e1, e2, e3.1, e3.2, sameB_self, eq_self, decide_true, decide_false, Nat.reduceBEq, Nat.reduceBNe, Nat.reduceLT, Nat.reduceLeDiff, Nat.reduceAdd, Nat.reduceSub, Nat.reduceMul, Nat.reduceEqDiff, Int.reduceNeg, Int.reduceAdd, Int.reduceLT, Int.reduceLE, Int.reduceToNat, ↓reduceIte]
  and_intros
  all_goals first
    | assumption
    | exact hallb
    | exact hallhbig
    | omega
    | exact Nat.max_le.2 ⟨by rw [cr_sz]; omega, by rw [cr_sz]; omega⟩
    | (show okDraw _ _ = true; kernel_rfl)

end Go.Proofs.Ytmfoihjkhoinaaa
