/- The law ArcsRises. Condition: rows shorter than 10^14. -/
import Derived.Test.YtifnpelkoklcnaaMg
import Derived.Test.YtifnpelkoklcnaaBj
namespace Go.Proofs.Ytifnpelkoklcnaa
open Go.RowKit
set_option linter.unusedSimpArgs false
set_option linter.unusedVariables false
def d_law8_ArcsRises : Den := den4 aRat aRat aInt aInt (fun a b p m => a.sz ≤ 100000000000000 ∧ b.sz ≤ 100000000000000) fun a b p m => boolV true
set_option maxRecDepth 100000 in
set_option maxHeartbeats 4000000 in
theorem s_law8_ArcsRises : Sound Try.prog 6 d_law8_ArcsRises := by
  refine sound4 (fz := nofz) (l := [(20, d_law8_big), (34, d_ref2_Cmp), (25, d_arcs_Atan), (27, d_arcs_Pi), (28, d_ref2_Of), (17, d_ref4_Of), (26, d_ref4_Mul), (37, d_ref4_Within), (32, d_law8_known)]) TT_ok ⟨s_law8_big, s_ref2_Cmp, s_arcs_Atan, s_arcs_Pi, s_ref2_Of, s_ref4_Of, s_ref4_Mul, s_ref4_Within, s_law8_known, trivial⟩ mixed Try.func6 Try.ntmps6 Try.results6 Try.call6 rfl (by omega) (fun _ _ _ _ => rfl) ?_
  intro a b p m hp ha hb hp hm
  rw [codeK_start]
  have hall : ∀ r ∈ [a, b], r.sz ≤ 100000000000000 := by
    intro r hr
    simp only [List.mem_cons, List.not_mem_nil, or_false] at hr
    rcases hr with rfl | rfl <;> first | exact hp | exact hp.1 | exact hp.2 | exact hp.2.1 | exact hp.2.2 | exact hp.2.2.1
  by_cases hbig : [a, b].any bigR = true
  · skip
    simp only [go_sem, d_law8_big, d_ref2_Cmp, d_arcs_Atan, d_arcs_Pi, d_ref2_Of, d_ref4_Of, d_ref4_Mul, d_ref4_Within, d_law8_known, hbig, Nat.reduceBEq, Nat.reduceBNe, Nat.reduceLT, Nat.reduceLeDiff, Nat.reduceAdd, Nat.reduceSub, Nat.reduceMul, Nat.reduceEqDiff, Int.reduceNeg, Int.reduceAdd, Int.reduceLT, Int.reduceLE, Int.reduceToNat, ↓reduceIte]
    exact hall
  rw [Bool.not_eq_true] at hbig
  have sa : a.sz ≤ 3 := not_big (any_false hbig a (by simp))
  have ra : rs a.q ≤ 3 := rs_ok ha sa (by omega)
  have sb : b.sz ≤ 3 := not_big (any_false hbig b (by simp))
  have rb : rs b.q ≤ 3 := rs_ok hb sb (by omega)
  by_cases g0 : p < 0
  · skip
    simp only [go_sem, d_law8_big, d_ref2_Cmp, d_arcs_Atan, d_arcs_Pi, d_ref2_Of, d_ref4_Of, d_ref4_Mul, d_ref4_Within, d_law8_known, hbig, g0, decide_false, decide_true, Nat.reduceBEq, Nat.reduceBNe, Nat.reduceLT, Nat.reduceLeDiff, Nat.reduceAdd, Nat.reduceSub, Nat.reduceMul, Nat.reduceEqDiff, Int.reduceNeg, Int.reduceAdd, Int.reduceLT, Int.reduceLE, Int.reduceToNat, ↓reduceIte]
    first | exact hall | (and_intros <;> first | exact hall | omega | (show okDraw _ _ = true; kernel_rfl))
  by_cases g1 : (50 : Int) < p
  · skip
    simp only [go_sem, d_law8_big, d_ref2_Cmp, d_arcs_Atan, d_arcs_Pi, d_ref2_Of, d_ref4_Of, d_ref4_Mul, d_ref4_Within, d_law8_known, hbig, g0, g1, decide_false, decide_true, Nat.reduceBEq, Nat.reduceBNe, Nat.reduceLT, Nat.reduceLeDiff, Nat.reduceAdd, Nat.reduceSub, Nat.reduceMul, Nat.reduceEqDiff, Int.reduceNeg, Int.reduceAdd, Int.reduceLT, Int.reduceLE, Int.reduceToNat, ↓reduceIte]
    first | exact hall | (and_intros <;> first | exact hall | omega | (show okDraw _ _ = true; kernel_rfl))
  by_cases g2 : m < 0
  · skip
    simp only [go_sem, d_law8_big, d_ref2_Cmp, d_arcs_Atan, d_arcs_Pi, d_ref2_Of, d_ref4_Of, d_ref4_Mul, d_ref4_Within, d_law8_known, hbig, g0, g1, g2, decide_false, decide_true, Nat.reduceBEq, Nat.reduceBNe, Nat.reduceLT, Nat.reduceLeDiff, Nat.reduceAdd, Nat.reduceSub, Nat.reduceMul, Nat.reduceEqDiff, Int.reduceNeg, Int.reduceAdd, Int.reduceLT, Int.reduceLE, Int.reduceToNat, ↓reduceIte]
    first | exact hall | (and_intros <;> first | exact hall | omega | (show okDraw _ _ = true; kernel_rfl))
  by_cases g3 : (50 : Int) < m
  · skip
    simp only [go_sem, d_law8_big, d_ref2_Cmp, d_arcs_Atan, d_arcs_Pi, d_ref2_Of, d_ref4_Of, d_ref4_Mul, d_ref4_Within, d_law8_known, hbig, g0, g1, g2, g3, decide_false, decide_true, Nat.reduceBEq, Nat.reduceBNe, Nat.reduceLT, Nat.reduceLeDiff, Nat.reduceAdd, Nat.reduceSub, Nat.reduceMul, Nat.reduceEqDiff, Int.reduceNeg, Int.reduceAdd, Int.reduceLT, Int.reduceLE, Int.reduceToNat, ↓reduceIte]
    first | exact hall | (and_intros <;> first | exact hall | omega | (show okDraw _ _ = true; kernel_rfl))
  by_cases g4 : b.q < a.q
  · skip
    simp only [go_sem, d_law8_big, d_ref2_Cmp, d_arcs_Atan, d_arcs_Pi, d_ref2_Of, d_ref4_Of, d_ref4_Mul, d_ref4_Within, d_law8_known, hbig, g0, g1, g2, g3, g4, decide_false, decide_true, Nat.reduceBEq, Nat.reduceBNe, Nat.reduceLT, Nat.reduceLeDiff, Nat.reduceAdd, Nat.reduceSub, Nat.reduceMul, Nat.reduceEqDiff, Int.reduceNeg, Int.reduceAdd, Int.reduceLT, Int.reduceLE, Int.reduceToNat, ↓reduceIte]
    first | exact hall | (and_intros <;> first | exact hall | omega | (show okDraw _ _ = true; kernel_rfl))
  have hab : a.q ≤ b.q := Rat.not_lt.1 g4
  obtain ⟨m1, m2, m3, m4⟩ := rises_all (p := p) (m := m) ra rb hab (by omega) (by omega) (by omega) (by omega)
  obtain ⟨r1, r2⟩ := rs_at (q := a.q) p ra (by omega)
  obtain ⟨r3, r4⟩ := rs_at (q := b.q) p rb (by omega)
  obtain ⟨r5, r6⟩ := rs_at (q := a.q) (p + m) ra (by omega)
  obtain ⟨r7, r8⟩ := rs_pi p (by omega)
  obtain ⟨r9, r10⟩ := rs_pi (p + m) (by omega)
  obtain ⟨r11, r12⟩ := rs_h p (by omega)
  have z1 : rs (qv false 1 (val [2])) ≤ 2 := by decide +kernel
  have l1 := bb_sz (L := 1000000000) r1 r2 (by omega)
  refine cut_seq fun C hC => ?_
  simp only [go_sem, d_law8_big, d_ref2_Cmp, d_arcs_Atan, d_arcs_Pi, d_ref2_Of, d_ref4_Of, d_ref4_Mul, d_ref4_Within, d_law8_known, hbig, m2, m4, decide_false, decide_true, g0, g1, g2, g3, g4, Nat.reduceBEq, Nat.reduceBNe, Nat.reduceLT, Nat.reduceLeDiff, Nat.reduceAdd, Nat.reduceSub, Nat.reduceMul, Nat.reduceEqDiff, Int.reduceNeg, Int.reduceAdd, Int.reduceLT, Int.reduceLE, Int.reduceToNat, ↓reduceIte]
  try and_intros
  all_goals try (first | omega | (show okDraw _ _ = true; kernel_rfl) | exact hall | assumption)
  subst hC
  refine cut_seq fun C hC => ?_
  simp only [go_sem, d_law8_big, d_ref2_Cmp, d_arcs_Atan, d_arcs_Pi, d_ref2_Of, d_ref4_Of, d_ref4_Mul, d_ref4_Within, d_law8_known, hbig, m2, m4, decide_false, decide_true, g0, g1, g2, g3, g4, Nat.reduceBEq, Nat.reduceBNe, Nat.reduceLT, Nat.reduceLeDiff, Nat.reduceAdd, Nat.reduceSub, Nat.reduceMul, Nat.reduceEqDiff, Int.reduceNeg, Int.reduceAdd, Int.reduceLT, Int.reduceLE, Int.reduceToNat, ↓reduceIte]
  try and_intros
  all_goals try (first | omega | (show okDraw _ _ = true; kernel_rfl) | exact hall | assumption)
  subst hC
  refine cut_seq fun C hC => ?_
  simp only [go_sem, d_law8_big, d_ref2_Cmp, d_arcs_Atan, d_arcs_Pi, d_ref2_Of, d_ref4_Of, d_ref4_Mul, d_ref4_Within, d_law8_known, hbig, m2, m4, decide_false, decide_true, g0, g1, g2, g3, g4, Nat.reduceBEq, Nat.reduceBNe, Nat.reduceLT, Nat.reduceLeDiff, Nat.reduceAdd, Nat.reduceSub, Nat.reduceMul, Nat.reduceEqDiff, Int.reduceNeg, Int.reduceAdd, Int.reduceLT, Int.reduceLE, Int.reduceToNat, ↓reduceIte]
  try and_intros
  all_goals try (first | omega | (show okDraw _ _ = true; kernel_rfl) | exact hall | assumption)
  subst hC
  simp only [go_sem, d_law8_big, d_ref2_Cmp, d_arcs_Atan, d_arcs_Pi, d_ref2_Of, d_ref4_Of, d_ref4_Mul, d_ref4_Within, d_law8_known, hbig, m2, m4, decide_false, decide_true, g0, g1, g2, g3, g4, Nat.reduceBEq, Nat.reduceBNe, Nat.reduceLT, Nat.reduceLeDiff, Nat.reduceAdd, Nat.reduceSub, Nat.reduceMul, Nat.reduceEqDiff, Int.reduceNeg, Int.reduceAdd, Int.reduceLT, Int.reduceLE, Int.reduceToNat, ↓reduceIte]
  unfold hHi hLo at *
  simp only [bb] at m3 r11 r12
  rw [if_pos m1, if_pos m3]
  and_intros
  all_goals first
    | exact hall
    | omega
    | (show okDraw _ _ = true; kernel_rfl)
    | exact bb_sz (K := 200) (by omega) (by omega) (by omega)
    | trivial

end Go.Proofs.Ytifnpelkoklcnaa
