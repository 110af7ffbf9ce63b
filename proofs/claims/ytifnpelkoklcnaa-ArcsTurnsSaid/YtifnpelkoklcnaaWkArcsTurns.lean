/- The law ArcsTurns. Condition: rows shorter than 10^14. -/
import Derived.Test.YtifnpelkoklcnaaMg
import Derived.Test.YtifnpelkoklcnaaBj
namespace Go.Proofs.Ytifnpelkoklcnaa
open Go.RowKit
set_option linter.unusedSimpArgs false
set_option linter.unusedVariables false
def d_law8_ArcsTurns : Den := den2 aRat aInt (fun a p => a.sz ≤ 100000000000000) fun a p => boolV true
set_option maxRecDepth 100000 in
set_option maxHeartbeats 4000000 in
theorem s_law8_ArcsTurns : Sound Try.prog 4 d_law8_ArcsTurns := by
  refine sound2 (fz := nofz) (l := [(20, d_law8_big), (21, d_ref2_Zero), (22, d_ref2_Norm), (24, d_ref2_Int), (23, d_ref2_Div), (25, d_arcs_Atan), (18, d_ref2_Neg), (27, d_arcs_Pi), (28, d_ref2_Of), (17, d_ref4_Of), (26, d_ref4_Mul), (30, d_ref4_Neg), (29, d_ref4_Side), (31, d_ref4_Add), (32, d_law8_known)]) TT_ok ⟨s_law8_big, s_ref2_Zero, s_ref2_Norm, s_ref2_Int, s_ref2_Div, s_arcs_Atan, s_ref2_Neg, s_arcs_Pi, s_ref2_Of, s_ref4_Of, s_ref4_Mul, s_ref4_Neg, s_ref4_Side, s_ref4_Add, s_law8_known, trivial⟩ mixed Try.func4 Try.ntmps4 Try.results4 Try.call4 rfl (by omega) (fun _ _ => rfl) ?_
  intro a p hp ha hp
  rw [codeK_start]
  have hall : ∀ r ∈ [a], r.sz ≤ 100000000000000 := by
    intro r hr
    simp only [List.mem_cons, List.not_mem_nil, or_false] at hr
    rcases hr with rfl <;> first | exact hp | exact hp.1 | exact hp.2 | exact hp.2.1 | exact hp.2.2 | exact hp.2.2.1
  by_cases hbig : [a].any bigR = true
  · skip
    simp only [go_sem, d_law8_big, d_ref2_Zero, d_ref2_Norm, d_ref2_Int, d_ref2_Div, d_arcs_Atan, d_ref2_Neg, d_arcs_Pi, d_ref2_Of, d_ref4_Of, d_ref4_Mul, d_ref4_Neg, d_ref4_Side, d_ref4_Add, d_law8_known, hbig, Nat.reduceBEq, Nat.reduceBNe, Nat.reduceLT, Nat.reduceLeDiff, Nat.reduceAdd, Nat.reduceSub, Nat.reduceMul, Nat.reduceEqDiff, Int.reduceNeg, Int.reduceAdd, Int.reduceLT, Int.reduceLE, Int.reduceToNat, ↓reduceIte]
    exact hall
  rw [Bool.not_eq_true] at hbig
  have sa : a.sz ≤ 3 := not_big (any_false hbig a (by simp))
  have ra : rs a.q ≤ 3 := rs_ok ha sa (by omega)
  by_cases g0 : p < 0
  · skip
    simp only [go_sem, d_law8_big, d_ref2_Zero, d_ref2_Norm, d_ref2_Int, d_ref2_Div, d_arcs_Atan, d_ref2_Neg, d_arcs_Pi, d_ref2_Of, d_ref4_Of, d_ref4_Mul, d_ref4_Neg, d_ref4_Side, d_ref4_Add, d_law8_known, hbig, g0, decide_false, decide_true, Nat.reduceBEq, Nat.reduceBNe, Nat.reduceLT, Nat.reduceLeDiff, Nat.reduceAdd, Nat.reduceSub, Nat.reduceMul, Nat.reduceEqDiff, Int.reduceNeg, Int.reduceAdd, Int.reduceLT, Int.reduceLE, Int.reduceToNat, ↓reduceIte]
    first | exact hall | (and_intros <;> first | exact hall | omega | (show okDraw _ _ = true; kernel_rfl))
  by_cases g1 : (80 : Int) < p
  · skip
    simp only [go_sem, d_law8_big, d_ref2_Zero, d_ref2_Norm, d_ref2_Int, d_ref2_Div, d_arcs_Atan, d_ref2_Neg, d_arcs_Pi, d_ref2_Of, d_ref4_Of, d_ref4_Mul, d_ref4_Neg, d_ref4_Side, d_ref4_Add, d_law8_known, hbig, g0, g1, decide_false, decide_true, Nat.reduceBEq, Nat.reduceBNe, Nat.reduceLT, Nat.reduceLeDiff, Nat.reduceAdd, Nat.reduceSub, Nat.reduceMul, Nat.reduceEqDiff, Int.reduceNeg, Int.reduceAdd, Int.reduceLT, Int.reduceLE, Int.reduceToNat, ↓reduceIte]
    first | exact hall | (and_intros <;> first | exact hall | omega | (show okDraw _ _ = true; kernel_rfl))
  by_cases g2 : a.q = 0
  · skip
    simp only [go_sem, d_law8_big, d_ref2_Zero, d_ref2_Norm, d_ref2_Int, d_ref2_Div, d_arcs_Atan, d_ref2_Neg, d_arcs_Pi, d_ref2_Of, d_ref4_Of, d_ref4_Mul, d_ref4_Neg, d_ref4_Side, d_ref4_Add, d_law8_known, hbig, g0, g1, g2, decide_false, decide_true, Nat.reduceBEq, Nat.reduceBNe, Nat.reduceLT, Nat.reduceLeDiff, Nat.reduceAdd, Nat.reduceSub, Nat.reduceMul, Nat.reduceEqDiff, Int.reduceNeg, Int.reduceAdd, Int.reduceLT, Int.reduceLE, Int.reduceToNat, ↓reduceIte]
    first | exact hall | (and_intros <;> first | exact hall | omega | (show okDraw _ _ = true; kernel_rfl))
  have e3 := rr_ab a
  have r0 := rs_ab ra (by omega)
  have hpos : 0 < ab a.q := ab_gt g2
  have rp := rs_parts ra
  have sy : (⟨false, (cr a.q).n, (cr a.q).d⟩ : RR).sz ≤ 3 := RR.sz_le rp.1 rp.2
  obtain ⟨n1, n2⟩ := at_neg (q := ab a.q) p
  have m2 := turns_all (p := p) r0 hpos (by omega)
  have ri := rs_inv' hpos
  have rn := rs_neg (ab a.q)
  obtain ⟨r1, r2⟩ := rs_at (q := ab a.q) p r0 (by omega)
  obtain ⟨r3, r4⟩ := rs_at (q := 1 / ab a.q) p (by omega) (by omega)
  obtain ⟨r7, r8⟩ := rs_pi p (by omega)
  obtain ⟨r11, r12⟩ := rs_h p (by omega)
  have z1 : rs (qv false 1 (val [2])) ≤ 2 := by decide +kernel
  have z2 : rs ((1 : Int) : Rat) ≤ 2 := by decide +kernel
  have hq1 : ((1 : Int) : Rat) / ab a.q = 1 / ab a.q := rfl
  refine cut_seq fun C hC => ?_
  simp only [go_sem, d_law8_big, d_ref2_Zero, d_ref2_Norm, d_ref2_Int, d_ref2_Div, d_arcs_Atan, d_ref2_Neg, d_arcs_Pi, d_ref2_Of, d_ref4_Of, d_ref4_Mul, d_ref4_Neg, d_ref4_Side, d_ref4_Add, d_law8_known, hbig, e3, n1, n2, hq1, decide_false, decide_true, g0, g1, g2, Nat.reduceBEq, Nat.reduceBNe, Nat.reduceLT, Nat.reduceLeDiff, Nat.reduceAdd, Nat.reduceSub, Nat.reduceMul, Nat.reduceEqDiff, Int.reduceNeg, Int.reduceAdd, Int.reduceLT, Int.reduceLE, Int.reduceToNat, ↓reduceIte]
  try and_intros
  all_goals try (first | omega | (show okDraw _ _ = true; kernel_rfl) | exact hall | assumption)
  subst hC
  refine cut_seq fun C hC => ?_
  simp only [go_sem, d_law8_big, d_ref2_Zero, d_ref2_Norm, d_ref2_Int, d_ref2_Div, d_arcs_Atan, d_ref2_Neg, d_arcs_Pi, d_ref2_Of, d_ref4_Of, d_ref4_Mul, d_ref4_Neg, d_ref4_Side, d_ref4_Add, d_law8_known, hbig, e3, n1, n2, hq1, decide_false, decide_true, g0, g1, g2, Nat.reduceBEq, Nat.reduceBNe, Nat.reduceLT, Nat.reduceLeDiff, Nat.reduceAdd, Nat.reduceSub, Nat.reduceMul, Nat.reduceEqDiff, Int.reduceNeg, Int.reduceAdd, Int.reduceLT, Int.reduceLE, Int.reduceToNat, ↓reduceIte]
  try and_intros
  all_goals try (first | omega | (show okDraw _ _ = true; kernel_rfl) | exact hall | assumption)
  subst hC
  refine cut_seq fun C hC => ?_
  simp only [go_sem, d_law8_big, d_ref2_Zero, d_ref2_Norm, d_ref2_Int, d_ref2_Div, d_arcs_Atan, d_ref2_Neg, d_arcs_Pi, d_ref2_Of, d_ref4_Of, d_ref4_Mul, d_ref4_Neg, d_ref4_Side, d_ref4_Add, d_law8_known, hbig, e3, n1, n2, hq1, decide_false, decide_true, g0, g1, g2, Nat.reduceBEq, Nat.reduceBNe, Nat.reduceLT, Nat.reduceLeDiff, Nat.reduceAdd, Nat.reduceSub, Nat.reduceMul, Nat.reduceEqDiff, Int.reduceNeg, Int.reduceAdd, Int.reduceLT, Int.reduceLE, Int.reduceToNat, ↓reduceIte]
  try and_intros
  all_goals try (first | omega | (show okDraw _ _ = true; kernel_rfl) | exact hall | assumption)
  subst hC
  simp only [go_sem, d_law8_big, d_ref2_Zero, d_ref2_Norm, d_ref2_Int, d_ref2_Div, d_arcs_Atan, d_ref2_Neg, d_arcs_Pi, d_ref2_Of, d_ref4_Of, d_ref4_Mul, d_ref4_Neg, d_ref4_Side, d_ref4_Add, d_law8_known, hbig, e3, n1, n2, hq1, decide_false, decide_true, g0, g1, g2, Nat.reduceBEq, Nat.reduceBNe, Nat.reduceLT, Nat.reduceLeDiff, Nat.reduceAdd, Nat.reduceSub, Nat.reduceMul, Nat.reduceEqDiff, Int.reduceNeg, Int.reduceAdd, Int.reduceLT, Int.reduceLE, Int.reduceToNat, ↓reduceIte]
  have y1 := rs_add (atLo (ab a.q) p) (atLo (1 / ab a.q) p)
  have y2 := rs_add (atHi (ab a.q) p) (atHi (1 / ab a.q) p)
  have y3 := rs_neg (atLo (ab a.q) p)
  have y4 := rs_neg (atHi (ab a.q) p)
  have hs := side_self (Rat.neg_le_neg (at_le (ab a.q) p))
  unfold hHi hLo at *
  simp only [bb] at m2 r11 r12
  rw [if_pos hs, if_pos m2]
  and_intros
  all_goals first
    | exact hall
    | omega
    | (show okDraw _ _ = true; kernel_rfl)
    | exact bb_sz (K := 200) (by omega) (by omega) (by omega)
    | trivial

end Go.Proofs.Ytifnpelkoklcnaa
