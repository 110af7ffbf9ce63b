/- The law RatLooks: true of any number and whole number. Condition: rows shorter than 10^14. -/
import Derived.Test.YtdojdghhbjjoeaaAp
namespace Go.Proofs.Ytdojdghhbjjoeaa
open Go.RowKit
set_option linter.unusedSimpArgs false
set_option linter.unusedVariables false
def d_law2_RatLooks : Den := den2 aRat aInt (fun a b => a.sz ≤ 100000000000000 ∧ -9223372036854775808 ≤ b ∧ b < 9223372036854775808) fun a b => boolV true
set_option maxRecDepth 100000 in
set_option maxHeartbeats 4000000 in
theorem s_law2_RatLooks : Sound Try.prog 14 d_law2_RatLooks := by
  refine sound2 (l := [(48, d_rat_Norm), (22, d_ref2_Norm), (18, d_law2_one), (52, d_rat_Is), (53, d_ref2_Is), (54, d_rat_Zero), (25, d_ref2_Zero), (55, d_rat_Large), (56, d_ref2_Large), (26, d_rat_Neg), (44, d_ref2_Neg), (49, d_rat_Floor), (57, d_ref2_Floor), (27, d_rat_Int), (58, d_ref2_Int), (59, d_rat_Of), (21, d_law2_known)]) TT_ok ⟨s_rat_Norm, s_ref2_Norm, s_law2_one, s_rat_Is, s_ref2_Is, s_rat_Zero, s_ref2_Zero, s_rat_Large, s_ref2_Large, s_rat_Neg, s_ref2_Neg, s_rat_Floor, s_ref2_Floor, s_rat_Int, s_ref2_Int, s_rat_Of, s_law2_known, trivial⟩ mixed Try.func14 Try.ntmps14 Try.results14 Try.call14 rfl (by omega) (fun _ _ => rfl) ?_
  intro a b hp ha hb
  rw [codeK_start]
  have la := RR.lens hp.1
  have hok1 : limOk a.n := ha.1
  have hok2 : limOk a.d := ha.2
  by_cases h1 : (20 : Int) < a.n.length
  · skip
    simp only [go_sem, d_rat_Norm, d_ref2_Norm, d_law2_one, d_rat_Is, d_ref2_Is, d_rat_Zero, d_ref2_Zero, d_rat_Large, d_ref2_Large, d_rat_Neg, d_ref2_Neg, d_rat_Floor, d_ref2_Floor, d_rat_Int, d_ref2_Int, d_rat_Of, d_law2_known, h1, Nat.reduceBEq, Nat.reduceBNe, Nat.reduceLT, Nat.reduceLeDiff, Nat.reduceAdd, Nat.reduceSub, Nat.reduceMul, Nat.reduceEqDiff, Int.reduceNeg, Int.reduceAdd, Int.reduceLT, Int.reduceLE, Int.reduceToNat, ↓reduceIte]
    try exact trivial
  by_cases h2 : (20 : Int) < a.d.length
  · skip
    simp only [go_sem, d_rat_Norm, d_ref2_Norm, d_law2_one, d_rat_Is, d_ref2_Is, d_rat_Zero, d_ref2_Zero, d_rat_Large, d_ref2_Large, d_rat_Neg, d_ref2_Neg, d_rat_Floor, d_ref2_Floor, d_rat_Int, d_ref2_Int, d_rat_Of, d_law2_known, h1, h2, Nat.reduceBEq, Nat.reduceBNe, Nat.reduceLT, Nat.reduceLeDiff, Nat.reduceAdd, Nat.reduceSub, Nat.reduceMul, Nat.reduceEqDiff, Int.reduceNeg, Int.reduceAdd, Int.reduceLT, Int.reduceLE, Int.reduceToNat, ↓reduceIte]
    try exact trivial
  have za : a.sz ≤ 20 := RR.sz_le (by omega) (by omega)
  have qa : rs a.q ≤ 20 := rs_ok ha za (by omega)
  by_cases h3 : (16 : Int) < (a.n.length : Int) + a.d.length
  · skip
    by_cases h4 : (1 : Int) < a.d.length
    · skip
      simp only [go_sem, d_rat_Norm, d_ref2_Norm, d_law2_one, d_rat_Is, d_ref2_Is, d_rat_Zero, d_ref2_Zero, d_rat_Large, d_ref2_Large, d_rat_Neg, d_ref2_Neg, d_rat_Floor, d_ref2_Floor, d_rat_Int, d_ref2_Int, d_rat_Of, d_law2_known, h1, h2, h3, h4, Nat.reduceBEq, Nat.reduceBNe, Nat.reduceLT, Nat.reduceLeDiff, Nat.reduceAdd, Nat.reduceSub, Nat.reduceMul, Nat.reduceEqDiff, Int.reduceNeg, Int.reduceAdd, Int.reduceLT, Int.reduceLE, Int.reduceToNat, ↓reduceIte]
      and_intros
      all_goals first
        | exact trivial
        | assumption
        | omega
        | (show okDraw _ _ = true; kernel_rfl)
        | ((repeat' first | assumption | exact Nat.le_refl _ | apply rsb_add | apply rsb_sub | apply rsb_div | apply rsb_mul | apply rsb_neg | apply rsb_floor | apply rsb_int) <;> omega)
    · skip
      simp only [go_sem, d_rat_Norm, d_ref2_Norm, d_law2_one, d_rat_Is, d_ref2_Is, d_rat_Zero, d_ref2_Zero, d_rat_Large, d_ref2_Large, d_rat_Neg, d_ref2_Neg, d_rat_Floor, d_ref2_Floor, d_rat_Int, d_ref2_Int, d_rat_Of, d_law2_known, h1, h2, h3, h4, eq_self, decide_true, beq_self_eq_true, Nat.reduceBEq, Nat.reduceBNe, Nat.reduceLT, Nat.reduceLeDiff, Nat.reduceAdd, Nat.reduceSub, Nat.reduceMul, Nat.reduceEqDiff, Int.reduceNeg, Int.reduceAdd, Int.reduceLT, Int.reduceLE, Int.reduceToNat, ↓reduceIte]
      and_intros
      all_goals first
        | exact trivial
        | assumption
        | omega
        | (show okDraw _ _ = true; kernel_rfl)
        | ((repeat' first | assumption | exact Nat.le_refl _ | apply rsb_add | apply rsb_sub | apply rsb_div | apply rsb_mul | apply rsb_neg | apply rsb_floor | apply rsb_int) <;> omega)
  · skip
    simp only [go_sem, d_rat_Norm, d_ref2_Norm, d_law2_one, d_rat_Is, d_ref2_Is, d_rat_Zero, d_ref2_Zero, d_rat_Large, d_ref2_Large, d_rat_Neg, d_ref2_Neg, d_rat_Floor, d_ref2_Floor, d_rat_Int, d_ref2_Int, d_rat_Of, d_law2_known, h1, h2, h3, eq_self, decide_true, beq_self_eq_true, Nat.reduceBEq, Nat.reduceBNe, Nat.reduceLT, Nat.reduceLeDiff, Nat.reduceAdd, Nat.reduceSub, Nat.reduceMul, Nat.reduceEqDiff, Int.reduceNeg, Int.reduceAdd, Int.reduceLT, Int.reduceLE, Int.reduceToNat, ↓reduceIte]
    and_intros
    all_goals first
      | exact trivial
      | assumption
      | omega
      | (show okDraw _ _ = true; kernel_rfl)
      | ((repeat' first | assumption | exact Nat.le_refl _ | apply rsb_add | apply rsb_sub | apply rsb_div | apply rsb_mul | apply rsb_neg | apply rsb_floor | apply rsb_int) <;> omega)

end Go.Proofs.Ytdojdghhbjjoeaa
