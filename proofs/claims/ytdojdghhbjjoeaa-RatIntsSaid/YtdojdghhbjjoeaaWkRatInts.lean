/- The law RatInts: true of any two whole numbers. -/
import Derived.Test.YtdojdghhbjjoeaaAp
namespace Go.Proofs.Ytdojdghhbjjoeaa
open Go.RowKit
set_option linter.unusedSimpArgs false
set_option linter.unusedVariables false
theorem mul_bound {a b : Int} (h1 : -1073741824 ≤ a) (h2 : a ≤ 1073741824) (h3 : -1073741824 ≤ b) (h4 : b ≤ 1073741824) : -1152921504606846976 ≤ a * b ∧ a * b ≤ 1152921504606846976 := by
  have h : (a * b).natAbs ≤ 1073741824 * 1073741824 := by rw [Int.natAbs_mul]; exact Nat.mul_le_mul (by omega) (by omega)
  omega
theorem rs_int {n : Int} (h1 : -9223372036854775808 ≤ n) (h2 : n ≤ 9223372036854775808) : rs (n : Rat) ≤ 2 := by
  unfold rs
  rw [(int_parts n).1, (int_parts n).2.1]
  exact Nat.max_le.2 ⟨limbs_len_le (by omega), by have := limbs_one_len; omega⟩
theorem cmpQ_int_lt {a b : Int} (h : a < b) : cmpQ (a : Rat) (b : Rat) = -1 := if_pos (Rat.intCast_lt_intCast.2 h)
theorem cmpQ_int_eq {a b : Int} (h : a = b) : cmpQ (a : Rat) (b : Rat) = 0 := by subst h; rw [cmpQ_zero]
theorem cmpQ_int_gt {a b : Int} (h : b < a) : cmpQ (a : Rat) (b : Rat) = 1 := by
  unfold cmpQ
  rw [if_neg (by rw [Rat.intCast_lt_intCast]; omega), if_pos (Rat.intCast_lt_intCast.2 h)]
def d_law2_RatInts : Den := den2 aInt aInt (fun a b => (-9223372036854775808 ≤ a ∧ a ≤ 9223372036854775807) ∧ -9223372036854775808 ≤ b ∧ b ≤ 9223372036854775807) fun a b => boolV true
set_option maxRecDepth 100000 in
set_option maxHeartbeats 4000000 in
theorem s_law2_RatInts : Sound Try.prog 5 d_law2_RatInts := by
  refine sound2 (l := [(21, d_law2_known), (27, d_rat_Int), (19, d_rat_Add), (18, d_law2_one), (24, d_rat_Sub), (20, d_rat_Mul), (28, d_rat_Cmp)]) TT_ok ⟨s_law2_known, s_rat_Int, s_rat_Add, s_law2_one, s_rat_Sub, s_rat_Mul, s_rat_Cmp, trivial⟩ mixed Try.func5 Try.ntmps5 Try.results5 Try.call5 rfl (by omega) (fun _ _ => rfl) ?_
  intro a b hp ha hb
  rw [codeK_start]
  by_cases h1 : a < -1073741824
  · skip
    simp only [go_sem, d_law2_known, d_rat_Int, d_rat_Add, d_law2_one, d_rat_Sub, d_rat_Mul, d_rat_Cmp, h1, Nat.reduceBEq, Nat.reduceBNe, Nat.reduceLT, Nat.reduceLeDiff, Nat.reduceAdd, Nat.reduceSub, Nat.reduceMul, Nat.reduceEqDiff, Int.reduceNeg, Int.reduceAdd, Int.reduceLT, Int.reduceLE, Int.reduceToNat, ↓reduceIte]
    try exact trivial
  by_cases h2 : (1073741824 : Int) < a
  · skip
    simp only [go_sem, d_law2_known, d_rat_Int, d_rat_Add, d_law2_one, d_rat_Sub, d_rat_Mul, d_rat_Cmp, h1, h2, Nat.reduceBEq, Nat.reduceBNe, Nat.reduceLT, Nat.reduceLeDiff, Nat.reduceAdd, Nat.reduceSub, Nat.reduceMul, Nat.reduceEqDiff, Int.reduceNeg, Int.reduceAdd, Int.reduceLT, Int.reduceLE, Int.reduceToNat, ↓reduceIte]
    try exact trivial
  by_cases h3 : b < -1073741824
  · skip
    simp only [go_sem, d_law2_known, d_rat_Int, d_rat_Add, d_law2_one, d_rat_Sub, d_rat_Mul, d_rat_Cmp, h1, h2, h3, Nat.reduceBEq, Nat.reduceBNe, Nat.reduceLT, Nat.reduceLeDiff, Nat.reduceAdd, Nat.reduceSub, Nat.reduceMul, Nat.reduceEqDiff, Int.reduceNeg, Int.reduceAdd, Int.reduceLT, Int.reduceLE, Int.reduceToNat, ↓reduceIte]
    try exact trivial
  by_cases h4 : (1073741824 : Int) < b
  · skip
    simp only [go_sem, d_law2_known, d_rat_Int, d_rat_Add, d_law2_one, d_rat_Sub, d_rat_Mul, d_rat_Cmp, h1, h2, h3, h4, Nat.reduceBEq, Nat.reduceBNe, Nat.reduceLT, Nat.reduceLeDiff, Nat.reduceAdd, Nat.reduceSub, Nat.reduceMul, Nat.reduceEqDiff, Int.reduceNeg, Int.reduceAdd, Int.reduceLT, Int.reduceLE, Int.reduceToNat, ↓reduceIte]
    try exact trivial
  have e1 : (a : Rat) + (b : Rat) = ((a + b : Int) : Rat) := (Rat.intCast_add a b).symm
  have e2 : (a : Rat) - (b : Rat) = ((a - b : Int) : Rat) := (Rat.intCast_sub a b).symm
  have e3 : (a : Rat) * (b : Rat) = ((a * b : Int) : Rat) := (Rat.intCast_mul a b).symm
  have hm := mul_bound (show -1073741824 ≤ a by omega) (show a ≤ 1073741824 by omega) (show -1073741824 ≤ b by omega) (show b ≤ 1073741824 by omega)
  have z1 := rs_int (n := a) (by omega) (by omega)
  have z2 := rs_int (n := b) (by omega) (by omega)
  rcases Int.lt_trichotomy a b with hab | hab | hab
  · have ek : cmpQ (a : Rat) (b : Rat) = -1 := cmpQ_int_lt hab
    simp only [go_sem, d_law2_known, d_rat_Int, d_rat_Add, d_law2_one, d_rat_Sub, d_rat_Mul, d_rat_Cmp, h1, h2, h3, h4, e1, e2, e3, eq_self, decide_true, ek, hab, show ¬ b < a by omega, Nat.reduceBEq, Nat.reduceBNe, Nat.reduceLT, Nat.reduceLeDiff, Nat.reduceAdd, Nat.reduceSub, Nat.reduceMul, Nat.reduceEqDiff, Int.reduceNeg, Int.reduceAdd, Int.reduceLT, Int.reduceLE, Int.reduceToNat, ↓reduceIte]
    and_intros
    all_goals first
      | exact trivial
      | assumption
      | omega
      | (show okDraw _ _ = true; kernel_rfl)
      | ((repeat' first | assumption | exact Nat.le_refl _ | apply rsb_add | apply rsb_sub | apply rsb_div | apply rsb_mul | apply rsb_neg | apply rsb_floor | apply rsb_int) <;> omega)
  · have ek : cmpQ (a : Rat) (b : Rat) = 0 := cmpQ_int_eq hab
    simp only [go_sem, d_law2_known, d_rat_Int, d_rat_Add, d_law2_one, d_rat_Sub, d_rat_Mul, d_rat_Cmp, h1, h2, h3, h4, e1, e2, e3, eq_self, decide_true, ek, show ¬ a < b by omega, show ¬ b < a by omega, Nat.reduceBEq, Nat.reduceBNe, Nat.reduceLT, Nat.reduceLeDiff, Nat.reduceAdd, Nat.reduceSub, Nat.reduceMul, Nat.reduceEqDiff, Int.reduceNeg, Int.reduceAdd, Int.reduceLT, Int.reduceLE, Int.reduceToNat, ↓reduceIte]
    and_intros
    all_goals first
      | exact trivial
      | assumption
      | omega
      | (show okDraw _ _ = true; kernel_rfl)
      | ((repeat' first | assumption | exact Nat.le_refl _ | apply rsb_add | apply rsb_sub | apply rsb_div | apply rsb_mul | apply rsb_neg | apply rsb_floor | apply rsb_int) <;> omega)
  · have ek : cmpQ (a : Rat) (b : Rat) = 1 := cmpQ_int_gt hab
    simp only [go_sem, d_law2_known, d_rat_Int, d_rat_Add, d_law2_one, d_rat_Sub, d_rat_Mul, d_rat_Cmp, h1, h2, h3, h4, e1, e2, e3, eq_self, decide_true, ek, show ¬ a < b by omega, hab, Nat.reduceBEq, Nat.reduceBNe, Nat.reduceLT, Nat.reduceLeDiff, Nat.reduceAdd, Nat.reduceSub, Nat.reduceMul, Nat.reduceEqDiff, Int.reduceNeg, Int.reduceAdd, Int.reduceLT, Int.reduceLE, Int.reduceToNat, ↓reduceIte]
    and_intros
    all_goals first
      | exact trivial
      | assumption
      | omega
      | (show okDraw _ _ = true; kernel_rfl)
      | ((repeat' first | assumption | exact Nat.le_refl _ | apply rsb_add | apply rsb_sub | apply rsb_div | apply rsb_mul | apply rsb_neg | apply rsb_floor | apply rsb_int) <;> omega)

end Go.Proofs.Ytdojdghhbjjoeaa
