/- ball: Is, Add, Sub, around, Mul, zero, Div, Neg, Abs, power, Pow, held, Down, Up, Trim, Width, Has, Within, Side, Meet, by the abstract walk. Conditions: numbers of at most 10^8 limbs. -/
import Derived.Test.YtjfaefgabaimaaaGreatBb
namespace Go.Proofs.YtjfaefgabaimaaaGreat
open Go.RowKit
set_option linter.unusedSimpArgs false
set_option linter.unusedVariables false
def d_ball_Neg : Den := den1 aBall (fun a => a.sz ≤ 100000000) fun a => ballV (bb (-a.hi.q) (-a.lo.q))
set_option maxRecDepth 100000 in
set_option maxHeartbeats 1000000 in
theorem s_ball_Neg : Sound Tryz.prog 53 d_ball_Neg := by
  refine sound1 (fz := nofz) (l := [(95, d_rat_Neg)]) TT_ok ⟨s_rat_Neg, trivial⟩ mixed Tryz.func53 Tryz.ntmps53 Tryz.results53 Tryz.call53 rfl (by omega) (fun _ => rfl) ?_
  intro a hp ha
  rw [codeK_start]
  simp only [go_sem, d_rat_Neg, Nat.reduceBEq, Nat.reduceBNe, Nat.reduceLT, Nat.reduceLeDiff, Nat.reduceAdd, Nat.reduceSub, Nat.reduceMul, Nat.reduceEqDiff, Int.reduceNeg, Int.reduceAdd, Int.reduceLT, Int.reduceLE, Int.reduceToNat, ↓reduceIte]
  have l := BB.lens hp
  have q1 : rs a.lo.q ≤ 100000000 := rs_ok ha.1 l.1 (by omega)
  have q2 : rs a.hi.q ≤ 100000000 := rs_ok ha.2 l.2 (by omega)
  and_intros
  all_goals first
    | exact trivial
    | assumption
    | omega
    | (show okDraw _ _ = true; kernel_rfl)
    | rfl
    | ((repeat' first | assumption | exact Nat.le_refl _ | apply rsb_add | apply rsb_sub | apply rsb_div | apply rsb_mul | apply rsb_neg) <;> omega)
end Go.Proofs.YtjfaefgabaimaaaGreat
