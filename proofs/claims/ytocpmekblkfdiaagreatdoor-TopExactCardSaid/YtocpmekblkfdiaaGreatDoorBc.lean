/- ball: Is, Add, Sub, around, Mul, zero, Div, Neg, Abs, power, Pow, held, Down, Up, Trim, Width, Has, Within, Side, Meet, by the abstract walk. Conditions: numbers of at most 10^8 limbs. -/
import Derived.Test.YtocpmekblkfdiaaGreatDoorBb
namespace Go.Proofs.YtocpmekblkfdiaaGreatDoor
open Go.RowKit
set_option linter.unusedSimpArgs false
set_option linter.unusedVariables false
def d_ball_Is : Den := den1 aBall (fun a => a.sz ≤ 1000000000) fun a => boolV (isB a)
set_option maxRecDepth 100000 in
set_option maxHeartbeats 1000000 in
theorem s_ball_Is : Sound Tryz.prog 21 d_ball_Is := by
  refine sound1 (fz := nofz) (l := [(62, d_rat_Is), (22, d_rat_Cmp)]) TT_ok ⟨s_rat_Is, s_rat_Cmp, trivial⟩ mixed Tryz.func21 Tryz.ntmps21 Tryz.results21 Tryz.call21 rfl (by omega) (fun _ => rfl) ?_
  intro a hp ha
  rw [codeK_start]
  simp only [go_sem, d_rat_Is, d_rat_Cmp, Nat.reduceBEq, Nat.reduceBNe, Nat.reduceLT, Nat.reduceLeDiff, Nat.reduceAdd, Nat.reduceSub, Nat.reduceMul, Nat.reduceEqDiff, Int.reduceNeg, Int.reduceAdd, Int.reduceLT, Int.reduceLE, Int.reduceToNat, ↓reduceIte]
  have l := BB.lens hp
  refine ⟨⟨by omega, ha.1⟩, ?_⟩
  unfold isB
  split
  · rename_i h1
    refine ⟨⟨by omega, ha.2⟩, ?_⟩
    split
    · rename_i h2
      exact ⟨⟨by omega, by omega⟩, by rw [h1, h2]; rfl⟩
    · rename_i h2; rw [Bool.not_eq_true] at h2; rw [h2]; simp
  · rename_i h1; rw [Bool.not_eq_true] at h1; rw [h1]; rfl
def d_ball_Width : Den := den1 aBall (fun a => a.sz ≤ 100000000) fun a => ratV (cr (a.hi.q - a.lo.q))
set_option maxRecDepth 100000 in
set_option maxHeartbeats 1000000 in
theorem s_ball_Width : Sound Tryz.prog 23 d_ball_Width := by
  refine sound1 (fz := nofz) (l := [(42, d_rat_Sub)]) TT_ok ⟨s_rat_Sub, trivial⟩ mixed Tryz.func23 Tryz.ntmps23 Tryz.results23 Tryz.call23 rfl (by omega) (fun _ => rfl) ?_
  intro a hp ha
  rw [codeK_start]
  simp only [go_sem, d_rat_Sub, Nat.reduceBEq, Nat.reduceBNe, Nat.reduceLT, Nat.reduceLeDiff, Nat.reduceAdd, Nat.reduceSub, Nat.reduceMul, Nat.reduceEqDiff, Int.reduceNeg, Int.reduceAdd, Int.reduceLT, Int.reduceLE, Int.reduceToNat, ↓reduceIte]
  have l := BB.lens hp
  have q1 : rs a.lo.q ≤ 100000000 := rs_ok ha.1 l.1 (by omega)
  have q2 : rs a.hi.q ≤ 100000000 := rs_ok ha.2 l.2 (by omega)
  and_intros
  all_goals first
    | exact trivial
    | assumption
    | omega
    | (show okDraw _ _ = true; kernel_rfl)
    | rfl
    | ((repeat' first | assumption | exact Nat.le_refl _ | apply rsb_add | apply rsb_sub | apply rsb_div | apply rsb_mul | apply rsb_neg) <;> omega)
end Go.Proofs.YtocpmekblkfdiaaGreatDoor
