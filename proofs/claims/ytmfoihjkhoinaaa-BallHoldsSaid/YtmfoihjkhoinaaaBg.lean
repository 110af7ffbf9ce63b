/- ball.Div by the abstract walk. Condition: numbers of at most 10^7 limbs. -/
import Derived.Test.YtmfoihjkhoinaaaBc
import Derived.Test.YtmfoihjkhoinaaaBj
namespace Go.Proofs.Ytmfoihjkhoinaaa
open Go.RowKit
set_option linter.unusedSimpArgs false
set_option linter.unusedVariables false

def d_ball_Div : Den := den2 aBall aBall (fun a b => a.sz ≤ 10000000 ∧ b.sz ≤ 10000000) fun a b => ballOkV (bb (divLo a b) (divHi a b)) (!zeroIn b)
set_option maxRecDepth 100000 in
set_option maxHeartbeats 4000000 in
theorem s_ball_Div : Sound Try.prog 133 d_ball_Div := by
  refine sound2 (fz := nofz) (l := [(194, d_ball_zero), (123, d_ball_Has), (84, d_ball_Of), (71, d_rat_Int), (56, d_rat_Div), (89, d_ball_Mul)]) TT_ok ⟨s_ball_zero, s_ball_Has, s_ball_Of, s_rat_Int, s_rat_Div, s_ball_Mul, trivial⟩ mixed Try.func133 Try.ntmps133 Try.results133 Try.call133 rfl (by omega) (fun _ _ => rfl) ?_
  intro a b hp ha hb
  rw [codeK_start]
  have l := BB.lens hp.1
  have m := BB.lens hp.2
  have q1 : rs a.lo.q ≤ 10000000 := rs_ok ha.1 l.1 (by omega)
  have q2 : rs a.hi.q ≤ 10000000 := rs_ok ha.2 l.2 (by omega)
  have q3 : rs b.lo.q ≤ 10000000 := rs_ok hb.1 m.1 (by omega)
  have q4 : rs b.hi.q ≤ 10000000 := rs_ok hb.2 m.2 (by omega)
  have s1 := rs_one_by q3
  have s2 := rs_one_by q4
  have t1 : rs (1 : Rat) ≤ 1 := rs1 (by omega)
  have t0 : rs (0 : Rat) ≤ 1 := rs0 (by omega)
  cases hz : hasB b.lo.q b.hi.q 0
  · skip
    have e1 : divLo a b = mulLo a ⟨cr (1 / b.hi.q), cr (1 / b.lo.q)⟩ := by unfold divLo zeroIn; rw [hz]; rfl
    have e2 : divHi a b = mulHi a ⟨cr (1 / b.hi.q), cr (1 / b.lo.q)⟩ := by unfold divHi zeroIn; rw [hz]; rfl
    have e3 : zeroIn b = false := hz
    refine cut_seq fun C hC => ?_
    simp only [go_sem, d_ball_zero, d_ball_Has, d_ball_Of, d_rat_Int, d_rat_Div, d_ball_Mul, hz, int1, int0, e1, e2, e3, Nat.reduceBEq, Nat.reduceBNe, Nat.reduceLT, Nat.reduceLeDiff, Nat.reduceAdd, Nat.reduceSub, Nat.reduceMul, Nat.reduceEqDiff, Int.reduceNeg, Int.reduceAdd, Int.reduceLT, Int.reduceLE, Int.reduceToNat, ↓reduceIte]
    try and_intros
    all_goals try (first | assumption | omega | (show okDraw _ _ = true; kernel_rfl))
    subst hC
    refine cut_seq fun C hC => ?_
    simp only [go_sem, d_ball_zero, d_ball_Has, d_ball_Of, d_rat_Int, d_rat_Div, d_ball_Mul, hz, int1, int0, e1, e2, e3, Nat.reduceBEq, Nat.reduceBNe, Nat.reduceLT, Nat.reduceLeDiff, Nat.reduceAdd, Nat.reduceSub, Nat.reduceMul, Nat.reduceEqDiff, Int.reduceNeg, Int.reduceAdd, Int.reduceLT, Int.reduceLE, Int.reduceToNat, ↓reduceIte]
    try and_intros
    all_goals try (first | assumption | omega | (show okDraw _ _ = true; kernel_rfl))
    subst hC
    refine cut_seq fun C hC => ?_
    simp only [go_sem, d_ball_zero, d_ball_Has, d_ball_Of, d_rat_Int, d_rat_Div, d_ball_Mul, hz, int1, int0, e1, e2, e3, Nat.reduceBEq, Nat.reduceBNe, Nat.reduceLT, Nat.reduceLeDiff, Nat.reduceAdd, Nat.reduceSub, Nat.reduceMul, Nat.reduceEqDiff, Int.reduceNeg, Int.reduceAdd, Int.reduceLT, Int.reduceLE, Int.reduceToNat, ↓reduceIte]
    try and_intros
    all_goals try (first | assumption | omega | (show okDraw _ _ = true; kernel_rfl))
    subst hC
    refine cut_seq fun C hC => ?_
    simp only [go_sem, d_ball_zero, d_ball_Has, d_ball_Of, d_rat_Int, d_rat_Div, d_ball_Mul, hz, int1, int0, e1, e2, e3, Nat.reduceBEq, Nat.reduceBNe, Nat.reduceLT, Nat.reduceLeDiff, Nat.reduceAdd, Nat.reduceSub, Nat.reduceMul, Nat.reduceEqDiff, Int.reduceNeg, Int.reduceAdd, Int.reduceLT, Int.reduceLE, Int.reduceToNat, ↓reduceIte]
    try and_intros
    all_goals try (first | assumption | omega | (show okDraw _ _ = true; kernel_rfl))
    subst hC
    simp only [go_sem, d_ball_zero, d_ball_Has, d_ball_Of, d_rat_Int, d_rat_Div, d_ball_Mul, hz, int1, int0, e1, e2, e3, Nat.reduceBEq, Nat.reduceBNe, Nat.reduceLT, Nat.reduceLeDiff, Nat.reduceAdd, Nat.reduceSub, Nat.reduceMul, Nat.reduceEqDiff, Int.reduceNeg, Int.reduceAdd, Int.reduceLT, Int.reduceLE, Int.reduceToNat, ↓reduceIte]
    and_intros
    all_goals first
      | assumption
      | omega
      | exact Nat.max_le.2 ⟨by rw [cr_sz]; omega, by rw [cr_sz]; omega⟩
      | (show okDraw _ _ = true; kernel_rfl)
      | rfl
  · skip
    have e1 : divLo a b = 0 := by unfold divLo zeroIn; rw [hz]; rfl
    have e2 : divHi a b = 0 := by unfold divHi zeroIn; rw [hz]; rfl
    have e3 : zeroIn b = true := hz
    simp only [go_sem, d_ball_zero, d_ball_Has, d_ball_Of, d_rat_Int, d_rat_Div, d_ball_Mul, hz, int1, int0, e1, e2, e3, Nat.reduceBEq, Nat.reduceBNe, Nat.reduceLT, Nat.reduceLeDiff, Nat.reduceAdd, Nat.reduceSub, Nat.reduceMul, Nat.reduceEqDiff, Int.reduceNeg, Int.reduceAdd, Int.reduceLT, Int.reduceLE, Int.reduceToNat, ↓reduceIte]
    and_intros
    all_goals first
      | assumption
      | omega
      | exact Nat.max_le.2 ⟨by rw [cr_sz]; omega, by rw [cr_sz]; omega⟩
      | (show okDraw _ _ = true; kernel_rfl)
      | rfl


end Go.Proofs.Ytmfoihjkhoinaaa
