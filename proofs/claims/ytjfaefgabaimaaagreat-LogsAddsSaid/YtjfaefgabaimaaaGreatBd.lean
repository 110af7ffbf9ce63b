/- vernierref4: Add, Neg, Sub, Div, Abs, power, Pow, two, Down, Up, Trim, Meet, by the abstract walk. Conditions: numbers of at most 10^8 limbs. -/
import Derived.Test.YtjfaefgabaimaaaGreatBc
namespace Go.Proofs.YtjfaefgabaimaaaGreat
open Go.RowKit
set_option linter.unusedSimpArgs false
set_option linter.unusedVariables false
def d_ref4_Add : Den := den2 aBall aBall (fun a b => a.sz ≤ 100000000 ∧ b.sz ≤ 100000000) fun a b => ballV (bb (a.lo.q + b.lo.q) (a.hi.q + b.hi.q))
set_option maxRecDepth 100000 in
set_option maxHeartbeats 1000000 in
theorem s_ref4_Add : Sound Tryz.prog 20 d_ref4_Add := by
  refine sound2 (fz := nofz) (l := [(8, d_ref2_Add)]) TT_ok ⟨s_ref2_Add, trivial⟩ mixed Tryz.func20 Tryz.ntmps20 Tryz.results20 Tryz.call20 rfl (by omega) (fun _ _ => rfl) ?_
  intro a b hp ha hb
  rw [codeK_start]
  simp only [go_sem, d_ref2_Add, Nat.reduceBEq, Nat.reduceBNe, Nat.reduceLT, Nat.reduceLeDiff, Nat.reduceAdd, Nat.reduceSub, Nat.reduceMul, Nat.reduceEqDiff, Int.reduceNeg, Int.reduceAdd, Int.reduceLT, Int.reduceLE, Int.reduceToNat, ↓reduceIte]
  have l := BB.lens hp.1
  have m := BB.lens hp.2
  have q1 : rs a.lo.q ≤ 100000000 := rs_ok ha.1 l.1 (by omega)
  have q2 : rs a.hi.q ≤ 100000000 := rs_ok ha.2 l.2 (by omega)
  have q3 : rs b.lo.q ≤ 100000000 := rs_ok hb.1 m.1 (by omega)
  have q4 : rs b.hi.q ≤ 100000000 := rs_ok hb.2 m.2 (by omega)
  and_intros
  all_goals first
    | exact trivial
    | assumption
    | omega
    | (show okDraw _ _ = true; kernel_rfl)
    | rfl
    | ((repeat' first | assumption | exact Nat.le_refl _ | apply rsb_add | apply rsb_sub | apply rsb_div | apply rsb_mul | apply rsb_neg) <;> omega)
def d_ref4_Neg : Den := den1 aBall (fun a => a.sz ≤ 100000000) fun a => ballV (bb (-a.hi.q) (-a.lo.q))
set_option maxRecDepth 100000 in
set_option maxHeartbeats 1000000 in
theorem s_ref4_Neg : Sound Tryz.prog 57 d_ref4_Neg := by
  refine sound1 (fz := nofz) (l := [(84, d_ref2_Neg)]) TT_ok ⟨s_ref2_Neg, trivial⟩ mixed Tryz.func57 Tryz.ntmps57 Tryz.results57 Tryz.call57 rfl (by omega) (fun _ => rfl) ?_
  intro a hp ha
  rw [codeK_start]
  simp only [go_sem, d_ref2_Neg, Nat.reduceBEq, Nat.reduceBNe, Nat.reduceLT, Nat.reduceLeDiff, Nat.reduceAdd, Nat.reduceSub, Nat.reduceMul, Nat.reduceEqDiff, Int.reduceNeg, Int.reduceAdd, Int.reduceLT, Int.reduceLE, Int.reduceToNat, ↓reduceIte]
  have l := BB.lens hp
  have q1 : rs a.lo.q ≤ 100000000 := rs_ok ha.1 l.1 (by omega)
  have q2 : rs a.hi.q ≤ 100000000 := rs_ok ha.2 l.2 (by omega)
  and_intros
  all_goals first
    | exact trivial
    | assumption
    | omega
    | (show okDraw _ _ = true; kernel_rfl)
    | rfl
    | ((repeat' first | assumption | exact Nat.le_refl _ | apply rsb_add | apply rsb_sub | apply rsb_div | apply rsb_mul | apply rsb_neg) <;> omega)
def d_ref4_Sub : Den := den2 aBall aBall (fun a b => a.sz ≤ 100000000 ∧ b.sz ≤ 100000000) fun a b => ballV (bb (a.lo.q - b.hi.q) (a.hi.q - b.lo.q))
set_option maxRecDepth 100000 in
set_option maxHeartbeats 1000000 in
theorem s_ref4_Sub : Sound Tryz.prog 21 d_ref4_Sub := by
  refine sound2 (fz := nofz) (l := [(57, d_ref4_Neg), (20, d_ref4_Add)]) TT_ok ⟨s_ref4_Neg, s_ref4_Add, trivial⟩ mixed Tryz.func21 Tryz.ntmps21 Tryz.results21 Tryz.call21 rfl (by omega) (fun _ _ => rfl) ?_
  intro a b hp ha hb
  rw [codeK_start]
  simp only [go_sem, d_ref4_Neg, d_ref4_Add, Nat.reduceBEq, Nat.reduceBNe, Nat.reduceLT, Nat.reduceLeDiff, Nat.reduceAdd, Nat.reduceSub, Nat.reduceMul, Nat.reduceEqDiff, Int.reduceNeg, Int.reduceAdd, Int.reduceLT, Int.reduceLE, Int.reduceToNat, ↓reduceIte]
  have l := BB.lens hp.1
  have m := BB.lens hp.2
  have q1 : rs a.lo.q ≤ 100000000 := rs_ok ha.1 l.1 (by omega)
  have q2 : rs a.hi.q ≤ 100000000 := rs_ok ha.2 l.2 (by omega)
  have q3 : rs b.lo.q ≤ 100000000 := rs_ok hb.1 m.1 (by omega)
  have q4 : rs b.hi.q ≤ 100000000 := rs_ok hb.2 m.2 (by omega)
  rw [← Rat.sub_eq_add_neg, ← Rat.sub_eq_add_neg]
  exact ⟨by omega, ⟨by omega, Nat.max_le.2 ⟨rsb_neg q4, rsb_neg q3⟩⟩, by kernel_rfl, rfl, rfl, rfl, rfl, rfl, rfl⟩
end Go.Proofs.YtjfaefgabaimaaaGreat
