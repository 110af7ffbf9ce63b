/- vernierref4: Add, Neg, Sub, Div, Abs, power, Pow, two, Down, Up, Trim, Meet, by the abstract walk. Conditions: numbers of at most 10^8 limbs. -/
import Derived.Test.YtifnpelkoklcnaaBc
namespace Go.Proofs.Ytifnpelkoklcnaa
open Go.RowKit
set_option linter.unusedSimpArgs false
set_option linter.unusedVariables false

def d_ref4_Add : Den := den2 aBall aBall (fun a b => a.sz ≤ 100000000 ∧ b.sz ≤ 100000000) fun a b => ballV (bb (a.lo.q + b.lo.q) (a.hi.q + b.hi.q))
set_option maxRecDepth 100000 in
set_option maxHeartbeats 1000000 in
theorem s_ref4_Add : Sound Try.prog 31 d_ref4_Add := by
  refine sound2 (fz := nofz) (l := [(49, d_ref2_Add)]) TT_ok ⟨s_ref2_Add, trivial⟩ mixed Try.func31 Try.ntmps31 Try.results31 Try.call31 rfl (by omega) (fun _ _ => rfl) ?_
  intro a b hp ha hb
  rw [codeK_start]
  simp only [go_sem, d_ref2_Add, Nat.reduceBEq, Nat.reduceBNe, Nat.reduceLT, Nat.reduceLeDiff, Nat.reduceAdd, Nat.reduceSub, Nat.reduceMul, Nat.reduceEqDiff, Int.reduceNeg, Int.reduceAdd, Int.reduceLT, Int.reduceLE, Int.reduceToNat, ↓reduceIte]
  have l := BB.lens hp.1
  have m := BB.lens hp.2
  have q1 : rs a.lo.q ≤ 100000000 := rs_ok ha.1 l.1 (by omega)
  have q2 : rs a.hi.q ≤ 100000000 := rs_ok ha.2 l.2 (by omega)
  have q3 : rs b.lo.q ≤ 100000000 := rs_ok hb.1 m.1 (by omega)
  have q4 : rs b.hi.q ≤ 100000000 := rs_ok hb.2 m.2 (by omega)
  and_intros
  all_goals first
    | exact trivial
    | assumption
    | omega
    | (show okDraw _ _ = true; kernel_rfl)
    | rfl
    | ((repeat' first | assumption | exact Nat.le_refl _ | apply rsb_add | apply rsb_sub | apply rsb_div | apply rsb_mul | apply rsb_neg) <;> omega)

def d_ref4_Neg : Den := den1 aBall (fun a => a.sz ≤ 100000000) fun a => ballV (bb (-a.hi.q) (-a.lo.q))
set_option maxRecDepth 100000 in
set_option maxHeartbeats 1000000 in
theorem s_ref4_Neg : Sound Try.prog 30 d_ref4_Neg := by
  refine sound1 (fz := nofz) (l := [(18, d_ref2_Neg)]) TT_ok ⟨s_ref2_Neg, trivial⟩ mixed Try.func30 Try.ntmps30 Try.results30 Try.call30 rfl (by omega) (fun _ => rfl) ?_
  intro a hp ha
  rw [codeK_start]
  simp only [go_sem, d_ref2_Neg, Nat.reduceBEq, Nat.reduceBNe, Nat.reduceLT, Nat.reduceLeDiff, Nat.reduceAdd, Nat.reduceSub, Nat.reduceMul, Nat.reduceEqDiff, Int.reduceNeg, Int.reduceAdd, Int.reduceLT, Int.reduceLE, Int.reduceToNat, ↓reduceIte]
  have l := BB.lens hp
  have q1 : rs a.lo.q ≤ 100000000 := rs_ok ha.1 l.1 (by omega)
  have q2 : rs a.hi.q ≤ 100000000 := rs_ok ha.2 l.2 (by omega)
  and_intros
  all_goals first
    | exact trivial
    | assumption
    | omega
    | (show okDraw _ _ = true; kernel_rfl)
    | rfl
    | ((repeat' first | assumption | exact Nat.le_refl _ | apply rsb_add | apply rsb_sub | apply rsb_div | apply rsb_mul | apply rsb_neg) <;> omega)

theorem highR_q (a b : RR) : (highR a b).q = mx a.q b.q := by unfold highR mx; split <;> rfl
theorem lowR_q (a b : RR) : (lowR a b).q = mn a.q b.q := by unfold lowR mn; split <;> rfl
theorem highR_sz {a b : RR} {K : Nat} (h1 : a.sz ≤ K) (h2 : b.sz ≤ K) : (highR a b).sz ≤ K := by unfold highR; split <;> assumption
theorem lowR_sz {a b : RR} {K : Nat} (h1 : a.sz ≤ K) (h2 : b.sz ≤ K) : (lowR a b).sz ≤ K := by unfold lowR; split <;> assumption
theorem highR_ok {a b : RR} (h1 : a.ok) (h2 : b.ok) : (highR a b).ok := by unfold highR; split <;> assumption
theorem ng_true {q : Rat} : ng q = true ↔ q < 0 := by
  rw [← Rat.not_le, ← ng_iff, Bool.not_eq_false]
theorem shift_one {a : Int} (h : 0 ≤ a) : shiftN 1 a = 2 ^ a.toNat := by unfold shiftN; rw [if_pos h, Nat.one_mul]
theorem tmod2 {n : Nat} : ((n : Int)).tmod 2 = ((n % 2 : Nat) : Int) := by rw [Int.tmod_eq_emod_of_nonneg (by omega)]; omega

def d_ref4_Sub : Den := den2 aBall aBall (fun a b => a.sz ≤ 100000000 ∧ b.sz ≤ 100000000) fun a b => ballV (bb (a.lo.q - b.hi.q) (a.hi.q - b.lo.q))
def d_ref4_Abs : Den := den1 aBall (fun a => a.sz ≤ 100000000 ∧ a.lo.q ≤ a.hi.q ∧ a.lo = cr a.lo.q ∧ a.hi = cr a.hi.q) fun a => ballV (bb (absLo a.lo.q a.hi.q) (absHi a.lo.q a.hi.q))
def d_ref4_power : Den := den2 aRat aInt (fun a n => a.sz ≤ 100000000 ∧ 0 ≤ n ∧ n ≤ 64) fun a n => ratV (cr (qpow a.q n.toNat))
def d_ref4_Pow : Den := den2 aBall aInt (fun a _ => a.sz ≤ 100000000 ∧ a.lo.q ≤ a.hi.q ∧ a.lo = cr a.lo.q ∧ a.hi = cr a.hi.q) fun a n => ballV (bb (powLo a.lo.q a.hi.q (pn n)) (powHi a.lo.q a.hi.q (pn n)))
def d_ref4_two : Den := den1 aInt (fun p => 0 ≤ p ∧ p ≤ 1000) fun p => ratV (cr (twoP p.toNat))
def d_ref4_Down : Den := den2 aRat aInt (fun a _ => a.sz ≤ 100000000) fun a p => ratV (cr (dn a.q (hold p)))
def d_ref4_Up : Den := den2 aRat aInt (fun a _ => a.sz ≤ 10000000) fun a p => ratV (cr (up a.q (hold p)))
def d_ref4_Trim : Den := den2 aBall aInt (fun a _ => a.sz ≤ 10000000) fun a p => ballV (bb (dn a.lo.q (hold p)) (up a.hi.q (hold p)))
def d_ref4_Meet : Den := den2 aBall aBall (fun a b => (a.sz ≤ 100000000 ∧ b.sz ≤ 100000000) ∧ a.lo.q ≤ a.hi.q ∧ b.lo.q ≤ b.hi.q) fun a b => ballOkV (bb (meetLo a b) (meetHi a b)) (decide (sideI a b = 0))
end Go.Proofs.Ytifnpelkoklcnaa
