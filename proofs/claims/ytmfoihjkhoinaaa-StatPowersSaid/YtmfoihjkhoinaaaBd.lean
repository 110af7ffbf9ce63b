/- vernierref4: Add, Neg, Sub, Div, Abs, power, Pow, two, Down, Up, Trim, Meet, by the abstract walk. Conditions: numbers of at most 10^8 limbs. -/
import Derived.Test.YtmfoihjkhoinaaaBc
namespace Go.Proofs.Ytmfoihjkhoinaaa
open Go.RowKit
set_option linter.unusedSimpArgs false
set_option linter.unusedVariables false

def d_ref4_Add : Den := den2 aBall aBall (fun a b => a.sz ≤ 100000000 ∧ b.sz ≤ 100000000) fun a b => ballV (bb (a.lo.q + b.lo.q) (a.hi.q + b.hi.q))
set_option maxRecDepth 100000 in
set_option maxHeartbeats 1000000 in
theorem s_ref4_Add : Sound Try.prog 135 d_ref4_Add := by
  refine sound2 (fz := nofz) (l := [(59, d_ref2_Add)]) TT_ok ⟨s_ref2_Add, trivial⟩ mixed Try.func135 Try.ntmps135 Try.results135 Try.call135 rfl (by omega) (fun _ _ => rfl) ?_
  intro a b hp ha hb
  rw [codeK_start]
  simp only [go_sem, d_ref2_Add, Nat.reduceBEq, Nat.reduceBNe, Nat.reduceLT, Nat.reduceLeDiff, Nat.reduceAdd, Nat.reduceSub, Nat.reduceMul, Nat.reduceEqDiff, Int.reduceNeg, Int.reduceAdd, Int.reduceLT, Int.reduceLE, Int.reduceToNat, ↓reduceIte]
  have l := BB.lens hp.1
  have m := BB.lens hp.2
  have q1 : rs a.lo.q ≤ 100000000 := rs_ok ha.1 l.1 (by omega)
  have q2 : rs a.hi.q ≤ 100000000 := rs_ok ha.2 l.2 (by omega)
  have q3 : rs b.lo.q ≤ 100000000 := rs_ok hb.1 m.1 (by omega)
  have q4 : rs b.hi.q ≤ 100000000 := rs_ok hb.2 m.2 (by omega)
  and_intros
  all_goals first
    | exact trivial
    | assumption
    | omega
    | (show okDraw _ _ = true; kernel_rfl)
    | rfl
    | ((repeat' first | assumption | exact Nat.le_refl _ | apply rsb_add | apply rsb_sub | apply rsb_div | apply rsb_mul | apply rsb_neg) <;> omega)

def d_ref4_Neg : Den := den1 aBall (fun a => a.sz ≤ 100000000) fun a => ballV (bb (-a.hi.q) (-a.lo.q))
set_option maxRecDepth 100000 in
set_option maxHeartbeats 1000000 in
theorem s_ref4_Neg : Sound Try.prog 137 d_ref4_Neg := by
  refine sound1 (fz := nofz) (l := [(69, d_ref2_Neg)]) TT_ok ⟨s_ref2_Neg, trivial⟩ mixed Try.func137 Try.ntmps137 Try.results137 Try.call137 rfl (by omega) (fun _ => rfl) ?_
  intro a hp ha
  rw [codeK_start]
  simp only [go_sem, d_ref2_Neg, Nat.reduceBEq, Nat.reduceBNe, Nat.reduceLT, Nat.reduceLeDiff, Nat.reduceAdd, Nat.reduceSub, Nat.reduceMul, Nat.reduceEqDiff, Int.reduceNeg, Int.reduceAdd, Int.reduceLT, Int.reduceLE, Int.reduceToNat, ↓reduceIte]
  have l := BB.lens hp
  have q1 : rs a.lo.q ≤ 100000000 := rs_ok ha.1 l.1 (by omega)
  have q2 : rs a.hi.q ≤ 100000000 := rs_ok ha.2 l.2 (by omega)
  and_intros
  all_goals first
    | exact trivial
    | assumption
    | omega
    | (show okDraw _ _ = true; kernel_rfl)
    | rfl
    | ((repeat' first | assumption | exact Nat.le_refl _ | apply rsb_add | apply rsb_sub | apply rsb_div | apply rsb_mul | apply rsb_neg) <;> omega)

theorem highR_q (a b : RR) : (highR a b).q = mx a.q b.q := by unfold highR mx; split <;> rfl
theorem lowR_q (a b : RR) : (lowR a b).q = mn a.q b.q := by unfold lowR mn; split <;> rfl
theorem highR_sz {a b : RR} {K : Nat} (h1 : a.sz ≤ K) (h2 : b.sz ≤ K) : (highR a b).sz ≤ K := by unfold highR; split <;> assumption
theorem lowR_sz {a b : RR} {K : Nat} (h1 : a.sz ≤ K) (h2 : b.sz ≤ K) : (lowR a b).sz ≤ K := by unfold lowR; split <;> assumption
theorem highR_ok {a b : RR} (h1 : a.ok) (h2 : b.ok) : (highR a b).ok := by unfold highR; split <;> assumption
theorem ng_true {q : Rat} : ng q = true ↔ q < 0 := by
  rw [← Rat.not_le, ← ng_iff, Bool.not_eq_false]
theorem shift_one {a : Int} (h : 0 ≤ a) : shiftN 1 a = 2 ^ a.toNat := by unfold shiftN; rw [if_pos h, Nat.one_mul]
theorem tmod2 {n : Nat} : ((n : Int)).tmod 2 = ((n % 2 : Nat) : Int) := by rw [Int.tmod_eq_emod_of_nonneg (by omega)]; omega

def d_ref4_Sub : Den := den2 aBall aBall (fun a b => a.sz ≤ 100000000 ∧ b.sz ≤ 100000000) fun a b => ballV (bb (a.lo.q - b.hi.q) (a.hi.q - b.lo.q))
set_option maxRecDepth 100000 in
set_option maxHeartbeats 1000000 in
theorem s_ref4_Sub : Sound Try.prog 136 d_ref4_Sub := by
  refine sound2 (fz := nofz) (l := [(137, d_ref4_Neg), (135, d_ref4_Add)]) TT_ok ⟨s_ref4_Neg, s_ref4_Add, trivial⟩ mixed Try.func136 Try.ntmps136 Try.results136 Try.call136 rfl (by omega) (fun _ _ => rfl) ?_
  intro a b hp ha hb
  rw [codeK_start]
  simp only [go_sem, d_ref4_Neg, d_ref4_Add, Nat.reduceBEq, Nat.reduceBNe, Nat.reduceLT, Nat.reduceLeDiff, Nat.reduceAdd, Nat.reduceSub, Nat.reduceMul, Nat.reduceEqDiff, Int.reduceNeg, Int.reduceAdd, Int.reduceLT, Int.reduceLE, Int.reduceToNat, ↓reduceIte]
  have l := BB.lens hp.1
  have m := BB.lens hp.2
  have q1 : rs a.lo.q ≤ 100000000 := rs_ok ha.1 l.1 (by omega)
  have q2 : rs a.hi.q ≤ 100000000 := rs_ok ha.2 l.2 (by omega)
  have q3 : rs b.lo.q ≤ 100000000 := rs_ok hb.1 m.1 (by omega)
  have q4 : rs b.hi.q ≤ 100000000 := rs_ok hb.2 m.2 (by omega)
  rw [← Rat.sub_eq_add_neg, ← Rat.sub_eq_add_neg]
  exact ⟨by omega, ⟨by omega, Nat.max_le.2 ⟨rsb_neg q4, rsb_neg q3⟩⟩, by kernel_rfl, rfl, rfl, rfl, rfl, rfl, rfl⟩

def d_ref4_Abs : Den := den1 aBall (fun a => a.sz ≤ 100000000 ∧ a.lo.q ≤ a.hi.q ∧ a.lo = cr a.lo.q ∧ a.hi = cr a.hi.q) fun a => ballV (bb (absLo a.lo.q a.hi.q) (absHi a.lo.q a.hi.q))
set_option maxRecDepth 100000 in
set_option maxHeartbeats 1000000 in
theorem s_ref4_Abs : Sound Try.prog 139 d_ref4_Abs := by
  refine sound1 (fz := nofz) (l := [(38, d_ref2_Norm), (65, d_ref2_Zero), (137, d_ref4_Neg), (72, d_ref2_Int), (69, d_ref2_Neg), (171, d_ref4_high)]) TT_ok ⟨s_ref2_Norm, s_ref2_Zero, s_ref4_Neg, s_ref2_Int, s_ref2_Neg, s_ref4_high, trivial⟩ mixed Try.func139 Try.ntmps139 Try.results139 Try.call139 rfl (by omega) (fun _ => rfl) ?_
  intro a hp ha
  rw [codeK_start]
  simp only [go_sem, d_ref2_Norm, d_ref2_Zero, d_ref4_Neg, d_ref2_Int, d_ref2_Neg, d_ref4_high, Nat.reduceBEq, Nat.reduceBNe, Nat.reduceLT, Nat.reduceLeDiff, Nat.reduceAdd, Nat.reduceSub, Nat.reduceMul, Nat.reduceEqDiff, Int.reduceNeg, Int.reduceAdd, Int.reduceLT, Int.reduceLE, Int.reduceToNat, ↓reduceIte]
  have l := BB.lens hp.1
  have q1 : rs a.lo.q ≤ 100000000 := rs_ok ha.1 l.1 (by omega)
  have q2 : rs a.hi.q ≤ 100000000 := rs_ok ha.2 l.2 (by omega)
  have s1 : a.lo.s = ng a.lo.q := congrArg RR.s hp.2.2.1
  have s2 : a.hi.s = ng a.hi.q := congrArg RR.s hp.2.2.2
  rw [s1, s2]
  have hle := hp.2.1
  cases g1 : ng a.lo.q
  · have c1 := ng_iff.1 g1
    have e1 : absLo a.lo.q a.hi.q = a.lo.q := by unfold absLo; rw [if_pos c1]
    have e2 : absHi a.lo.q a.hi.q = a.hi.q := by unfold absHi; rw [if_pos c1]
    rw [if_pos (by rfl), e1, e2]
    exact ⟨by omega, by omega, by kernel_rfl, rfl, rfl, rfl, rfl, rfl, rfl⟩
  · have c1 := ng_true.1 g1
    have c1' : ¬ 0 ≤ a.lo.q := Rat.not_le.2 c1
    rw [if_neg (by simp)]
    cases g2 : ng a.hi.q
    · have c2 := ng_iff.1 g2
      rw [if_pos rfl]
      refine ⟨by omega, ?_⟩
      split
      · rename_i c3
        have c4 : a.hi.q ≤ 0 := by grind
        have e1 : absLo a.lo.q a.hi.q = -a.hi.q := by unfold absLo; rw [if_neg c1', if_pos c4]
        have e2 : absHi a.lo.q a.hi.q = -a.lo.q := by unfold absHi; rw [if_neg c1', if_pos c4]
        rw [e1, e2]
        exact ⟨hp.1, rfl, rfl, rfl, rfl, rfl, rfl⟩
      · rename_i c3
        have c4 : ¬ a.hi.q ≤ 0 := by grind
        have e1 : absLo a.lo.q a.hi.q = 0 := by unfold absLo; rw [if_neg c1', if_neg c4]
        have e2 : absHi a.lo.q a.hi.q = mx (-a.lo.q) a.hi.q := by unfold absHi; rw [if_neg c1', if_neg c4]
        rw [e1, e2, ← highR_cr, ← hp.2.2.2]
        exact ⟨by omega, ⟨Nat.le_trans (rsb_neg q1) (by omega), by omega⟩, by kernel_rfl, rfl, rfl, rfl, rfl, rfl, rfl⟩
    · have c2 := ng_true.1 g2
      have c4 : a.hi.q ≤ 0 := by grind
      have e1 : absLo a.lo.q a.hi.q = -a.hi.q := by unfold absLo; rw [if_neg c1', if_pos c4]
      have e2 : absHi a.lo.q a.hi.q = -a.lo.q := by unfold absHi; rw [if_neg c1', if_pos c4]
      rw [if_neg (by simp), e1, e2]
      exact ⟨hp.1, rfl, rfl, rfl, rfl, rfl, rfl⟩

def d_ref4_power : Den := den2 aRat aInt (fun a n => a.sz ≤ 100000000 ∧ 0 ≤ n ∧ n ≤ 64) fun a n => ratV (cr (qpow a.q n.toNat))
set_option maxRecDepth 100000 in
set_option maxHeartbeats 1000000 in
theorem s_ref4_power : Sound Try.prog 203 d_ref4_power := by
  refine sound2 (fz := nofz) (l := [(72, d_ref2_Int), (42, d_ref2_Mul)]) TT_ok ⟨s_ref2_Int, s_ref2_Mul, trivial⟩ mixed Try.func203 Try.ntmps203 Try.results203 Try.call203 rfl (by omega) (fun _ _ => rfl) ?_
  intro a b hp ha hb
  rw [codeK_start]
  simp only [go_sem, d_ref2_Int, d_ref2_Mul, int1, Nat.reduceBEq, Nat.reduceBNe, Nat.reduceLT, Nat.reduceLeDiff, Nat.reduceAdd, Nat.reduceSub, Nat.reduceMul, Nat.reduceEqDiff, Int.reduceNeg, Int.reduceAdd, Int.reduceLT, Int.reduceLE, Int.reduceToNat, ↓reduceIte]
  have q1 : rs a.q ≤ 100000000 := rs_ok ha hp.1 (by omega)
  have hz : ∀ n : Nat, n ≤ 64 → rs (qpow a.q n) ≤ 6400000001 := fun n hn => by have h1 := rs_qpow q1 n; have h2 := mul_64 (K := 100000000) hn; omega
  refine codeK_loop (fun i : { i : Nat // (i : Int) ≤ b } => [(6, 0, .av (intV (i.1 : Nat))), (1, 0, .av (intV b)), (5, 0, .av (.one (.cel (.ptr 5 0)))), (5, 1, .cv (.bool (cr (qpow a.q i.1)).s)), (5, 2, .cv (.lim none (cr (qpow a.q i.1)).n)), (5, 3, .cv (.lim none (cr (qpow a.q i.1)).d)), (4, 0, .av (.one (.cel (.ptr 4 0)))), (4, 1, .cv (.bool false)), (4, 2, .cv .nil), (4, 3, .cv .nil), (2, 0, .av (.one (.cel (.ptr 2 0)))), (2, 1, .cv (.bool a.s)), (2, 2, .cv (.lim none a.n)), (2, 3, .cv (.lim none a.d))]) (fun i => b.toNat - i.1) ⟨0, by have := hp.2.1; omega⟩ (le_of ?_) ?_
  · simp only [go_sem, leL, Nat.reduceBEq, Nat.reduceBNe, Nat.reduceLT, Nat.reduceLeDiff, Nat.reduceAdd, Nat.reduceSub, Nat.reduceMul, Nat.reduceEqDiff, Int.reduceNeg, Int.reduceAdd, Int.reduceLT, Int.reduceLE, Int.reduceToNat, ↓reduceIte, qpow, int1, Int.ofNat_zero, Int.natCast_zero, Int.cast_ofNat_Int]
  · rintro ⟨i, hi0⟩
    have hi0 : (i : Int) ≤ b := hi0
    have k1 := hz i (by omega)
    by_cases hi : (i : Int) < b
    · simp only [go_sem, d_ref2_Int, d_ref2_Mul, hi, Nat.reduceBEq, Nat.reduceBNe, Nat.reduceLT, Nat.reduceLeDiff, Nat.reduceAdd, Nat.reduceSub, Nat.reduceMul, Nat.reduceEqDiff, Int.reduceNeg, Int.reduceAdd, Int.reduceLT, Int.reduceLE, Int.reduceToNat, ↓reduceIte]
      exact ⟨⟨by omega, by omega⟩, ⟨by omega, by omega⟩, ⟨i + 1, by omega⟩, by show b.toNat - (i + 1) < b.toNat - i; omega, le_of (by simp only [go_sem, leL, qpow, Nat.reduceBEq, Nat.reduceBNe, Nat.reduceLT, Nat.reduceLeDiff, Nat.reduceAdd, Nat.reduceSub, Nat.reduceMul, Nat.reduceEqDiff, Int.reduceNeg, Int.reduceAdd, Int.reduceLT, Int.reduceLE, Int.reduceToNat, ↓reduceIte]; omega)⟩
    · simp only [go_sem, d_ref2_Int, d_ref2_Mul, hi, Nat.reduceBEq, Nat.reduceBNe, Nat.reduceLT, Nat.reduceLeDiff, Nat.reduceAdd, Nat.reduceSub, Nat.reduceMul, Nat.reduceEqDiff, Int.reduceNeg, Int.reduceAdd, Int.reduceLT, Int.reduceLE, Int.reduceToNat, ↓reduceIte]
      have e : i = b.toNat := by omega
      subst e
      exact ⟨rfl, rfl, rfl⟩

def d_ref4_Pow : Den := den2 aBall aInt (fun a _ => a.sz ≤ 100000000 ∧ a.lo.q ≤ a.hi.q ∧ a.lo = cr a.lo.q ∧ a.hi = cr a.hi.q) fun a n => ballV (bb (powLo a.lo.q a.hi.q (pn n)) (powHi a.lo.q a.hi.q (pn n)))
set_option maxRecDepth 100000 in
set_option maxHeartbeats 1000000 in
theorem s_ref4_Pow : Sound Try.prog 141 d_ref4_Pow := by
  refine sound2 (fz := nofz) (l := [(139, d_ref4_Abs), (203, d_ref4_power)]) TT_ok ⟨s_ref4_Abs, s_ref4_power, trivial⟩ mixed Try.func141 Try.ntmps141 Try.results141 Try.call141 rfl (by omega) (fun _ _ => rfl) ?_
  intro a b hp ha hb
  rw [codeK_start]
  simp only [go_sem, d_ref4_Abs, d_ref4_power, Nat.reduceBEq, Nat.reduceBNe, Nat.reduceLT, Nat.reduceLeDiff, Nat.reduceAdd, Nat.reduceSub, Nat.reduceMul, Nat.reduceEqDiff, Int.reduceNeg, Int.reduceAdd, Int.reduceLT, Int.reduceLE, Int.reduceToNat, ↓reduceIte]
  have l := BB.lens hp.1
  have q1 : rs a.lo.q ≤ 100000000 := rs_ok ha.1 l.1 (by omega)
  have q2 : rs a.hi.q ≤ 100000000 := rs_ok ha.2 l.2 (by omega)
  have hpn : ((pn b : Nat) : Int) = min (max b 0) 64 := by unfold pn; omega
  have hp6 : pn b ≤ 64 := by unfold pn; omega
  rw [← hpn, Int.toNat_natCast]
  have z1 := rs_absLo q1 q2 (by omega)
  have z2 := rs_absHi q1 q2
  rw [tmod2]
  generalize pn b = n at *
  refine ⟨by omega, ?_⟩
  split
  · rename_i c
    have c : n % 2 = 0 := by omega
    split
    · rename_i c2
      have c2 : ¬ n = 0 := by omega
      unfold powLo powHi
      rw [if_neg c2, if_neg c2, if_pos c, if_pos c]
      exact ⟨hp, ⟨z1, by omega, by omega⟩, ⟨z2, by omega, by omega⟩, by kernel_rfl, rfl, rfl, rfl, rfl, rfl, rfl⟩
    · rename_i c2
      have c2 : n = 0 := by omega
      subst c2
      unfold powLo powHi
      rw [if_pos rfl, if_pos rfl]
      exact ⟨⟨by omega, by omega, by omega⟩, ⟨by omega, by omega, by omega⟩, by kernel_rfl, rfl, rfl, rfl, rfl, rfl, rfl⟩
  · rename_i c
    have c : ¬ n % 2 = 0 := by omega
    have c2 : ¬ n = 0 := by omega
    unfold powLo powHi
    rw [if_neg c2, if_neg c2, if_neg c, if_neg c]
    exact ⟨⟨by omega, by omega, by omega⟩, ⟨by omega, by omega, by omega⟩, by kernel_rfl, rfl, rfl, rfl, rfl, rfl, rfl⟩

def d_ref4_two : Den := den1 aInt (fun p => 0 ≤ p ∧ p ≤ 1000) fun p => ratV (cr (twoP p.toNat))
set_option maxRecDepth 100000 in
set_option maxHeartbeats 1000000 in
theorem s_ref4_two : Sound Try.prog 191 d_ref4_two := by
  refine sound1 (fz := nofz) (l := [(169, d_ref1_Shift), (106, d_ref2_Of)]) TT_ok ⟨s_ref1_Shift, s_ref2_Of, trivial⟩ mixed Try.func191 Try.ntmps191 Try.results191 Try.call191 rfl (by omega) (fun _ => rfl) ?_
  intro a hp ha
  rw [codeK_start]
  simp only [go_sem, d_ref1_Shift, d_ref2_Of, Nat.reduceBEq, Nat.reduceBNe, Nat.reduceLT, Nat.reduceLeDiff, Nat.reduceAdd, Nat.reduceSub, Nat.reduceMul, Nat.reduceEqDiff, Int.reduceNeg, Int.reduceAdd, Int.reduceLT, Int.reduceLE, Int.reduceToNat, ↓reduceIte]
  rw [shift_one hp.1]
  have := pow_len (k := a.toNat) (by omega)
  exact ⟨⟨by omega, by omega⟩, by omega, rfl, rfl, rfl⟩

def d_ref4_Down : Den := den2 aRat aInt (fun a _ => a.sz ≤ 100000000) fun a p => ratV (cr (dn a.q (hold p)))
set_option maxRecDepth 100000 in
set_option maxHeartbeats 1000000 in
theorem s_ref4_Down : Sound Try.prog 99 d_ref4_Down := by
  refine sound2 (fz := nofz) (l := [(182, d_ref4_Hold), (191, d_ref4_two), (42, d_ref2_Mul), (70, d_ref2_Floor), (47, d_ref4_Bit)]) TT_ok ⟨s_ref4_Hold, s_ref4_two, s_ref2_Mul, s_ref2_Floor, s_ref4_Bit, trivial⟩ mixed Try.func99 Try.ntmps99 Try.results99 Try.call99 rfl (by omega) (fun _ _ => rfl) ?_
  intro a b hp ha hb
  rw [codeK_start]
  simp only [go_sem, d_ref4_Hold, d_ref4_two, d_ref2_Mul, d_ref2_Floor, d_ref4_Bit, Nat.reduceBEq, Nat.reduceBNe, Nat.reduceLT, Nat.reduceLeDiff, Nat.reduceAdd, Nat.reduceSub, Nat.reduceMul, Nat.reduceEqDiff, Int.reduceNeg, Int.reduceAdd, Int.reduceLT, Int.reduceLE, Int.reduceToNat, ↓reduceIte]
  have hh := hold_le b
  have q1 : rs a.q ≤ 100000000 := rs_ok ha hp (by omega)
  have r1 := rs_twoP hh
  have r2 : rs (a.q * twoP (hold b)) ≤ 100000033 := rsb_mul q1 r1 (by omega)
  have r3 := rsb_floor r2 (Nat.le_refl _)
  have r4 := rs_unitP (h := hold b) (by omega)
  exact ⟨by omega, ⟨by omega, by omega⟩, by omega, by omega, ⟨by omega, by show rs (unitP (hold b)) ≤ _; omega⟩, by kernel_rfl, rfl, rfl, rfl⟩

def d_ref4_Up : Den := den2 aRat aInt (fun a _ => a.sz ≤ 10000000) fun a p => ratV (cr (up a.q (hold p)))
set_option maxRecDepth 100000 in
set_option maxHeartbeats 1000000 in
theorem s_ref4_Up : Sound Try.prog 100 d_ref4_Up := by
  refine sound2 (fz := nofz) (l := [(69, d_ref2_Neg), (99, d_ref4_Down)]) TT_ok ⟨s_ref2_Neg, s_ref4_Down, trivial⟩ mixed Try.func100 Try.ntmps100 Try.results100 Try.call100 rfl (by omega) (fun _ _ => rfl) ?_
  intro a b hp ha hb
  rw [codeK_start]
  simp only [go_sem, d_ref2_Neg, d_ref4_Down, Nat.reduceBEq, Nat.reduceBNe, Nat.reduceLT, Nat.reduceLeDiff, Nat.reduceAdd, Nat.reduceSub, Nat.reduceMul, Nat.reduceEqDiff, Int.reduceNeg, Int.reduceAdd, Int.reduceLT, Int.reduceLE, Int.reduceToNat, ↓reduceIte]
  have q1 : rs a.q ≤ 10000000 := rs_ok ha hp (by omega)
  have q2 := rs_dn (rsb_neg q1) (hold_le b)
  exact ⟨by omega, by have := rsb_neg q1; omega, by omega, rfl, rfl, rfl⟩

def d_ref4_Trim : Den := den2 aBall aInt (fun a _ => a.sz ≤ 10000000) fun a p => ballV (bb (dn a.lo.q (hold p)) (up a.hi.q (hold p)))
set_option maxRecDepth 100000 in
set_option maxHeartbeats 1000000 in
theorem s_ref4_Trim : Sound Try.prog 102 d_ref4_Trim := by
  refine sound2 (fz := nofz) (l := [(99, d_ref4_Down), (100, d_ref4_Up)]) TT_ok ⟨s_ref4_Down, s_ref4_Up, trivial⟩ mixed Try.func102 Try.ntmps102 Try.results102 Try.call102 rfl (by omega) (fun _ _ => rfl) ?_
  intro a b hp ha hb
  rw [codeK_start]
  simp only [go_sem, d_ref4_Down, d_ref4_Up, Nat.reduceBEq, Nat.reduceBNe, Nat.reduceLT, Nat.reduceLeDiff, Nat.reduceAdd, Nat.reduceSub, Nat.reduceMul, Nat.reduceEqDiff, Int.reduceNeg, Int.reduceAdd, Int.reduceLT, Int.reduceLE, Int.reduceToNat, ↓reduceIte]
  have l := BB.lens hp
  exact ⟨by omega, by omega, by kernel_rfl⟩

def d_ref4_Meet : Den := den2 aBall aBall (fun a b => (a.sz ≤ 100000000 ∧ b.sz ≤ 100000000) ∧ a.lo.q ≤ a.hi.q ∧ b.lo.q ≤ b.hi.q) fun a b => ballOkV (bb (meetLo a b) (meetHi a b)) (decide (sideI a b = 0))
set_option maxRecDepth 100000 in
set_option maxHeartbeats 1000000 in
theorem s_ref4_Meet : Sound Try.prog 122 d_ref4_Meet := by
  refine sound2 (fz := nofz) (l := [(171, d_ref4_high), (38, d_ref2_Norm), (170, d_ref4_low), (45, d_ref2_Cmp), (72, d_ref2_Int), (86, d_ref4_Of)]) TT_ok ⟨s_ref4_high, s_ref2_Norm, s_ref4_low, s_ref2_Cmp, s_ref2_Int, s_ref4_Of, trivial⟩ mixed Try.func122 Try.ntmps122 Try.results122 Try.call122 rfl (by omega) (fun _ _ => rfl) ?_
  intro a b hp ha hb
  rw [codeK_start]
  simp only [go_sem, d_ref4_high, d_ref2_Norm, d_ref4_low, d_ref2_Cmp, d_ref2_Int, d_ref4_Of, Nat.reduceBEq, Nat.reduceBNe, Nat.reduceLT, Nat.reduceLeDiff, Nat.reduceAdd, Nat.reduceSub, Nat.reduceMul, Nat.reduceEqDiff, Int.reduceNeg, Int.reduceAdd, Int.reduceLT, Int.reduceLE, Int.reduceToNat, ↓reduceIte]
  have l := BB.lens hp.1.1
  have m := BB.lens hp.1.2
  have q1 : rs a.lo.q ≤ 100000000 := rs_ok ha.1 l.1 (by omega)
  have q2 : rs a.hi.q ≤ 100000000 := rs_ok ha.2 l.2 (by omega)
  have q3 : rs b.lo.q ≤ 100000000 := rs_ok hb.1 m.1 (by omega)
  have q4 : rs b.hi.q ≤ 100000000 := rs_ok hb.2 m.2 (by omega)
  have s1 := highR_sz (K := 100000000) l.1 m.1
  have s2 := lowR_sz (K := 100000000) l.2 m.2
  rw [highR_q, lowR_q]
  refine ⟨⟨by omega, by omega⟩, by omega, ⟨by omega, by omega⟩, by omega, by kernel_rfl, ⟨Nat.le_trans (rsb_mx q1 q3) (by omega), Nat.le_trans (rsb_mn q2 q4) (by omega)⟩, ?_⟩
  have hm := meet_apart hp.2.1 hp.2.2
  split
  · rename_i c
    have c := hm.1 c
    have e1 : meetLo a b = 0 := by unfold meetLo; rw [if_neg c]
    have e2 : meetHi a b = 0 := by unfold meetHi; rw [if_neg c]
    rw [e1, e2, decide_eq_false c]
    exact ⟨rs0 (by omega), ⟨rfl, rfl, rfl, rfl, rfl, rfl⟩, rfl⟩
  · rename_i c
    have c : sideI a b = 0 := Classical.byContradiction fun h => c (hm.2 h)
    have e1 : meetLo a b = mx a.lo.q b.lo.q := by unfold meetLo; rw [if_pos c]
    have e2 : meetHi a b = mn a.hi.q b.hi.q := by unfold meetHi; rw [if_pos c]
    rw [e1, e2, decide_eq_true c]
    exact ⟨⟨rfl, rfl, rfl, rfl, rfl, rfl⟩, rfl⟩


end Go.Proofs.Ytmfoihjkhoinaaa
