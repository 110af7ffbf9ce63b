/- What chapter 7's laws ask: the logarithm of two; what the balls of logarithms hold. Conditions: at most 200 bits. -/
import Derived.Test.YtifnpelkoklcnaaMd
import Derived.Test.YtifnpelkoklcnaaBc
import Derived.Test.YtifnpelkoklcnaaBb
namespace Go.Proofs.Ytifnpelkoklcnaa
open Go.RowKit
set_option linter.unusedSimpArgs false
set_option linter.unusedVariables false

theorem fr_qv (f p : Nat) : P.fr f p = qv false f (2 ^ p) := by
  have h1 := P.fr_mul f p
  have hp := P.rp2_pos p
  have h2 : qv false f (2 ^ p) * P.rp 2 p = ((f : Nat) : Rat) := by
    rw [P.rp2_nat]
    unfold qv
    rw [Rat.mkRat_eq_div]
    have hne : ((2 ^ p : Nat) : Rat) ≠ 0 := by have := P.nat_pos (P.pow_pos2 p); grind
    show (((f : Int)) : Rat) / ((2 ^ p : Nat) : Rat) * ((2 ^ p : Nat) : Rat) = _
    rw [Rat.div_mul_cancel hne]
    rfl
  have h3 : P.fr f p * P.rp 2 p = qv false f (2 ^ p) * P.rp 2 p := by rw [h1, h2]
  exact Rat.le_antisymm (Rat.le_of_mul_le_mul_right (show _ ≤ _ by rw [h3]; exact Rat.le_refl) hp) (Rat.le_of_mul_le_mul_right (show _ ≤ _ by rw [h3]; exact Rat.le_refl) hp)
theorem inv_lt_one {q : Rat} (h : 1 < q) : 1 / q < 1 := by
  have hq : 0 < q := by grind
  have i := P.one_div_mul hq
  rcases P.rat_lt_or (1 / q) 1 with h5 | h5
  · exact h5
  · exfalso
    have := Rat.mul_le_mul_of_nonneg_right h5 (Rat.le_of_lt hq)
    rw [i] at this
    grind
theorem inv_gt_one {q : Rat} (h0 : 0 < q) (h : q < 1) : 1 < 1 / q := by
  have i := P.one_div_mul h0
  rcases P.rat_lt_or 1 (1 / q) with h5 | h5
  · exact h5
  · exfalso
    have := Rat.mul_le_mul_of_nonneg_right h5 (Rat.le_of_lt h0)
    rw [i] at this
    grind
/-- above 1: its own logarithm -/
theorem ln_up {q : Rat} (h : lnOk q = true) (h1 : 1 < q) : ¬ pK (nm q) q.den < 0 ∧ kX (lnK q) = q := by
  have hX := ln_X h
  have hg := ln_gt h (by grind)
  by_cases hk : pK (nm q) q.den < 0
  · exfalso
    rw [hX, if_pos hk] at hg
    have := inv_lt_one h1
    grind
  · rw [if_neg hk] at hX
    exact ⟨hk, hX⟩
/-- below 1: that of 1 by it -/
theorem ln_down {q : Rat} (h : lnOk q = true) (h1 : q < 1) : pK (nm q) q.den < 0 ∧ kX (lnK q) = 1 / q := by
  have hX := ln_X h
  have hg := ln_gt h (by grind)
  by_cases hk : pK (nm q) q.den < 0
  · rw [if_pos hk] at hX
    exact ⟨hk, hX⟩
  · exfalso
    rw [hX, if_neg hk] at hg
    grind
theorem ln_ends_up {q : Rat} {p : Int} (h : lnOk q = true) (h1 : 1 < q) : lnLo q p = P.fr (lnF q p) (hold p) ∧ lnHi q p = P.fr (lnF q p + 1) (hold p) := by
  have hk := (ln_up h h1).1
  have hne : q ≠ 1 := by grind
  unfold lnLo lnHi
  rw [if_pos h, if_pos h, if_neg hne, if_neg hne, if_neg hk, if_neg hk, fr_qv, fr_qv]
  exact ⟨rfl, rfl⟩
theorem ln_ends_down {q : Rat} {p : Int} (h : lnOk q = true) (h1 : q < 1) : lnLo q p = -P.fr (lnF q p + 1) (hold p) ∧ lnHi q p = -P.fr (lnF q p) (hold p) := by
  have hk := (ln_down h h1).1
  have hne : q ≠ 1 := by grind
  unfold lnLo lnHi
  rw [if_pos h, if_pos h, if_neg hne, if_neg hne, if_pos hk, if_pos hk, fr_qv, fr_qv]
  exact ⟨rfl, rfl⟩
theorem rs_fr {f p : Nat} (hp : p ≤ 512) (hf : (limbs f).length ≤ 30) : rs (P.fr f p) ≤ 30 := by
  rw [fr_qv]
  refine rs_qv _ _ _ _ hf ?_ (by omega)
  have := pow_bits p; omega
theorem rs_ln {q : Rat} (p : Int) (hp : p ≤ 200) : rs (lnLo q p) ≤ 30 ∧ rs (lnHi q p) ≤ 30 := by
  have z : rs 0 ≤ 30 := by decide +kernel
  have hb : hold p ≤ 200 := by have := hold_cast p; omega
  by_cases h : lnOk q = true
  · by_cases h0 : q = 1
    · unfold lnLo lnHi
      rw [if_pos h, if_pos h, if_pos h0, if_pos h0]
      exact ⟨z, z⟩
    · have h5 := (ln_is (p := p) h h0 hb).small (ln_Xok h h0)
      have h6 := len_bits h5
      have h7 := limbs_len_add (lnF q p) 1
      have h8 := len_one
      have r1 : rs (P.fr (lnF q p) (hold p)) ≤ 30 := rs_fr (by omega) (by omega)
      have r2 : rs (P.fr (lnF q p + 1) (hold p)) ≤ 30 := rs_fr (by omega) (by omega)
      rcases P.rat_lt_or q 1 with h1 | h1
      · obtain ⟨e1, e2⟩ := ln_ends_down (p := p) h h1
        rw [e1, e2, rs_neg, rs_neg]
        exact ⟨r2, r1⟩
      · obtain ⟨e1, e2⟩ := ln_ends_up (p := p) h (by grind)
        rw [e1, e2]
        exact ⟨r1, r2⟩
  · unfold lnLo lnHi
    rw [if_neg h, if_neg h]
    exact ⟨z, z⟩
theorem el_sum {x X : Rat} {m : Nat} (hx : 0 ≤ x) (h : x + x ≤ ((m + 1 : Nat) : Rat)) (hX : P.RE x m + (P.rt x m + P.rt x m) ≤ X) : P.EL x X := (P.EL.sum hx h).le hX
theorem eg_sum {x X : Rat} {m : Nat} (hx : 0 ≤ x) (hX : X ≤ P.RE x m) : P.EG x X := (P.EG.sum hx m).le hX
theorem ln_two : lnLo 2 4 = qv false (val [11]) (val [16]) ∧ lnHi 2 4 = qv false (val [3]) (val [4]) := by
  have hk : lnOk 2 = true := by decide +kernel
  have h1 : (1 : Rat) < 2 := by decide
  obtain ⟨e1, e2⟩ := ln_ends_up (p := 4) hk h1
  have hX := (ln_up hk h1).2
  have hb : hold 4 = 4 := by decide
  have hok := ln_Xok hk (by decide)
  have hi := ln_is (p := 4) hk (by decide) (by decide)
  rw [hX, hb] at hi
  rw [hX] at hok
  have h11 : P.IsL 2 4 11 := ⟨el_sum (m := 6) (by decide +kernel) (by decide +kernel) (by decide +kernel), eg_sum (m := 6) (by decide +kernel) (by decide +kernel)⟩
  have hf := hi.uniq hok (by decide) h11
  rw [e1, e2, hb, hf, fr_qv, fr_qv]
  exact ⟨rfl, by decide +kernel⟩
theorem el_times {x c : Rat} (hc : 0 ≤ c) (h : P.EL x c) : ∀ k : Nat, P.EL (((k : Nat) : Rat) * x) (P.rp c k)
  | 0 => by rw [show ((0 : Nat) : Rat) = 0 from rfl, Rat.zero_mul]; exact P.EL.zero
  | k + 1 => by
    have := (el_times hc h k).add h
    rwa [show ((k : Nat) : Rat) * x + x = ((k + 1 : Nat) : Rat) * x by rw [Rat.natCast_add, show ((1 : Nat) : Rat) = 1 from rfl]; grind] at this
theorem rs_lnOk {q : Rat} (h : lnOk q = true) : rs q ≤ 4 := by
  unfold lnOk at h
  simp only [Bool.and_eq_true, Bool.not_eq_true', decide_eq_false_iff_not] at h
  exact Nat.max_le.2 ⟨by omega, by omega⟩
theorem ln_le (q : Rat) (p : Int) : lnLo q p ≤ lnHi q p := by
  unfold lnLo lnHi
  have h := P.fr_le (Nat.le_add_right (lnF q p) 1) (hold p)
  rw [fr_qv, fr_qv] at h
  split
  · split
    · exact Rat.le_refl
    · split
      · exact Rat.neg_le_neg h
      · exact h
  · exact Rat.le_refl
theorem side_self {x y : Rat} (h : x ≤ y) : sideI ⟨cr x, cr y⟩ ⟨cr x, cr y⟩ = 0 := side_zero.2 (by simp only [cr_q]; exact ⟨h, h⟩)
theorem bb_sz {x y : Rat} {K L : Nat} (h1 : rs x ≤ K) (h2 : rs y ≤ K) (h : K ≤ L) : (⟨cr x, cr y⟩ : BB).sz ≤ L := Nat.max_le.2 ⟨by rw [cr_sz]; omega, by rw [cr_sz]; omega⟩
/-- a power of two -/
def pow2Q (n : Nat) : Rat := ((2 ^ n : Nat) : Rat)
theorem pow2_ok {n : Nat} (h1 : 1 ≤ n) (h2 : n ≤ 60) : lnOk (pow2Q n) = true ∧ 1 < pow2Q n ∧ lnOk (1 / pow2Q n) = true ∧ 1 / pow2Q n < 1 := by
  have hlt : ((1 : Nat) : Rat) < pow2Q n := by
    unfold pow2Q
    rw [Rat.natCast_lt_natCast]
    have : 2 ^ 1 ≤ 2 ^ n := Nat.pow_le_pow_right (by omega) h1
    omega
  have hlt : (1 : Rat) < pow2Q n := hlt
  have hd : (pow2Q n).den = 1 := rfl
  have hn : nm (pow2Q n) = 2 ^ n := rfl
  have hg : ng (pow2Q n) = false := by unfold ng; exact decide_eq_false (by show ¬ ((2 ^ n : Nat) : Int) < 0; omega)
  have hl : (limbs (2 ^ n)).length ≤ 2 := by have := pow_bits n; omega
  have h1l := len_one
  have key : ∀ q : Rat, ng q = false → q ≠ 0 → (limbs (nm q)).length ≤ 4 → (limbs q.den).length ≤ 4 → lnOk q = true := by
    intro q a b c d
    unfold lnOk
    rw [a, decide_eq_false b, decide_eq_false (show ¬ 4 < (limbs (nm q)).length by omega), decide_eq_false (show ¬ 4 < (limbs q.den).length by omega)]
    rfl
  have hi := inv_lt_one hlt
  have hp : 0 < pow2Q n := by grind
  have hi0 := P.inv_pos' hp
  refine ⟨key _ hg (by grind) (by rw [hn]; omega) (by rw [hd]; omega), hlt, key _ ?_ (by grind) ?_ ?_, hi⟩
  · unfold ng
    refine decide_eq_false fun h => ?_
    have := Rat.num_nonneg.2 (Rat.le_of_lt hi0)
    omega
  · have e : (1 / pow2Q n) = qv false 1 (2 ^ n) := by
      have : P.fr 1 n = 1 / pow2Q n := by unfold P.fr pow2Q; rw [P.rp2_nat, show ((1 : Nat) : Rat) = 1 from rfl, Rat.one_mul]
      rw [← this, fr_qv]
    rw [e]
    have := rs_qv false 1 (2 ^ n) 4 (by omega) (by omega) (by omega)
    exact (rs_parts this).1
  · have e : (1 / pow2Q n) = qv false 1 (2 ^ n) := by
      have : P.fr 1 n = 1 / pow2Q n := by unfold P.fr pow2Q; rw [P.rp2_nat, show ((1 : Nat) : Rat) = 1 from rfl, Rat.one_mul]
      rw [← this, fr_qv]
    rw [e]
    have := rs_qv false 1 (2 ^ n) 4 (by omega) (by omega) (by omega)
    exact (rs_parts this).2
/-- the logarithm of a power of two, and so many times that of two -/
theorem pow2_meet {n : Nat} {p : Int} (h1 : 1 ≤ n) (h2 : n ≤ 60) (hp : p ≤ 100) : sideI (bb (lnLo (pow2Q n) p) (lnHi (pow2Q n) p)) (bb (mulLo (bb (lnLo 2 p) (lnHi 2 p)) (bb ((n : Nat) : Rat) ((n : Nat) : Rat))) (mulHi (bb (lnLo 2 p) (lnHi 2 p)) (bb ((n : Nat) : Rat) ((n : Nat) : Rat)))) = 0 ∧ lnLo (1 / pow2Q n) p = -lnHi (pow2Q n) p ∧ lnHi (1 / pow2Q n) p = -lnLo (pow2Q n) p := by
  obtain ⟨k1, k2, k3, k4⟩ := pow2_ok h1 h2
  have hb : hold p ≤ 100 := by have := hold_cast p; omega
  have q1 : lnOk 2 = true := by decide +kernel
  have q2 : (1 : Rat) < 2 := by decide
  obtain ⟨e1, e2⟩ := ln_ends_up (p := p) q1 q2
  obtain ⟨e3, e4⟩ := ln_ends_up (p := p) k1 k2
  obtain ⟨e5, e6⟩ := ln_ends_down (p := p) k3 k4
  have i1 := ln_is (p := p) q1 (by decide) (by omega)
  have i2 := ln_is (p := p) k1 (by grind) (by omega)
  have i3 := ln_is (p := p) k3 (by grind) (by omega)
  rw [(ln_up q1 q2).2] at i1
  rw [(ln_up k1 k2).2] at i2
  have hpos : 0 < pow2Q n := by grind
  have hii : 1 / (1 / pow2Q n) = pow2Q n := by
    have a1 := P.one_div_mul hpos
    have a2 := P.one_div_mul (P.inv_pos' hpos)
    have a3 : 1 / (1 / pow2Q n) = 1 / (1 / pow2Q n) * (1 / pow2Q n * pow2Q n) := by rw [a1, Rat.mul_one]
    rw [a3, ← Rat.mul_assoc, a2, Rat.one_mul]
  rw [(ln_down k3 k4).2, hii] at i3
  have hok := ln_Xok k1 (by grind)
  rw [(ln_up k1 k2).2] at hok
  have hf := i3.uniq hok (by omega) i2
  have hrp : P.rp 2 n = pow2Q n := P.rp2_nat n
  have t1 := el_times (by decide) i1.1 n
  have t2 := P.EG.times (by decide) i1.2 n
  rw [hrp] at t1 t2
  have m1 := t1.le_EG i2.2
  have m2 := i2.1.le_EG t2
  have l := (mulLo_le (bb (lnLo 2 p) (lnHi 2 p)) (bb ((n : Nat) : Rat) ((n : Nat) : Rat))).1
  have u := (mulHi_ge (bb (lnLo 2 p) (lnHi 2 p)) (bb ((n : Nat) : Rat) ((n : Nat) : Rat))).2.2.1
  simp only [bb, cr_q] at l u
  refine ⟨side_zero.2 ⟨?_, ?_⟩, ?_, ?_⟩
  · simp only [bb, cr_q]
    rw [e4]
    refine Rat.le_trans l ?_
    rw [e1, Rat.mul_comm]
    exact m1
  · simp only [bb, cr_q]
    rw [e3]
    refine Rat.le_trans ?_ u
    rw [e2, Rat.mul_comm (P.fr _ _)]
    exact m2
  · rw [e5, e4, hf]
  · rw [e6, e3, hf]

def d_law7_known : Den := den0 (boolV true)
set_option maxRecDepth 100000 in
set_option maxHeartbeats 1000000 in
theorem s_law7_known : Sound Try.prog 42 d_law7_known := by
  refine sound0 (fz := nofz) (l := [(44, d_logs_Two), (28, d_ref2_Of), (16, d_ref4_Same)]) TT_ok ⟨s_logs_Two, s_ref2_Of, s_ref4_Same, trivial⟩ mixed Try.func42 Try.ntmps42 Try.results42 Try.call42 rfl rfl ?_
  rw [codeK_start]
  simp only [go_sem, d_logs_Two, d_ref2_Of, d_ref4_Same, Nat.reduceBEq, Nat.reduceBNe, Nat.reduceLT, Nat.reduceLeDiff, Nat.reduceAdd, Nat.reduceSub, Nat.reduceMul, Nat.reduceEqDiff, Int.reduceNeg, Int.reduceAdd, Int.reduceLT, Int.reduceLE, Int.reduceToNat, ↓reduceIte]
  obtain ⟨e1, e2⟩ := ln_two
  rw [e1, e2]
  refine ⟨⟨by decide +kernel, by decide +kernel⟩, ?_⟩
  unfold sameB
  simp


end Go.Proofs.Ytifnpelkoklcnaa
