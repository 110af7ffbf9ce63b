/- Rationals as sign, numerator, denominator: the plain arithmetic, over the core's Rat. No program. -/
import Derived.Test.YtdojdghhbjjoeaaBase
namespace Go.Proofs.Ytdojdghhbjjoeaa
open Go.RowKit

/-- a number with a sign -/
def sg (neg : Bool) (n : Nat) : Int := if neg then -(n : Int) else n
/-- the rational that a sign, a numerator and a denominator say (0 if the denominator is 0) -/
def qv (neg : Bool) (n d : Nat) : Rat := mkRat (sg neg n) d
/-- has a rational the other sign? -/
def ng (q : Rat) : Bool := decide (q.num < 0)
/-- a rational's numerator, without its sign -/
def nm (q : Rat) : Nat := q.num.natAbs

theorem sg_natAbs (neg : Bool) (n : Nat) : (sg neg n).natAbs = n := by cases neg <;> simp [sg]
theorem sg_zero (neg : Bool) : sg neg 0 = 0 := by cases neg <;> simp [sg]
theorem sg_neg (neg : Bool) (n : Nat) : - sg neg n = sg (!neg) n := by cases neg <;> simp [sg]
theorem sg_mul (s t : Bool) (a b : Nat) : sg s a * sg t b = sg (s != t) (a * b) := by
  cases s <;> cases t <;> simp [sg, Int.mul_neg, Int.neg_mul]
theorem sg_mulN (s : Bool) (a b : Nat) : sg s a * (b : Int) = sg s (a * b) := by
  cases s <;> simp [sg, Int.neg_mul]
theorem sg_add (s : Bool) (a b : Nat) : sg s a + sg s b = sg s (a + b) := by
  cases s <;> simp [sg]; omega
theorem sg_sub (s t : Bool) (a b : Nat) (h : s ≠ t) : sg s a + sg t b = if b ≤ a then sg s (a - b) else sg t (b - a) := by
  by_cases hle : b ≤ a
  · rw [if_pos hle]
    cases s <;> cases t
    · exact absurd rfl h
    · simp [sg]; omega
    · simp [sg]; omega
    · exact absurd rfl h
  · rw [if_neg hle]
    cases s <;> cases t
    · exact absurd rfl h
    · simp [sg]; omega
    · simp [sg]; omega
    · exact absurd rfl h
theorem sg_div (s : Bool) (a g : Nat) (h : g ∣ a) : sg s a / (g : Int) = sg s (a / g) := by
  obtain ⟨k, rfl⟩ := h
  by_cases hg : g = 0
  · subst hg; simp [sg_zero]
  · rw [Nat.mul_div_cancel_left _ (by omega), Nat.mul_comm, ← sg_mulN, Int.mul_ediv_cancel _ (by omega)]
theorem sg_neg_iff (s : Bool) (n : Nat) (h : n ≠ 0) : decide (sg s n < 0) = s := by
  cases s
  · simp [sg]
  · simp [sg]; omega
theorem sg_eq_zero {s : Bool} {n : Nat} : sg s n = 0 ↔ n = 0 := by cases s <;> simp [sg]

theorem qv_zero_num (s : Bool) (d : Nat) : qv s 0 d = 0 := by unfold qv; rw [sg_zero]; exact Rat.zero_mkRat d
theorem qv_zero_den (s : Bool) (n : Nat) : qv s n 0 = 0 := by unfold qv; exact Rat.mkRat_zero _

theorem qv_parts (s : Bool) (n d : Nat) (hd : d ≠ 0) : (qv s n d).num = sg s (n / Nat.gcd n d) ∧ (qv s n d).den = d / Nat.gcd n d := by
  unfold qv
  rw [Rat.num_mkRat, Rat.den_mkRat, if_neg hd, if_neg hd, sg_natAbs, Nat.gcd_comm d n]
  exact ⟨sg_div s n _ (Nat.gcd_dvd_left n d), rfl⟩

theorem nm_qv (s : Bool) (n d : Nat) (hn : n ≠ 0) (hd : d ≠ 0) : nm (qv s n d) = n / Nat.gcd n d ∧ (qv s n d).den = d / Nat.gcd n d ∧ ng (qv s n d) = s := by
  obtain ⟨h1, h2⟩ := qv_parts s n d hd
  refine ⟨by unfold nm; rw [h1, sg_natAbs], h2, ?_⟩
  unfold ng
  rw [h1]
  refine sg_neg_iff s _ ?_
  have hg := Nat.div_pos (Nat.le_of_dvd (Nat.pos_of_ne_zero hn) (Nat.gcd_dvd_left n d)) (Nat.gcd_pos_of_pos_left d (Nat.pos_of_ne_zero hn))
  omega

theorem parts_zero : nm 0 = 0 ∧ (0 : Rat).den = 1 ∧ ng 0 = false := ⟨rfl, rfl, rfl⟩

theorem qv_self (q : Rat) : qv (ng q) (nm q) q.den = q := by
  have h : sg (ng q) (nm q) = q.num := by
    unfold sg ng nm
    by_cases h : q.num < 0
    · simp [h]; omega
    · simp [h]; omega
  unfold qv
  rw [h]
  exact Rat.mkRat_self q

theorem nm_zero {q : Rat} : nm q = 0 ↔ q = 0 := by
  unfold nm
  rw [Int.natAbs_eq_zero, Rat.num_eq_zero]

theorem den_ne (q : Rat) : q.den ≠ 0 := q.den_nz

theorem qv_mul (s t : Bool) (a b c d : Nat) : qv s a b * qv t c d = qv (s != t) (a * c) (b * d) := by
  unfold qv
  rw [Rat.mkRat_mul_mkRat, sg_mul]

theorem qv_neg (s : Bool) (a b : Nat) : - qv s a b = qv (!s) a b := by
  unfold qv
  rw [Rat.neg_mkRat, sg_neg]

theorem qv_add (s : Bool) (a b c d : Nat) (hb : b ≠ 0) (hd : d ≠ 0) : qv s a b + qv s c d = qv s (a * d + c * b) (b * d) := by
  unfold qv
  rw [Rat.mkRat_add_mkRat _ _ hb hd, sg_mulN, sg_mulN, sg_add]

theorem qv_sub (s t : Bool) (a b c d : Nat) (hst : s ≠ t) (hb : b ≠ 0) (hd : d ≠ 0) :
    qv s a b + qv t c d = if c * b ≤ a * d then qv s (a * d - c * b) (b * d) else qv t (c * b - a * d) (b * d) := by
  unfold qv
  rw [Rat.mkRat_add_mkRat _ _ hb hd, sg_mulN, sg_mulN, sg_sub s t _ _ hst]
  split <;> rfl

theorem qv_inv (s : Bool) (a b : Nat) : (qv s a b)⁻¹ = qv s b a := by
  unfold qv
  rw [← Rat.divInt_ofNat, ← Rat.divInt_ofNat, Rat.inv_divInt]
  cases s
  · rfl
  · simp only [sg, if_true]
    rw [Rat.divInt_neg']

/-- how many limbs a number's longer part takes -/
def rs (q : Rat) : Nat := max (limbs (nm q)).length (limbs q.den).length

theorem rs_qv (s : Bool) (n d K : Nat) (hn : (limbs n).length ≤ K) (hd : (limbs d).length ≤ K) (hK : 1 ≤ K) : rs (qv s n d) ≤ K := by
  unfold rs
  by_cases h1 : n = 0
  · subst h1; rw [qv_zero_num]; exact Nat.max_le.2 ⟨by rw [parts_zero.1]; simp [limbs_zero], by rw [parts_zero.2.1]; exact hK⟩
  · by_cases h2 : d = 0
    · subst h2; rw [qv_zero_den]; exact Nat.max_le.2 ⟨by rw [parts_zero.1]; simp [limbs_zero], by rw [parts_zero.2.1]; exact hK⟩
    · obtain ⟨e1, e2, _⟩ := nm_qv s n d h1 h2
      rw [e1, e2]
      exact Nat.max_le.2 ⟨Nat.le_trans (limbs_len_mono (Nat.div_le_self _ _)) hn, Nat.le_trans (limbs_len_mono (Nat.div_le_self _ _)) hd⟩

theorem limbs_len_mul (a b : Nat) : (limbs (a * b)).length ≤ (limbs a).length + (limbs b).length := by
  refine limbs_len_le ?_
  rw [Nat.pow_add]
  have h1 := lt_of_limbs_len (Nat.le_refl (limbs a).length)
  have h2 := lt_of_limbs_len (Nat.le_refl (limbs b).length)
  exact Nat.mul_lt_mul'' h1 h2

theorem limbs_len_add (a b : Nat) : (limbs (a + b)).length ≤ max (limbs a).length (limbs b).length + 1 := by
  refine limbs_len_le ?_
  have h1 := lt_of_limbs_len (Nat.le_max_left (limbs a).length (limbs b).length)
  have h2 := lt_of_limbs_len (Nat.le_max_right (limbs a).length (limbs b).length)
  rw [Nat.pow_succ]
  omega

theorem rs_pos (q : Rat) : 1 ≤ rs q := by
  unfold rs
  have : 0 < (limbs q.den).length := Nat.pos_of_ne_zero fun h => q.den_nz (limbs_len_zero.1 h)
  exact Nat.le_trans this (Nat.le_max_right _ _)

theorem rs_nm (q : Rat) : (limbs (nm q)).length ≤ rs q := Nat.le_max_left _ _
theorem rs_den (q : Rat) : (limbs q.den).length ≤ rs q := Nat.le_max_right _ _

theorem rs_mul (p q : Rat) : rs (p * q) ≤ rs p + rs q := by
  have h : p * q = qv (ng p != ng q) (nm p * nm q) (p.den * q.den) := by rw [← qv_mul, qv_self, qv_self]
  rw [h]
  exact rs_qv _ _ _ _ (Nat.le_trans (limbs_len_mul _ _) (Nat.add_le_add (rs_nm p) (rs_nm q))) (Nat.le_trans (limbs_len_mul _ _) (Nat.add_le_add (rs_den p) (rs_den q))) (Nat.le_trans (rs_pos p) (Nat.le_add_right _ _))

theorem rs_neg (q : Rat) : rs (-q) = rs q := by
  unfold rs nm
  rw [Rat.neg_num, Rat.neg_den, Int.natAbs_neg]

theorem rs_add (p q : Rat) : rs (p + q) ≤ rs p + rs q + 1 := by
  have hd : (limbs (p.den * q.den)).length ≤ rs p + rs q + 1 := Nat.le_trans (limbs_len_mul _ _) (by have := rs_den p; have := rs_den q; omega)
  have h1 : (limbs (nm p * q.den)).length ≤ rs p + rs q := Nat.le_trans (limbs_len_mul _ _) (Nat.add_le_add (rs_nm p) (rs_den q))
  have h2 : (limbs (nm q * p.den)).length ≤ rs p + rs q := Nat.le_trans (limbs_len_mul _ _) (by have := rs_nm q; have := rs_den p; omega)
  have hp := qv_self p
  have hq := qv_self q
  by_cases hs : ng p = ng q
  · rw [← hp, ← hq, hs, qv_add _ _ _ _ _ p.den_nz q.den_nz, ← hs, hp, hs, hq]
    refine rs_qv _ _ _ _ (Nat.le_trans (limbs_len_add _ _) ?_) hd (by omega)
    have := Nat.max_le.2 ⟨h1, h2⟩
    omega
  · rw [← hp, ← hq, qv_sub _ _ _ _ _ _ hs p.den_nz q.den_nz, hp, hq]
    split
    · exact rs_qv _ _ _ _ (Nat.le_trans (limbs_len_mono (Nat.sub_le _ _)) (by omega)) hd (by omega)
    · exact rs_qv _ _ _ _ (Nat.le_trans (limbs_len_mono (Nat.sub_le _ _)) (by omega)) hd (by omega)

theorem rs_inv (q : Rat) : rs q⁻¹ ≤ rs q := by
  have h : q⁻¹ = qv (ng q) q.den (nm q) := by rw [← qv_inv, qv_self]
  rw [h]
  exact rs_qv _ _ _ _ (rs_den q) (rs_nm q) (rs_pos q)

end Go.Proofs.Ytdojdghhbjjoeaa
