/- What the law DiscSums asks: at most so many is at most one fewer, and just so many. Conditions: as told. -/
import Derived.Test.YtifnpelkoklcnaaHi
import Derived.Test.YtifnpelkoklcnaaHg
import Derived.Test.YtifnpelkoklcnaaBd
namespace Go.Proofs.Ytifnpelkoklcnaa
open Go.RowKit
set_option linter.unusedSimpArgs false
set_option linter.unusedVariables false

theorem cdf_sum (q : Rat) (n k : Nat) : cdfQ q n k = sumTo (binQ q n) (k + 1) := by
  show _ = sumTo (fun i => qv false (binN q n i) (q.den ^ n)) (k + 1)
  rw [qv_sum]
  rfl
theorem cQ_next {n k : Int} {q : Rat} (h : tryB n q = true) (hk : 0 ≤ k) : cQ n k q = cQ n (k - 1) q + bQ n k q := by
  obtain ⟨h1, h2, h3, h4⟩ := try_of h
  obtain ⟨m, rfl⟩ := Int.eq_ofNat_of_zero_le h1
  obtain ⟨j, rfl⟩ := Int.eq_ofNat_of_zero_le hk
  have hs : ∀ i, sumTo (binQ q m) (i + 1) = sumTo (binQ q m) i + binQ q m i := fun i => rfl
  have hall := bin_certain h3 h4 m
  have tm : ((m : Nat) : Int).toNat = m := rfl
  have tj : ((j : Nat) : Int).toNat = j := rfl
  unfold cQ bQ
  simp only [tm, tj, cdf_sum]
  rw [if_pos ⟨h, hk⟩]
  by_cases c1 : ((m : Nat) : Int) < j
  · rw [if_pos (show ((m : Nat) : Int) ≤ j by omega), if_pos (show tryB ((m : Nat) : Int) q = true ∧ 0 ≤ ((j : Nat) : Int) - 1 from ⟨h, by omega⟩), if_pos (show ((m : Nat) : Int) ≤ (j : Int) - 1 by omega), if_neg (show ¬ (tryB ((m : Nat) : Int) q = true ∧ 0 ≤ ((j : Nat) : Int) ∧ ((j : Nat) : Int) ≤ m) from fun e => by omega), Rat.add_zero]
  · rw [if_pos (show tryB ((m : Nat) : Int) q = true ∧ 0 ≤ ((j : Nat) : Int) ∧ ((j : Nat) : Int) ≤ m from ⟨h, by omega, by omega⟩)]
    have hL : (if ((m : Nat) : Int) ≤ ((j : Nat) : Int) then (1 : Rat) else sumTo (binQ q m) (j + 1)) = sumTo (binQ q m) (j + 1) := by
      by_cases c2 : m ≤ j
      · rw [if_pos (by omega), show j = m by omega, hall]
      · rw [if_neg (by omega)]
    rw [hL, hs]
    congr 1
    by_cases c3 : j = 0
    · subst c3
      rw [if_neg (fun e => by omega)]
      rfl
    · rw [if_pos ⟨h, by omega⟩, if_neg (by omega)]
      congr 1
      omega
theorem tB_sz (all : Bool) {q : Rat} {p : Int} {k : Int} (hk : k ≤ 100) (h : tOk q = true) (hd : q.den ≤ 2 ^ 200) : (tB all k q p).sz ≤ 2000 := by
  have z0 : (bb ((0 : Int) : Rat) ((0 : Int) : Rat)).sz ≤ 2000 := by decide +kernel
  have z1 : (bb ((1 : Int) : Rat) ((1 : Int) : Rat)).sz ≤ 2000 := by decide +kernel
  unfold tB
  rw [if_pos h]
  · split
    · exact z0
    · split
      · exact z1
      · have ht := h
        unfold tOk at h
        rw [Bool.and_eq_true, decide_eq_true_eq, Bool.not_eq_true'] at h
        obtain ⟨hn, hle⟩ := h
        have hm0 : 0 ≤ q := Rat.num_nonneg.1 (by
          unfold ng at hn
          have := of_decide_eq_false hn
          omega)
        have hnn : nm q ≤ 64 * q.den := nm_le (k := 64) (by rw [show ((64 : Nat) : Rat) = 64 from rfl]; grind) hle
        have hPP : tP p ≤ 200 := by unfold tP; omega
        have hB := cF_by (w := tP p + 128) q.den_pos hnn
        obtain ⟨_, s2, s3⟩ := sAt_sz (all := all) (W := tP p + 128) (K := k.toNat) (i := k.toNat) hB.1 hB.2 (by omega) (by omega) (Nat.le_refl _)
        obtain ⟨x1, x2⟩ := rs_exp (q := -q) ((tP p + 128 : Nat) : Int) (by rw [den_neg]; exact hd)
        have hE := ballSp_sz x1 x2 (W := tP p + 128) (by omega)
        have hms : (spN (P.spMul (tS all q p k.toNat) (tE q p) (tP p + 128))).sz ≤ 1000 := mul_sz (L := 200) (M := 100) s2 s3 hE.1 hE.2 (by omega)
        have m1 : (limbs (P.spMul (tS all q p k.toNat) (tE q p) (tP p + 128)).1).length ≤ 1000 := Nat.le_trans (Nat.le_max_left _ _) hms
        have m2 : (limbs (P.spMul (tS all q p k.toNat) (tE q p) (tP p + 128)).2).length ≤ 1000 := Nat.le_trans (Nat.le_max_right _ _) hms
        have d1 := len_div (m := (P.spMul (tS all q p k.toNat) (tE q p) (tP p + 128)).1) (2 ^ (tP p + 128 - (tP p + 2)))
        have d2 := len_div (m := (P.spMul (tS all q p k.toNat) (tE q p) (tP p + 128)).2) (2 ^ (tP p + 128 - (tP p + 2)))
        have d3 := limbs_len_add ((P.spMul (tS all q p k.toNat) (tE q p) (tP p + 128)).2 / 2 ^ (tP p + 128 - (tP p + 2))) 1
        have d4 := len_one
        have d5 := pow_bits (tP p + 2)
        exact Nat.max_le.2 ⟨show rs _ ≤ _ from rs_qv _ _ _ _ (by omega) (by omega) (by omega), show rs _ ≤ _ from rs_qv _ _ _ _ (by omega) (by omega) (by omega)⟩
theorem tB_rs (all : Bool) {q : Rat} {p : Int} {k : Int} (hk : k ≤ 100) (h : tOk q = true) (hd : q.den ≤ 2 ^ 200) : rs (tB all k q p).lo.q ≤ 2000 ∧ rs (tB all k q p).hi.q ≤ 2000 := by
  have hs := tB_sz all (p := p) hk h hd
  have hb : ∃ x y, tB all k q p = bb x y := by
    unfold tB tBall toldB
    rw [if_pos h]
    split
    · exact ⟨_, _, rfl⟩
    · split
      · exact ⟨_, _, rfl⟩
      · exact ⟨_, _, rfl⟩
  obtain ⟨x, y, e⟩ := hb
  rw [e] at hs ⊢
  simp only [bb, cr_q]
  exact ⟨Nat.le_trans (Nat.le_max_left (rs x) (rs y)) hs, Nat.le_trans (Nat.le_max_right (rs x) (rs y)) hs⟩
theorem den_small {x : RR} (h : x.ok) (hs : x.sz ≤ 1) : x.q.den ≤ 2 ^ 200 := by
  have h1 : rs x.q ≤ 1 := rs_ok h hs (by omega)
  have h2 := lt_of_limbs_len (rs_parts h1).2
  rw [Nat.pow_one] at h2
  have h3 : (2 : Nat) ^ 32 ≤ 2 ^ 200 := Nat.pow_le_pow_right (by omega) (by omega)
  have h4 : (2 : Nat) ^ 32 = 4294967296 := by decide
  omega

end Go.Proofs.Ytifnpelkoklcnaa
