/- How large the numbers are that e's row reckons with. No condition beyond those told. -/
import Derived.Test.YtjfaefgabaimaaaGreatPd
set_option linter.unusedSimpArgs false
set_option linter.unusedVariables false
namespace Go.Proofs.YtjfaefgabaimaaaGreat.P

open GQ

theorem cn_low {w : Nat} {y : Sp} (hs : y.1 ≤ y.2) : Cn w y (fr y.1 w) := by
  refine ⟨?_, ?_⟩ <;> rw [fr_mul, Rat.natCast_le_natCast]
  · exact Nat.le_refl _
  · exact hs
theorem xA_size {w : Nat} {y : Sp} (hy : 4 * y.2 ≤ 2 ^ w) (hs : y.2 = y.1 + 1) (j : Nat) : (xA y w j).1 ≤ 2 ^ w * 3 ∧ (xA y w j).2 ≤ 2 ^ w * 3 + 5 * (j + 1) := by
  have hc := cn_low (w := w) (show y.1 ≤ y.2 by omega)
  have hA := cn_xA hc j
  have hr0 := hc.nn
  have hr : fr y.1 w + fr y.1 w ≤ 1 := by
    have h1 : (y.1 + y.1) ≤ 2 ^ w := by omega
    have h2 := fr_le h1 w
    rw [fr_add] at h2
    have h3 := fr_two w 1
    rw [Nat.mul_one] at h3
    rw [h3] at h2
    exact h2
  have a1 := RE_rest hr0 (n := 1) (by rw [show ((1 + 1 : Nat) : Rat) = 2 by decide +kernel]; grind) j
  rw [show 1 + j = j + 1 by omega] at a1
  have a2 := rt_nn hr0 (j + 1)
  generalize fr y.1 w = r at *
  have a3 : RE r 1 + (rt r 1 + rt r 1) = 1 + (r + r) := by
    show (0 + (1 : Rat)) + (1 * (1 / ((0 + 1 : Nat) : Rat) * r) + 1 * (1 / ((0 + 1 : Nat) : Rat) * r)) = _
    rw [show (1 : Rat) / ((0 + 1 : Nat) : Rat) = 1 by decide +kernel]; grind
  have a4 : RE r (j + 1) ≤ 3 := by grind
  have a5 := Rat.mul_le_mul_of_nonneg_right a4 (Rat.le_of_lt (rp2_pos w))
  have a6 := Rat.le_trans hA.1 a5
  rw [rp2_nat, show (3 : Rat) = ((3 : Nat) : Rat) from rfl, ← Rat.natCast_mul, Rat.natCast_le_natCast] at a6
  have := (xA_width hy hs j).1
  omega
theorem big8 {w : Nat} (hw : 160 ≤ w) : 5 * (w + 3) + 1 ≤ 2 ^ w := by
  have h3 : 2 ^ w = 2 ^ (w - 8) * 256 := by rw [show (256 : Nat) = 2 ^ 8 by decide, ← Nat.pow_add]; congr 1; omega
  have h4 : w - 8 < 2 ^ (w - 8) := Nat.lt_two_pow_self
  omega
/-- every sum on the way is short -/
theorem xA_short {w : Nat} {y : Sp} (hy : 4 * y.2 ≤ 2 ^ w) (hs : y.2 = y.1 + 1) (hw : 160 ≤ w) {j : Nat} (hj : j ≤ w + 2) : (xA y w j).1 < 2 ^ (w + 3) ∧ (xA y w j).2 < 2 ^ (w + 3) ∧ (xT y w j).1 < 2 ^ (w + 3) ∧ (xT y w j).2 < 2 ^ (w + 3) := by
  obtain ⟨h1, h2⟩ := xA_size hy hs j
  have h3 := xT_le hy (show y.1 ≤ y.2 by omega) j
  have h4 := (xT_width hy hs j).2
  have h5 := big8 hw
  rw [Nat.pow_add]
  omega
theorem xR_size {w : Nat} {y : Sp} (hy : 4 * y.2 ≤ 2 ^ w) (hs : y.2 = y.1 + 1) (hw : 160 ≤ w) : 2 ^ w ≤ (xR y w).1 ∧ (xR y w).1 ≤ (xR y w).2 ∧ (xR y w).2 ≤ 2 ^ (w + 2) := by
  obtain ⟨_, _, hJ⟩ := xJ_spec hy (show 1 ≤ w by omega)
  have h1 := xA_size hy hs (xJ y w)
  have h2 := xA_width hy hs (xJ y w)
  have h3 := (cn_xA (cn_low (w := w) (show y.1 ≤ y.2 by omega)) (xJ y w)).sp
  have h5 := big8 hw
  simp only [xR, spWider]
  rw [Nat.pow_add]
  omega
theorem xY_ok {n d w : Nat} (hd : 0 < d) (hn : n ≤ 64 * d) (hw : 160 ≤ w) : 4 * (spOf n (d * 2 ^ 14) w).2 ≤ 2 ^ w := by
  have hdp : 0 < d * 2 ^ 14 := Nat.mul_pos hd (by decide)
  have h1 : n * 2 ^ w / (d * 2 ^ 14) ≤ 2 ^ (w - 8) := by
    refine Nat.le_of_lt_succ ((Nat.div_lt_iff_lt_mul hdp).2 ?_)
    have h2 : n * 2 ^ w ≤ 64 * d * 2 ^ w := Nat.mul_le_mul_right _ hn
    have h3 : 2 ^ w = 2 ^ (w - 8) * 2 ^ 8 := by rw [← Nat.pow_add]; congr 1; omega
    have h4 : 64 * d * 2 ^ w = 2 ^ (w - 8) * (d * 2 ^ 14) := by
      rw [h3, show (2 : Nat) ^ 14 = 64 * 2 ^ 8 by decide]
      generalize 2 ^ (w - 8) = u
      generalize (2 : Nat) ^ 8 = v
      simp only [Nat.mul_assoc, Nat.mul_comm, Nat.mul_left_comm]
    rw [Nat.succ_mul]
    omega
  have h5 : 2 ^ w = 2 ^ (w - 8) * 256 := by rw [show (256 : Nat) = 2 ^ 8 by decide, ← Nat.pow_add]; congr 1; omega
  have h7 : 2 ^ 3 ≤ 2 ^ (w - 8) := Nat.pow_le_pow_right (by omega) (by omega)
  show 4 * (n * 2 ^ w / (d * 2 ^ 14) + 1) ≤ 2 ^ w
  omega
theorem pw_lt (a : Nat) : 2 ^ a < 2 ^ (a + 1) := by rw [Nat.pow_succ]; have := pow_pos2 a; omega
theorem cS_le : ∀ {i : Nat}, i ≤ 14 → cS i ≤ 49151
  | 0, _ | 1, _ | 2, _ | 3, _ | 4, _ | 5, _ | 6, _ | 7, _ | 8, _ | 9, _ | 10, _ | 11, _ | 12, _ | 13, _ | 14, _ => by decide +kernel
  | n + 15, h => by omega
theorem sqs_short {w : Nat} {y : Sp} (hy : 4 * y.2 ≤ 2 ^ w) (hs : y.2 = y.1 + 1) (hw : 160 ≤ w) {i : Nat} (hi : i ≤ 14) : (sqs (xR y w) w i).1 < 2 ^ (w + 49152) ∧ (sqs (xR y w) w i).2 < 2 ^ (w + 49152) ∧ 2 ^ w ≤ (sqs (xR y w) w i).1 := by
  obtain ⟨h1, h2, h3⟩ := xR_size hy hs hw
  obtain ⟨k1, k2, k3, k4⟩ := sqs_size (D := w + 2) h3 h2 (by omega) h1 i
  have h4 : 2 ^ (w + cS i) ≤ 2 ^ (w + 49151) := Nat.pow_le_pow_right (by omega) (Nat.add_le_add_left (cS_le hi) w)
  have h5 : 2 ^ (w + 49151) < 2 ^ (w + 49152) := pw_lt (w + 49151)
  have h6 := Nat.lt_of_le_of_lt (Nat.le_trans k1 h4) h5
  exact ⟨Nat.lt_of_le_of_lt k2 h6, h6, k4⟩
theorem xNear_short {neg : Bool} {n d w : Nat} (hd : 0 < d) (hn : n ≤ 64 * d) (hw : 160 ≤ w) : (xNear neg n d w).1 < 2 ^ (w + 49152) ∧ (xNear neg n d w).2 < 2 ^ (w + 49152) := by
  obtain ⟨_, _, h3, h4, _⟩ := xNear_in neg hd hn hw (r := ((n : Nat) : Rat) * (1 / ((d : Nat) : Rat))) (by rw [Rat.mul_assoc, one_div_mul (nat_pos hd), Rat.mul_one])
  have h5 : 2 ^ (w + cS 14) ≤ 2 ^ (w + 49151) := Nat.pow_le_pow_right (by omega) (Nat.add_le_add_left (cS_le (Nat.le_refl _)) w)
  have h6 := Nat.lt_of_le_of_lt (Nat.le_trans h4 h5) (pw_lt (w + 49151))
  exact ⟨Nat.lt_of_le_of_lt h3 h6, h6⟩

end Go.Proofs.YtjfaefgabaimaaaGreat.P
