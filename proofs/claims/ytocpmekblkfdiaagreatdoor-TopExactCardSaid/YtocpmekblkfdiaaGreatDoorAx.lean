/- What roots are, in plain Lean: squares' roots; a number without its sign. No condition. The order of numbers by their parts; what roots' ends are. No condition. vernierref4.Mul by the abstract walk. Condition: numbers of at most 10^8 limbs. -/
import Derived.Test.YtocpmekblkfdiaaGreatDoorAu
namespace Go.Proofs.YtocpmekblkfdiaaGreatDoor
open Go.RowKit
/-- without its sign -/
def ab (q : Rat) : Rat := qv false (nm q) q.den
theorem ab_nonneg {q : Rat} (h : ng q = false) : ab q = q := by
  unfold ab
  rw [← h]; exact qv_self q
end Go.Proofs.YtocpmekblkfdiaaGreatDoor
namespace Go.Proofs.YtocpmekblkfdiaaGreatDoor
open Go.RowKit
set_option linter.unusedSimpArgs false
theorem qv_le {a b c d : Nat} (hb : 0 < b) (hd : 0 < d) : qv false a b ≤ qv false c d ↔ a * d ≤ c * b := by
  obtain ⟨n1, d1⟩ := qv_parts false a b (by omega)
  obtain ⟨n2, d2⟩ := qv_parts false c d (by omega)
  rw [Rat.le_iff, n1, d1, n2, d2]
  have g1 : 0 < Nat.gcd a b := Nat.gcd_pos_of_pos_right _ hb
  have g2 : 0 < Nat.gcd c d := Nat.gcd_pos_of_pos_right _ hd
  obtain ⟨a', ha⟩ := Nat.gcd_dvd_left a b
  obtain ⟨b', hb'⟩ := Nat.gcd_dvd_right a b
  obtain ⟨c', hc⟩ := Nat.gcd_dvd_left c d
  obtain ⟨d', hd'⟩ := Nat.gcd_dvd_right c d
  generalize Nat.gcd a b = g at *
  generalize Nat.gcd c d = h at *
  subst ha hb' hc hd'
  rw [Nat.mul_div_cancel_left _ g1, Nat.mul_div_cancel_left _ g1, Nat.mul_div_cancel_left _ g2, Nat.mul_div_cancel_left _ g2]
  simp only [sg, Bool.false_eq_true, if_false]
  have e1 : g * a' * (h * d') = (g * h) * (a' * d') := by simp only [Nat.mul_assoc, Nat.mul_left_comm]
  have e2 : h * c' * (g * b') = (g * h) * (c' * b') := by simp only [Nat.mul_assoc, Nat.mul_left_comm]
  rw [e1, e2, Nat.mul_le_mul_left_iff (Nat.mul_pos g1 g2)]
  exact_mod_cast Iff.rfl
theorem qv_nonneg (a b : Nat) : 0 ≤ qv false a b := by
  rcases Nat.eq_zero_or_pos b with rfl | hb
  · rw [qv_zero_den]; exact Rat.le_refl
  · have : qv false 0 1 ≤ qv false a b := (qv_le (by omega) hb).2 (by omega)
    rwa [qv_zero_num] at this
theorem qv_of {q : Rat} (h : ng q = false) : q = qv false (nm q) q.den := (ab_nonneg h).symm
end Go.Proofs.YtocpmekblkfdiaaGreatDoor
namespace Go.Proofs.YtocpmekblkfdiaaGreatDoor
open Go.RowKit
set_option linter.unusedSimpArgs false
set_option linter.unusedVariables false
def mx (p q : Rat) : Rat := if q ≤ p then p else q
end Go.Proofs.YtocpmekblkfdiaaGreatDoor
