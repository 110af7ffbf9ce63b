/- What chapter 6's laws ask: which numbers are looked at, e; the balls of e to a power. Conditions: numbers of at most 6 limbs. -/
import Derived.Test.YtnjgliojkoeneaaGreatMb
import Derived.Test.YtnjgliojkoeneaaGreatBb
namespace Go.Proofs.YtnjgliojkoeneaaGreat
open Go.RowKit
set_option linter.unusedSimpArgs false
set_option linter.unusedVariables false
theorem fr_qv (f p : Nat) : P.fr f p = qv false f (2 ^ p) := by
  have h1 := P.fr_mul f p
  have hp := P.rp2_pos p
  have h2 : qv false f (2 ^ p) * P.rp 2 p = ((f : Nat) : Rat) := by
    rw [P.rp2_nat]
    unfold qv
    rw [Rat.mkRat_eq_div]
    have hne : ((2 ^ p : Nat) : Rat) ≠ 0 := by have := P.nat_pos (P.pow_pos2 p); grind
    show (((f : Int)) : Rat) / ((2 ^ p : Nat) : Rat) * ((2 ^ p : Nat) : Rat) = _
    rw [Rat.div_mul_cancel hne]
    rfl
  have h3 : P.fr f p * P.rp 2 p = qv false f (2 ^ p) * P.rp 2 p := by rw [h1, h2]
  exact Rat.le_antisymm (Rat.le_of_mul_le_mul_right (show _ ≤ _ by rw [h3]; exact Rat.le_refl) hp) (Rat.le_of_mul_le_mul_right (show _ ≤ _ by rw [h3]; exact Rat.le_refl) hp)
/-- what holds of the answer's ends -/
theorem exp_ends {q : Rat} (p : Int) (h : expOk q = true) (hd : q.den ≤ 2 ^ 200) : P.EG q (expLo q p) ∧ P.EL q (expHi q p) ∧ 0 ≤ expLo q p ∧ 0 ≤ expHi q p := by
  unfold expOk at h
  rw [Bool.and_eq_true, decide_eq_true_eq, decide_eq_true_eq] at h
  have hk : expOk q = true := by unfold expOk; rw [decide_eq_true h.1, decide_eq_true h.2]; rfl
  unfold expLo expHi
  rw [if_pos hk, if_pos hk]
  by_cases h0 : q = 0
  · rw [if_pos h0, if_pos h0, h0]
    exact ⟨P.EG.of_zero, P.EL.zero, by decide, by decide⟩
  · rw [if_neg h0, if_neg h0, ← fr_qv, ← fr_qv]
    obtain ⟨_, _, h4⟩ := expF_is (p := p) h0 h.1 h.2 hd
    exact ⟨h4.1, h4.2, P.fr_nn _ _, P.fr_nn _ _⟩
theorem rs_fr {f p : Nat} (hp : p ≤ 512) (hf : (limbs f).length ≤ 30) : rs (qv false f (2 ^ p)) ≤ 30 := by
  refine rs_qv _ _ _ _ hf ?_ (by omega)
  · have := pow_bits p; omega
theorem rs_exp {q : Rat} (p : Int) (hd : q.den ≤ 2 ^ 200) : rs (expLo q p) ≤ 30 ∧ rs (expHi q p) ≤ 30 := by
  have z : rs 0 ≤ 30 := by decide +kernel
  have w : rs 1 ≤ 30 := by decide +kernel
  unfold expLo expHi
  by_cases h : expOk q = true
  · rw [if_pos h, if_pos h]
    have hk := h
    unfold expOk at hk
    rw [Bool.and_eq_true, decide_eq_true_eq, decide_eq_true_eq] at hk
    by_cases h0 : q = 0
    · rw [if_pos h0, if_pos h0]; exact ⟨w, w⟩
    · rw [if_neg h0, if_neg h0]
      obtain ⟨_, _, h4⟩ := expF_is (p := p) h0 hk.1 hk.2 hd
      have h5 := h4.small hk.2
      have hb := hold_le p
      have h6 := len_bits h5
      have h7 := limbs_len_add (expF q p) 1
      have h8 := len_one
      exact ⟨rs_fr hb (by omega), rs_fr hb (by omega)⟩
  · rw [if_neg h, if_neg h]; exact ⟨z, z⟩
end Go.Proofs.YtnjgliojkoeneaaGreat
