/- Contracts whose answer is known by an equation. -/
import Derived.Test.YtocpmekblkfdiaaGreatDoorGI
import Derived.Test.YtocpmekblkfdiaaGreatDoorGG
namespace Go.Proofs.YtocpmekblkfdiaaGreatDoor
open Go.RowKit
theorem rs_div (p q : Rat) : rs (p / q) ≤ rs p + rs q := by
  rw [Rat.div_def]
  have h1 := rs_mul p q⁻¹
  have h2 := rs_inv q
  omega
theorem cmpQ_zero (a b : Rat) : cmpQ a b = 0 ↔ a = b := by
  unfold cmpQ
  by_cases h1 : a < b
  · rw [if_pos h1]
    exact ⟨fun h => by omega, fun h => by subst h; exact absurd h1 (Rat.lt_irrefl)⟩
  · by_cases h2 : b < a
    · rw [if_neg h1, if_pos h2]
      exact ⟨fun h => by omega, fun h => by subst h; exact absurd h2 (Rat.lt_irrefl)⟩
    · rw [if_neg h1, if_neg h2]
      exact ⟨fun _ => Rat.le_antisymm (Rat.not_lt.1 h2) (Rat.not_lt.1 h1), fun _ => rfl⟩
end Go.Proofs.YtocpmekblkfdiaaGreatDoor
