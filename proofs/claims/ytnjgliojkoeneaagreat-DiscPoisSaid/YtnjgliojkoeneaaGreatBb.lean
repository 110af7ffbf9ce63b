/- Balls: what their reckoning is, and the laws of it, without any program. No condition. Roots: products and squares of what encloses them; without any program. No condition. -/
import Derived.Test.YtnjgliojkoeneaaGreatAx
import Derived.Test.YtnjgliojkoeneaaGreatBa
import Derived.Test.YtnjgliojkoeneaaGreatAp
namespace Go.Proofs.YtnjgliojkoeneaaGreat
open Go.RowKit
def twoP (h : Nat) : Rat := qv false (2 ^ h) 1
def unitP (h : Nat) : Rat := qv false 1 (2 ^ h)
def dn (x : Rat) (h : Nat) : Rat := ((x * twoP h).floor : Rat) * unitP h
def up (x : Rat) (h : Nat) : Rat := -dn (-x) h
theorem twoP_unitP (h : Nat) : twoP h * unitP h = 1 := by
  unfold twoP unitP
  have hp : 0 < 2 ^ h := Nat.pow_pos (by omega)
  rw [qv_mul, bne_self_eq_false, Nat.mul_one, Nat.one_mul]
  have e : qv false 1 1 = 1 := by decide +kernel
  rw [← e]
  exact Rat.le_antisymm ((qv_le hp (by omega)).2 (by omega)) ((qv_le (by omega) hp).2 (by omega))
theorem unitP_nonneg (h : Nat) : 0 ≤ unitP h := qv_nonneg _ _
theorem scale_back (x : Rat) (h : Nat) : x * twoP h * unitP h = x := by rw [Rat.mul_assoc, twoP_unitP, Rat.mul_one]
theorem dn_le (x : Rat) (h : Nat) : dn x h ≤ x := by
  have h1 := Rat.mul_le_mul_of_nonneg_right (Rat.floor_le (x * twoP h)) (unitP_nonneg h)
  rwa [scale_back] at h1
theorem side_zero {a b : BB} : sideI a b = 0 ↔ b.lo.q ≤ a.hi.q ∧ a.lo.q ≤ b.hi.q := by
  unfold sideI
  by_cases c1 : a.hi.q < b.lo.q
  · rw [if_pos c1]
    exact ⟨fun h => by omega, fun h => absurd h.1 (Rat.not_le.2 c1)⟩
  · rw [if_neg c1]
    by_cases c2 : b.hi.q < a.lo.q
    · rw [if_pos c2]
      exact ⟨fun h => by omega, fun h => absurd h.2 (Rat.not_le.2 c2)⟩
    · rw [if_neg c2]
      exact ⟨fun _ => ⟨Rat.not_lt.1 c1, Rat.not_lt.1 c2⟩, fun _ => rfl⟩
end Go.Proofs.YtnjgliojkoeneaaGreat
namespace Go.Proofs.YtnjgliojkoeneaaGreat
open Go.RowKit
end Go.Proofs.YtnjgliojkoeneaaGreat
