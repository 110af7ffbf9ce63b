/- Contracts whose answer is known by an equation. -/
import Derived.Test.YtjfaefgabaimaaaGreatGI
import Derived.Test.YtjfaefgabaimaaaGreatGG
namespace Go.Proofs.YtjfaefgabaimaaaGreat
open Go.RowKit

theorem ratCmpE (w : World) (v1 v2 : Value) (a b : Rat) (h1 : RatR 100000000000 w v1 a) (h2 : RatR 100000000000 w v2 b) {x : Int} (he : cmpQ a b = x) :
    Calls Tryz.prog 23 #[v1, v2] w fun e w' => e = .returned (.int .i64 x) ∧ Below w.heap.size w w' := by
  have h := ratCmp w v1 v2 a b h1 h2
  rw [he] at h
  exact h
theorem ratSameE (w : World) (v1 v2 : Value) (a b : Rat) (h1 : RatR 100000000000 w v1 a) (h2 : RatR 100000000000 w v2 b) {x : Bool} (he : decide (a = b) = x) :
    Calls Tryz.prog 49 #[v1, v2] w fun e w' => e = .returned (.bool x) ∧ Below w.heap.size w w' := by
  have h := ratSame w v1 v2 a b h1 h2
  rw [he] at h
  exact h
theorem ratZeroE (w : World) (v1 : Value) (a : Rat) (h1 : RatR 100000000000 w v1 a) {x : Bool} (he : decide (a = 0) = x) :
    Calls Tryz.prog 26 #[v1] w fun e w' => e = .returned (.bool x) ∧ Below w.heap.size w w' := by
  have h := ratZero w v1 a (h1.more (by omega))
  rw [he] at h
  exact h
theorem r2ZeroE (w : World) (v1 : Value) (a : Rat) (h1 : RatR 100000000000 w v1 a) {x : Bool} (he : decide (a = 0) = x) :
    Calls Tryz.prog 39 #[v1] w fun e w' => e = .returned (.bool x) ∧ Below w.heap.size w w' := by
  have h := r2Zero w v1 a h1
  rw [he] at h
  exact h
theorem rs_div (p q : Rat) : rs (p / q) ≤ rs p + rs q := by
  rw [Rat.div_def]
  have h1 := rs_mul p q⁻¹
  have h2 := rs_inv q
  omega

theorem cmpQ_neg (a b : Rat) : cmpQ b a = - cmpQ a b := by
  by_cases h1 : a < b
  · have h2 : ¬ b < a := Rat.not_lt.2 (Rat.le_of_lt h1)
    simp [cmpQ, h1, h2]
  · by_cases h2 : b < a
    · simp [cmpQ, h1, h2]
    · simp [cmpQ, h1, h2]
theorem cmpQ_bd (a b : Rat) : -1 ≤ cmpQ a b ∧ cmpQ a b ≤ 1 := by
  unfold cmpQ
  split
  · omega
  · split <;> omega
theorem cmpQ_zero (a b : Rat) : cmpQ a b = 0 ↔ a = b := by
  unfold cmpQ
  by_cases h1 : a < b
  · rw [if_pos h1]
    exact ⟨fun h => by omega, fun h => by subst h; exact absurd h1 (Rat.lt_irrefl)⟩
  · by_cases h2 : b < a
    · rw [if_neg h1, if_pos h2]
      exact ⟨fun h => by omega, fun h => by subst h; exact absurd h2 (Rat.lt_irrefl)⟩
    · rw [if_neg h1, if_neg h2]
      exact ⟨fun _ => Rat.le_antisymm (Rat.not_lt.1 h2) (Rat.not_lt.1 h1), fun _ => rfl⟩
theorem cmpQ_add (a b c : Rat) : cmpQ (a + c) (b + c) = cmpQ a b := by
  have h1 : ∀ x y : Rat, (x + c < y + c) ↔ (x < y) := fun x y => Rat.add_lt_add_right
  unfold cmpQ
  by_cases h2 : a < b
  · rw [if_pos h2, if_pos ((h1 _ _).2 h2)]
  · rw [if_neg h2, if_neg (fun h => h2 ((h1 _ _).1 h))]
    by_cases h3 : b < a
    · rw [if_pos h3, if_pos ((h1 _ _).2 h3)]
    · rw [if_neg h3, if_neg (fun h => h3 ((h1 _ _).1 h))]

end Go.Proofs.YtjfaefgabaimaaaGreat
