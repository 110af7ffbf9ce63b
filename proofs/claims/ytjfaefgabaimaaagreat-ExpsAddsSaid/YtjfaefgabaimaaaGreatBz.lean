/- Small lemmas on rationals, their sizes, and powers. No condition. -/
import Derived.Test.YtjfaefgabaimaaaGreatBa
import Derived.Test.YtjfaefgabaimaaaGreatAp
namespace Go.Proofs.YtjfaefgabaimaaaGreat
open Go.RowKit

theorem any_false {α : Type} {l : List α} {p : α → Bool} (h : l.any p = false) : ∀ x ∈ l, p x = false := by
  rw [List.any_eq_false] at h
  intro x hx
  simpa using h x hx
theorem sq_le_sq {a b : Rat} (_ : 0 ≤ a) (hb : 0 ≤ b) (h : a * a ≤ b * b) : a ≤ b := by
  rcases Classical.em (a ≤ b) with h1 | h1
  · exact h1
  · exfalso
    have hlt : b < a := Rat.not_le.1 h1
    have hpos : 0 < a := by
      rcases Classical.em (a ≤ 0) with h2 | h2
      · exact absurd (Rat.le_trans h2 hb) h1
      · exact Rat.not_le.1 h2
    have e1 : a * b < a * a := Rat.mul_lt_mul_of_pos_left hlt hpos
    have e2 : b * b ≤ b * a := Rat.mul_le_mul_of_nonneg_left (Rat.le_of_lt hlt) hb
    rw [Rat.mul_comm b a] at e2
    have := Rat.le_trans h e2
    exact Rat.not_le.2 e1 this
theorem neg_nonneg' {t : Rat} (h : t ≤ 0) : 0 ≤ -t := by
  have := Rat.neg_le_neg h
  rwa [Rat.neg_zero] at this
theorem sq_nonneg (x : Rat) : 0 ≤ x * x := by
  rcases Rat.le_total (a := 0) (b := x) with h | h
  · exact Rat.mul_nonneg h h
  · have := Rat.mul_nonneg (neg_nonneg' h) (neg_nonneg' h)
    rwa [Rat.neg_mul, Rat.mul_neg, Rat.neg_neg] at this
def qpow (x : Rat) : Nat → Rat
  | 0 => 1
  | n + 1 => qpow x n * x
theorem qpow_two (x : Rat) : qpow x 2 = x * x := by show 1 * x * x = x * x; rw [Rat.one_mul]
theorem rs1 {K : Nat} (h : 1 ≤ K) : rs (1 : Rat) ≤ K := h
theorem rs0 {K : Nat} (h : 1 ≤ K) : rs (0 : Rat) ≤ K := h
theorem rs_qpow {x : Rat} {K : Nat} (h : rs x ≤ K) : ∀ n : Nat, rs (qpow x n) ≤ n * K + 1
  | 0 => by rw [Nat.zero_mul]; exact (by decide : (1 : Nat) ≤ 1)
  | n + 1 => by
    have h1 := rs_qpow h n
    have h2 := rs_mul (qpow x n) x
    rw [Nat.add_mul, Nat.one_mul]
    show rs (qpow x n * x) ≤ _
    omega
theorem mul_64 {n K : Nat} (h : n ≤ 64) : n * K ≤ 64 * K := Nat.mul_le_mul_right K h
theorem int1 : ((1 : Int) : Rat) = 1 := rfl
theorem int0 : ((0 : Int) : Rat) = 0 := rfl
theorem all2 {x y : RR} {K : Nat} (h1 : x.sz ≤ K) (h2 : y.sz ≤ K) : ∀ r ∈ [x, y], r.sz ≤ K := by intro r hr; simp only [List.mem_cons, List.not_mem_nil, or_false] at hr; rcases hr with rfl | rfl <;> assumption
theorem all3 {x y z : RR} {K : Nat} (h1 : x.sz ≤ K) (h2 : y.sz ≤ K) (h3 : z.sz ≤ K) : ∀ r ∈ [x, y, z], r.sz ≤ K := by intro r hr; simp only [List.mem_cons, List.not_mem_nil, or_false] at hr; rcases hr with rfl | rfl | rfl <;> assumption

end Go.Proofs.YtjfaefgabaimaaaGreat
