/- Counts as the program reckons them: sizes, and that the balls of parts meet that of the whole. Condition: the mean is at most 64. -/
import Derived.Test.YtifnpelkoklcnaaPe
set_option linter.unusedSimpArgs false
set_option linter.unusedVariables false
namespace Go.Proofs.Ytifnpelkoklcnaa.P

open GQ

/-- how likely just so many come, without e's power -/
def cs (b : Sp) (w : Nat) : Nat → Sp
  | 0 => spOne w
  | j + 1 => spTimes (spMul (cs b w j) b w) 1 (j + 1)
theorem cs_sp {b : Sp} {w : Nat} (hb : b.1 ≤ b.2) : ∀ j, (cs b w j).1 ≤ (cs b w j).2
  | 0 => by simp only [cs, spOne]; omega
  | j + 1 => by
    have ih := cs_sp (w := w) hb j
    simp only [cs]
    rw [spTimes, spMul]
    show (cs b w j).1 * b.1 / 2 ^ w * 1 / (j + 1) ≤ ((cs b w j).2 * b.2 / 2 ^ w + 1) * 1 / (j + 1) + 1
    have h1 : (cs b w j).1 * b.1 / 2 ^ w ≤ (cs b w j).2 * b.2 / 2 ^ w := Nat.div_le_div_right (Nat.mul_le_mul ih hb)
    have h2 : (cs b w j).1 * b.1 / 2 ^ w * 1 / (j + 1) ≤ ((cs b w j).2 * b.2 / 2 ^ w + 1) * 1 / (j + 1) := Nat.div_le_div_right (by omega)
    omega
theorem cs_short {b : Sp} {w : Nat} (hb : b.2 ≤ 65 * 2 ^ w) : ∀ j, (cs b w j).2 ≤ 2 ^ (w + 1 + 8 * j)
  | 0 => by
    have := pow_pos2 w
    simp only [cs, spOne, Nat.mul_zero, Nat.add_zero, Nat.pow_succ]; omega
  | j + 1 => by
    have ih := cs_short hb j
    have hw := pow_pos2 w
    simp only [cs]
    rw [spTimes, spMul]
    show ((cs b w j).2 * b.2 / 2 ^ w + 1) * 1 / (j + 1) + 1 ≤ _
    have h1 : (cs b w j).2 * b.2 / 2 ^ w ≤ (cs b w j).2 * 65 := by
      have a1 : (cs b w j).2 * b.2 ≤ (cs b w j).2 * (65 * 2 ^ w) := Nat.mul_le_mul_left _ hb
      have := Nat.div_le_div_right (c := 2 ^ w) a1
      rwa [← Nat.mul_assoc, Nat.mul_div_cancel _ hw] at this
    have h2 : ((cs b w j).2 * b.2 / 2 ^ w + 1) * 1 / (j + 1) ≤ (cs b w j).2 * b.2 / 2 ^ w + 1 := by rw [Nat.mul_one]; exact Nat.div_le_self _ _
    have h3 := pow_pos2 (w + 1 + 8 * j)
    have h4 : 2 ^ (w + 1 + 8 * (j + 1)) = 2 ^ (w + 1 + 8 * j) * 256 := by rw [show w + 1 + 8 * (j + 1) = w + 1 + 8 * j + 8 by omega, Nat.pow_add]
    omega
/-- the last one, and the first i ones -/
def csS (b : Sp) (w k : Nat) : Nat → Sp
  | 0 => cs b w k
  | i + 1 => spAdd (csS b w k i) (cs b w i)
/-- the first i ones' lower ends -/
def csL (b : Sp) (w : Nat) : Nat → Nat
  | 0 => 0
  | i + 1 => csL b w i + (cs b w i).1
theorem csS_lo (b : Sp) (w k : Nat) : ∀ i, (csS b w k i).1 = (cs b w k).1 + csL b w i
  | 0 => rfl
  | i + 1 => by
    have := csS_lo b w k i
    simp only [csS, spAdd, csL]
    omega
theorem csS_sp {b : Sp} {w k : Nat} (hb : b.1 ≤ b.2) : ∀ i, (csS b w k i).1 ≤ (csS b w k i).2
  | 0 => cs_sp hb k
  | i + 1 => by
    have h1 := csS_sp (w := w) (k := k) hb i
    have h2 := cs_sp (w := w) hb i
    simp only [csS, spAdd]
    omega
theorem csS_short {b : Sp} {w k K : Nat} (hb : b.2 ≤ 65 * 2 ^ w) (hk : k ≤ K) : ∀ i, i ≤ K → (csS b w k i).2 ≤ (i + 1) * 2 ^ (w + 1 + 8 * K)
  | 0, _ => by
    have := cs_short hb k
    have h2 : 2 ^ (w + 1 + 8 * k) ≤ 2 ^ (w + 1 + 8 * K) := Nat.pow_le_pow_right (by omega) (by omega)
    simp only [csS]
    omega
  | i + 1, hi => by
    have h1 := csS_short hb hk i (by omega)
    have h3 := cs_short hb i
    have h2 : 2 ^ (w + 1 + 8 * i) ≤ 2 ^ (w + 1 + 8 * K) := Nat.pow_le_pow_right (by omega) (by omega)
    simp only [csS, spAdd]
    rw [Nat.add_mul (i + 1) 1, Nat.one_mul]
    omega
/-- the ends of what is told hold the product of the lower ends -/
theorem told_in {s e : Sp} {w p : Nat} (hp : p ≤ w) (hs : s.1 ≤ s.2) (he : e.1 ≤ e.2) : fr ((spMul s e w).1 / 2 ^ (w - p)) p ≤ fr s.1 w * fr e.1 w ∧ fr s.1 w * fr e.1 w ≤ fr ((spMul s e w).2 / 2 ^ (w - p) + 1) p := by
  have hq := pow_pos2 (w - p)
  have hw := rp2_pos w
  have e1 : fr s.1 w * fr e.1 w * rp 2 w * rp 2 w = ((s.1 * e.1 : Nat) : Rat) := by
    have a := fr_mul s.1 w
    have b := fr_mul e.1 w
    rw [Rat.natCast_mul, ← a, ← b]; grind
  have q1 := quo_le (s.1 * e.1) (pow_pos2 w)
  have q2 := lt_quo (s.2 * e.2) (pow_pos2 w)
  rw [← rp2_nat] at q1 q2
  have hse : ((s.1 * e.1 : Nat) : Rat) ≤ ((s.2 * e.2 : Nat) : Rat) := by rw [Rat.natCast_le_natCast]; exact Nat.mul_le_mul hs he
  constructor
  · refine Rat.le_trans (show _ ≤ fr (s.1 * e.1 / 2 ^ w) w from ?_) ?_
    · rw [← fr_up' hp]
      exact fr_le (Nat.div_mul_le_self _ _) w
    · refine Rat.le_of_mul_le_mul_right (c := rp 2 w) ?_ hw
      rw [fr_mul]
      refine Rat.le_of_mul_le_mul_right (c := rp 2 w) ?_ hw
      rw [e1]
      exact q1
  · refine Rat.le_trans (b := fr (s.2 * e.2 / 2 ^ w + 1) w) ?_ ?_
    · refine Rat.le_of_mul_le_mul_right (c := rp 2 w) ?_ hw
      rw [fr_mul]
      refine Rat.le_of_mul_le_mul_right (c := rp 2 w) ?_ hw
      rw [e1]
      exact Rat.le_trans hse q2
    · rw [← fr_up' hp]
      refine fr_le ?_ w
      have h1 := Nat.lt_mul_div_succ (s.2 * e.2 / 2 ^ w + 1) hq
      show s.2 * e.2 / 2 ^ w + 1 ≤ ((s.2 * e.2 / 2 ^ w + 1) / 2 ^ (w - p) + 1) * 2 ^ (w - p)
      rw [Nat.mul_comm _ (2 ^ (w - p))]
      omega
theorem quo_mono {a b c d w : Nat} (hb : 0 < b) (hd : 0 < d) (h : a * d ≤ c * b) : a * 2 ^ w / b ≤ c * 2 ^ w / d := by
  rw [Nat.le_div_iff_mul_le hd]
  have h1 : a * 2 ^ w / b * b ≤ a * 2 ^ w := Nat.div_mul_le_self _ _
  have h2 : a * 2 ^ w / b * b * d ≤ a * 2 ^ w * d := Nat.mul_le_mul_right _ h1
  have h3 : a * d * 2 ^ w ≤ c * b * 2 ^ w := Nat.mul_le_mul_right _ h
  refine Nat.le_of_mul_le_mul_right (c := b) ?_ hb
  have e1 : a * 2 ^ w / b * d * b = a * 2 ^ w / b * b * d := by rw [Nat.mul_right_comm]
  have e2 : a * 2 ^ w * d = a * d * 2 ^ w := by rw [Nat.mul_right_comm]
  have e3 : c * b * 2 ^ w = c * 2 ^ w * b := by rw [Nat.mul_right_comm]
  omega

end Go.Proofs.Ytifnpelkoklcnaa.P
