/- Numbers between two whole numbers by a power of two: how they are reckoned with. No condition. e to a power as the program reckons it: it lies between, is narrow, and two whole numbers hold it. Conditions: the power is at most 64 without its sign, w below 2^36 digits. The two whole numbers that hold e to a power: there are such, and only one such; they are found. Conditions: the power is at most 64 without its sign, of a denominator of at most 200 bits; at most 512 bits are asked. -/
import Derived.Test.YtjfaefgabaimaaaGreatPc
set_option linter.unusedSimpArgs false
set_option linter.unusedVariables false
namespace Go.Proofs.YtjfaefgabaimaaaGreat.P

open GQ

/-- a whole number by 2 to the power w -/
def fr (a w : Nat) : Rat := ((a : Nat) : Rat) * (1 / rp 2 w)
theorem inv2_pos (w : Nat) : 0 < 1 / rp 2 w := inv_pos' (rp2_pos w)
theorem inv2_mul (w : Nat) : 1 / rp 2 w * rp 2 w = 1 := one_div_mul (rp2_pos w)
theorem fr_mul (a w : Nat) : fr a w * rp 2 w = ((a : Nat) : Rat) := by
  unfold fr
  rw [Rat.mul_assoc, inv2_mul, Rat.mul_one]
theorem fr_nn (a w : Nat) : 0 ≤ fr a w := Rat.mul_nonneg (nat_nn a) (Rat.le_of_lt (inv2_pos w))
theorem fr_le {a b : Nat} (h : a ≤ b) (w : Nat) : fr a w ≤ fr b w := Rat.mul_le_mul_of_nonneg_right (Rat.natCast_le_natCast.2 h) (Rat.le_of_lt (inv2_pos w))
/-- from what is so many times 2 to the power w -/
theorem le_fr {x : Rat} {a w : Nat} (h : x * rp 2 w ≤ ((a : Nat) : Rat)) : x ≤ fr a w := by
  rw [← fr_mul a w] at h
  exact Rat.le_of_mul_le_mul_right h (rp2_pos w)
theorem fr_le' {x : Rat} {a w : Nat} (h : ((a : Nat) : Rat) ≤ x * rp 2 w) : fr a w ≤ x := by
  rw [← fr_mul a w] at h
  exact Rat.le_of_mul_le_mul_right h (rp2_pos w)
theorem fr_up (a w s : Nat) : fr (a * 2 ^ s) (w + s) = fr a w := by
  have h1 := fr_mul (a * 2 ^ s) (w + s)
  have h2 := fr_mul a w
  rw [rp_add, Rat.natCast_mul, ← rp2_nat, ← h2] at h1
  have h3 : fr (a * 2 ^ s) (w + s) * (rp 2 w * rp 2 s) = fr a w * (rp 2 w * rp 2 s) := by rw [h1]; grind
  have h4 : fr (a * 2 ^ s) (w + s) ≤ fr a w := Rat.le_of_mul_le_mul_right (show _ ≤ _ by rw [h3]; exact Rat.le_refl) (Rat.mul_pos (rp2_pos w) (rp2_pos s))
  have h5 : fr a w ≤ fr (a * 2 ^ s) (w + s) := Rat.le_of_mul_le_mul_right (show _ ≤ _ by rw [h3]; exact Rat.le_refl) (Rat.mul_pos (rp2_pos w) (rp2_pos s))
  exact Rat.le_antisymm h4 h5
theorem fr_add (a b w : Nat) : fr (a + b) w = fr a w + fr b w := by
  unfold fr
  rw [Rat.natCast_add, Rat.add_mul]
theorem fr_zero (w : Nat) : fr 0 w = 0 := by
  unfold fr
  rw [show ((0 : Nat) : Rat) = 0 from rfl, Rat.zero_mul]

/-! whole quotients -/

theorem quo_le (a : Nat) {d : Nat} (hd : 0 < d) : ((a / d : Nat) : Rat) * ((d : Nat) : Rat) ≤ ((a : Nat) : Rat) := by
  rw [← Rat.natCast_mul, Rat.natCast_le_natCast]; exact Nat.div_mul_le_self a d
theorem lt_quo (a : Nat) {d : Nat} (hd : 0 < d) : ((a : Nat) : Rat) ≤ ((a / d + 1 : Nat) : Rat) * ((d : Nat) : Rat) := by
  rw [← Rat.natCast_mul, Rat.natCast_le_natCast]
  have := Nat.div_add_mod a d
  have := Nat.mod_lt a hd
  rw [Nat.add_mul, Nat.mul_comm (a / d) d]
  omega

abbrev Sp : Type := Nat × Nat
def spOne (w : Nat) : Sp := (2 ^ w, 2 ^ w + 1)
def spOf (n d w : Nat) : Sp := (n * 2 ^ w / d, n * 2 ^ w / d + 1)
def spMul (a b : Sp) (w : Nat) : Sp := (a.1 * b.1 / 2 ^ w, a.2 * b.2 / 2 ^ w + 1)
def spTimes (a : Sp) (n d : Nat) : Sp := (a.1 * n / d, a.2 * n / d + 1)
def spAdd (a b : Sp) : Sp := (a.1 + b.1, a.2 + b.2)
def spSub (a b : Sp) : Sp := (a.1 - b.2, (a.2 - b.1) + 1)
def spInv (a : Sp) (w : Nat) : Sp := (2 ^ (2 * w) / a.2, 2 ^ (2 * w) / a.1 + 1)
def spWider (a : Sp) (k : Nat) : Sp := (a.1, a.2 + k)

/-- the number r is in a, of w digits -/
def Cn (w : Nat) (a : Sp) (r : Rat) : Prop := ((a.1 : Nat) : Rat) ≤ r * rp 2 w ∧ r * rp 2 w ≤ ((a.2 : Nat) : Rat)
theorem Cn.nn {w : Nat} {a : Sp} {r : Rat} (h : Cn w a r) : 0 ≤ r := by
  have h1 := Rat.le_trans (nat_nn a.1) h.1
  have h2 : 0 * rp 2 w ≤ r * rp 2 w := by rw [Rat.zero_mul]; exact h1
  exact Rat.le_of_mul_le_mul_right h2 (rp2_pos w)
theorem Cn.le {w : Nat} {a : Sp} {r : Rat} (h : Cn w a r) : fr a.1 w ≤ r ∧ r ≤ fr a.2 w := ⟨fr_le' h.1, le_fr h.2⟩
theorem Cn.sp {w : Nat} {a : Sp} {r : Rat} (h : Cn w a r) : a.1 ≤ a.2 := Rat.natCast_le_natCast.1 (Rat.le_trans h.1 h.2)
theorem cn_one (w : Nat) : Cn w (spOne w) 1 := by
  refine ⟨?_, ?_⟩ <;> (rw [Rat.one_mul, rp2_nat, Rat.natCast_le_natCast]; simp only [spOne]; omega)
theorem mul_pos_le {a b c d : Rat} (h : 0 < d) (k : a * d ≤ b * d) : a ≤ b := Rat.le_of_mul_le_mul_right k h
theorem pow_pos2 (w : Nat) : 0 < 2 ^ w := Nat.pow_pos (by omega)
theorem cn_of {n d : Nat} (hd : 0 < d) {r : Rat} (hr : r * ((d : Nat) : Rat) = ((n : Nat) : Rat)) (w : Nat) : Cn w (spOf n d w) r := by
  have hdp := nat_pos hd
  have h1 := quo_le (n * 2 ^ w) hd
  have h2 := lt_quo (n * 2 ^ w) hd
  rw [Rat.natCast_mul, ← rp2_nat, ← hr] at h1 h2
  refine ⟨Rat.le_of_mul_le_mul_right ?_ hdp, Rat.le_of_mul_le_mul_right ?_ hdp⟩
  · simp only [spOf]; grind
  · simp only [spOf]; grind
theorem cn_mul {w : Nat} {a b : Sp} {r s : Rat} (h : Cn w a r) (k : Cn w b s) : Cn w (spMul a b w) (r * s) := by
  have hr := h.nn
  have hs := k.nn
  have hp := rp2_pos w
  have h1 := quo_le (a.1 * b.1) (pow_pos2 w)
  have h2 := lt_quo (a.2 * b.2) (pow_pos2 w)
  have h3 := rmul_le h.1 k.1 (nat_nn _) (Rat.mul_nonneg hr (Rat.le_of_lt hp))
  have h4 := rmul_le h.2 k.2 (Rat.mul_nonneg hs (Rat.le_of_lt hp)) (nat_nn _)
  rw [Rat.natCast_mul, ← rp2_nat] at h1 h2
  refine ⟨Rat.le_of_mul_le_mul_right (c := rp 2 w) ?_ hp, Rat.le_of_mul_le_mul_right (c := rp 2 w) ?_ hp⟩
  · simp only [spMul]; grind
  · simp only [spMul]; grind
theorem cn_times {w n d : Nat} {a : Sp} {r s : Rat} (hd : 0 < d) (h : Cn w a r) (hs : s * ((d : Nat) : Rat) = r * ((n : Nat) : Rat)) : Cn w (spTimes a n d) s := by
  have hdp := nat_pos hd
  have h1 := quo_le (a.1 * n) hd
  have h2 := lt_quo (a.2 * n) hd
  have h3 := Rat.mul_le_mul_of_nonneg_right h.1 (nat_nn n)
  have h4 := Rat.mul_le_mul_of_nonneg_right h.2 (nat_nn n)
  rw [Rat.natCast_mul] at h1 h2
  have e : s * rp 2 w * ((d : Nat) : Rat) = r * rp 2 w * ((n : Nat) : Rat) := by grind
  refine ⟨Rat.le_of_mul_le_mul_right ?_ hdp, Rat.le_of_mul_le_mul_right ?_ hdp⟩
  · simp only [spTimes]; grind
  · simp only [spTimes]; grind
theorem cn_add {w : Nat} {a b : Sp} {r s : Rat} (h : Cn w a r) (k : Cn w b s) : Cn w (spAdd a b) (r + s) := by
  obtain ⟨h1, h2⟩ := h
  obtain ⟨k1, k2⟩ := k
  simp only [Cn, spAdd, Rat.natCast_add]
  constructor <;> grind
theorem sub_cast (a b : Nat) : ((a : Nat) : Rat) - ((b : Nat) : Rat) ≤ ((a - b : Nat) : Rat) := by
  rcases Nat.le_total b a with h | h
  · have : ((a - b + b : Nat) : Rat) = ((a - b : Nat) : Rat) + ((b : Nat) : Rat) := Rat.natCast_add _ _
    rw [Nat.sub_add_cancel h] at this
    grind
  · have h1 := Rat.natCast_le_natCast.2 h
    have h2 := nat_nn (a - b)
    grind
theorem cast_sub {a b : Nat} (h : b ≤ a) : ((a - b : Nat) : Rat) = ((a : Nat) : Rat) - ((b : Nat) : Rat) := by
  have : ((a - b + b : Nat) : Rat) = ((a - b : Nat) : Rat) + ((b : Nat) : Rat) := Rat.natCast_add _ _
  rw [Nat.sub_add_cancel h] at this
  grind
theorem cn_sub {w : Nat} {a b : Sp} {r s : Rat} (h : Cn w a r) (k : Cn w b s) (hs : s ≤ r) : Cn w (spSub a b) (r - s) := by
  obtain ⟨h1, h2⟩ := h
  obtain ⟨k1, k2⟩ := k
  have h3 := Rat.mul_le_mul_of_nonneg_right hs (Rat.le_of_lt (rp2_pos w))
  simp only [Cn, spSub]
  constructor
  · rcases Nat.le_total b.2 a.1 with h4 | h4
    · rw [cast_sub h4]; grind
    · rw [Nat.sub_eq_zero_of_le h4]
      have : ((0 : Nat) : Rat) = 0 := rfl
      grind
  · have h5 := sub_cast a.2 b.1
    rw [Rat.natCast_add, show ((1 : Nat) : Rat) = 1 from rfl]
    grind

/-! how wide they are -/

theorem rp_lt {m n : Nat} (h : m < n) : rp 2 m < rp 2 n := by
  have h1 := rp_mono (show (1 : Rat) ≤ 2 by decide) (show m + 1 ≤ n from h)
  rw [rp2_succ] at h1
  have := rp2_pos m
  grind
/-- the product of a number with itself: how large, how wide -/
theorem sq_size {w c D : Nat} {a : Sp} (h2 : a.2 ≤ 2 ^ (w + c)) (hs : a.1 ≤ a.2) (hd : a.2 ≤ a.1 + 2 ^ D) : (spMul a a w).2 ≤ 2 ^ (w + (2 * c + 1)) ∧ (spMul a a w).1 ≤ (spMul a a w).2 ∧ (spMul a a w).2 ≤ (spMul a a w).1 + 2 ^ (D + c + 2) := by
  have hw := pow_pos2 w
  have e1 : 2 ^ (w + c) * 2 ^ (w + c) = 2 ^ w * 2 ^ (w + 2 * c) := by
    rw [← Nat.pow_add, ← Nat.pow_add]; congr 1; omega
  have h3 : a.2 * a.2 ≤ 2 ^ w * 2 ^ (w + 2 * c) := by rw [← e1]; exact Nat.mul_le_mul h2 h2
  have h4 : a.1 * a.1 ≤ a.2 * a.2 := Nat.mul_le_mul hs hs
  simp only [spMul]
  refine ⟨?_, ?_, ?_⟩
  · have h5 : a.2 * a.2 / 2 ^ w ≤ 2 ^ (w + 2 * c) := by
      have := Nat.div_le_div_right (c := 2 ^ w) h3
      rwa [Nat.mul_div_cancel_left _ hw] at this
    have h6 := pow_pos2 (w + 2 * c)
    rw [show w + (2 * c + 1) = w + 2 * c + 1 by omega, Nat.pow_succ]
    omega
  · have := Nat.div_le_div_right (c := 2 ^ w) h4
    omega
  · have e2 : 2 ^ D * 2 ^ (w + c + 1) = 2 ^ w * 2 ^ (D + c + 1) := by
      rw [← Nat.pow_add, ← Nat.pow_add]; congr 1; omega
    have h5 : a.2 * a.2 ≤ a.1 * a.1 + 2 ^ w * 2 ^ (D + c + 1) := by
      have h6 : a.2 * a.2 ≤ a.1 * a.1 + 2 ^ D * (a.1 + a.2) := by
        obtain ⟨t, ht⟩ := Nat.le.dest hs
        have ht2 : t ≤ 2 ^ D := by omega
        have h7 : t * (a.1 + a.2) ≤ 2 ^ D * (a.1 + a.2) := Nat.mul_le_mul_right _ ht2
        have e3 : a.2 * a.2 = a.1 * a.1 + t * (a.1 + a.2) := by
          rw [← ht]
          simp only [Nat.mul_add, Nat.add_mul]
          have := Nat.mul_comm a.1 t
          omega
        omega
      have h8 : a.1 + a.2 ≤ 2 ^ (w + c + 1) := by rw [Nat.pow_succ]; omega
      have h9 := Nat.mul_le_mul_left (2 ^ D) h8
      omega
    have h10 := Nat.div_le_div_right (c := 2 ^ w) h5
    rw [Nat.add_mul_div_left _ _ hw] at h10
    have h11 := pow_pos2 (D + c + 1)
    rw [show D + c + 2 = D + c + 1 + 1 by omega, Nat.pow_succ]
    omega


/-- the first number of which p is so, from j on, among f ones -/
def fst (p : Nat → Bool) : Nat → Nat → Nat
  | 0, j => j
  | f + 1, j => if p j = true then j else fst p f (j + 1)
theorem fst_spec (p : Nat → Bool) : ∀ (f j k : Nat), p k = true → j ≤ k → k ≤ j + f → p (fst p f j) = true ∧ (∀ i, j ≤ i → i < fst p f j → p i = false) ∧ fst p f j ≤ k ∧ j ≤ fst p f j
  | 0, j, k, hk, h1, h2 => by
    obtain rfl : k = j := by omega
    exact ⟨hk, fun i h3 h4 => by simp only [fst] at h4; omega, Nat.le_refl _, Nat.le_refl _⟩
  | f + 1, j, k, hk, h1, h2 => by
    simp only [fst]
    split
    · rename_i h
      exact ⟨h, fun i h3 h4 => by omega, h1, Nat.le_refl _⟩
    · rename_i h
      have hne : k ≠ j := fun e => h (by rw [← e]; exact hk)
      obtain ⟨a, b, c, d⟩ := fst_spec p f (j + 1) k hk (by omega) (by omega)
      refine ⟨a, fun i h3 h4 => ?_, c, by omega⟩
      by_cases e : i = j
      · subst e; simpa using h
      · exact b i (by omega) h4

/-! the row -/

def xT (y : Sp) (w : Nat) : Nat → Sp
  | 0 => spOne w
  | j + 1 => spTimes (spMul (xT y w j) y w) 1 (j + 1)
def xA (y : Sp) (w : Nat) : Nat → Sp
  | 0 => spOne w
  | j + 1 => spAdd (xA y w j) (xT y w (j + 1))
theorem rt_next (x : Rat) (i : Nat) : rt x (i + 1) * ((i + 1 : Nat) : Rat) = rt x i * x * ((1 : Nat) : Rat) := by
  have h := one_div_mul (nat_pos (show 0 < i + 1 by omega))
  show rt x i * (1 / ((i + 1 : Nat) : Rat) * x) * ((i + 1 : Nat) : Rat) = _
  rw [show ((1 : Nat) : Rat) = 1 from rfl]
  grind
theorem cn_xT {w : Nat} {y : Sp} {r : Rat} (h : Cn w y r) : ∀ j, Cn w (xT y w j) (rt r j)
  | 0 => cn_one w
  | j + 1 => cn_times (by omega) (cn_mul (cn_xT h j) h) (rt_next r j)
theorem RE_succ (x : Rat) (n : Nat) : RE x (n + 1) = RE x n + rt x n := rfl
theorem cn_xA {w : Nat} {y : Sp} {r : Rat} (h : Cn w y r) : ∀ j, Cn w (xA y w j) (RE r (j + 1))
  | 0 => by
    have e : RE r (0 + 1) = 1 := by show 0 + (1 : Rat) = 1; grind
    rw [e]; exact cn_one w
  | j + 1 => by
    rw [RE_succ]
    exact cn_add (cn_xA h j) (cn_xT h (j + 1))
theorem xT_le {w : Nat} {y : Sp} (hy : 4 * y.2 ≤ 2 ^ w) (hs : y.1 ≤ y.2) : ∀ j, (xT y w j).1 ≤ 2 ^ w
  | 0 => Nat.le_refl _
  | j + 1 => by
    have ih := xT_le hy hs j
    have hw := pow_pos2 w
    simp only [xT, spTimes, spMul, Nat.mul_one]
    refine Nat.le_trans (Nat.div_le_self _ _) ?_
    refine Nat.le_trans ?_ ih
    rw [Nat.div_le_iff_le_mul_add_pred hw]
    have h1 : (xT y w j).1 * y.1 ≤ (xT y w j).1 * 2 ^ w := Nat.mul_le_mul_left _ (by omega)
    rw [Nat.mul_comm] at h1 ⊢
    have := Nat.mul_comm (xT y w j).1 (2 ^ w)
    rw [Nat.mul_comm y.1] at h1
    rw [Nat.mul_comm y.1]
    omega
theorem xT_width {w : Nat} {y : Sp} (hy : 4 * y.2 ≤ 2 ^ w) (hs : y.2 = y.1 + 1) : ∀ j, (xT y w j).1 ≤ (xT y w j).2 ∧ (xT y w j).2 ≤ (xT y w j).1 + 5
  | 0 => by simp only [xT, spOne]; omega
  | j + 1 => by
    obtain ⟨h1, h2⟩ := xT_width hy hs j
    have h3 := xT_le hy (by omega) j
    have hw := pow_pos2 w
    simp only [xT, spTimes, spMul, Nat.mul_one]
    generalize xT y w j = t at *
    have hm : t.2 * y.2 ≤ t.1 * y.1 + 3 * 2 ^ w := by
      have a1 : t.2 * y.2 ≤ (t.1 + 5) * y.2 := Nat.mul_le_mul_right _ h2
      have a2 : t.1 * y.2 = t.1 * y.1 + t.1 := by rw [hs, Nat.mul_add, Nat.mul_one]
      rw [Nat.add_mul, a2] at a1
      omega
    have hq : t.2 * y.2 / 2 ^ w ≤ t.1 * y.1 / 2 ^ w + 3 := by
      have := Nat.div_le_div_right (c := 2 ^ w) hm
      rwa [Nat.add_mul_div_right _ _ hw] at this
    have hq0 : t.1 * y.1 / 2 ^ w ≤ t.2 * y.2 / 2 ^ w := Nat.div_le_div_right (Nat.mul_le_mul h1 (by omega))
    generalize t.1 * y.1 / 2 ^ w = u at *
    generalize t.2 * y.2 / 2 ^ w = v at *
    have b1 : u / (j + 1) ≤ (v + 1) / (j + 1) := Nat.div_le_div_right (by omega)
    have b2 : (v + 1) / (j + 1) ≤ u / (j + 1) + 4 := by
      have : v + 1 ≤ u + 4 * (j + 1) := by omega
      have := Nat.div_le_div_right (c := j + 1) this
      rwa [Nat.add_mul_div_right _ _ (by omega)] at this
    omega
theorem xT_falls {w : Nat} {y : Sp} (hy : 4 * y.2 ≤ 2 ^ w) : ∀ j, j ≤ w + 1 → (xT y w j).2 ≤ 2 ^ (w + 1 - j) + 4
  | 0, _ => by
    simp only [xT, spOne, Nat.sub_zero, Nat.pow_succ]
    have := pow_pos2 w
    omega
  | j + 1, h => by
    have ih := xT_falls hy j (by omega)
    have hw := pow_pos2 w
    simp only [xT, spTimes, spMul, Nat.mul_one]
    generalize xT y w j = t at *
    have h1 : t.2 * y.2 / 2 ^ w ≤ t.2 / 4 := by
      rw [Nat.le_div_iff_mul_le (by omega)]
      have a1 : t.2 * y.2 / 2 ^ w * 2 ^ w ≤ t.2 * y.2 := Nat.div_mul_le_self _ _
      have a2 : t.2 * y.2 * 4 ≤ t.2 * 2 ^ w := by rw [Nat.mul_assoc]; exact Nat.mul_le_mul_left _ (by omega)
      refine Nat.le_of_mul_le_mul_right (c := 2 ^ w) ?_ hw
      rw [Nat.mul_right_comm]
      omega
    have h2 : (t.2 * y.2 / 2 ^ w + 1) / (j + 1) ≤ t.2 * y.2 / 2 ^ w + 1 := Nat.div_le_self _ _
    rw [show w + 1 - j = w + 1 - (j + 1) + 1 by omega, Nat.pow_succ] at ih
    omega
theorem xT_ends {w : Nat} {y : Sp} (hy : 4 * y.2 ≤ 2 ^ w) (hw2 : 1 ≤ w) : (xT y w (w + 2)).2 ≤ 1 := by
  have h := xT_falls hy (w + 1) (Nat.le_refl _)
  have hw := pow_pos2 w
  rw [Nat.sub_self, Nat.pow_zero] at h
  simp only [xT, spTimes, spMul, Nat.mul_one] at h ⊢
  generalize xT y w w = t0 at *
  generalize (t0.2 * y.2 / 2 ^ w + 1) / (w + 1) + 1 = t at *
  have h1 : t * y.2 / 2 ^ w ≤ 1 := by
    have a1 : t * y.2 ≤ 5 * y.2 := Nat.mul_le_mul_right _ h
    have a2 : t * y.2 / 2 ^ w < 2 := (Nat.div_lt_iff_lt_mul hw).2 (by omega)
    omega
  have h2 : (t * y.2 / 2 ^ w + 1) / (w + 1 + 1) = 0 := Nat.div_eq_of_lt (by omega)
  omega
/-- how many terms the row takes -/
def xJ (y : Sp) (w : Nat) : Nat := fst (fun j => decide ((xT y w j).2 ≤ 1)) (w + 2) 0
theorem xJ_spec {w : Nat} {y : Sp} (hy : 4 * y.2 ≤ 2 ^ w) (hw2 : 1 ≤ w) : (xT y w (xJ y w)).2 ≤ 1 ∧ (∀ i, i < xJ y w → 1 < (xT y w i).2) ∧ xJ y w ≤ w + 2 := by
  obtain ⟨a, b, c, _⟩ := fst_spec (fun j => decide ((xT y w j).2 ≤ 1)) (w + 2) 0 (w + 2) (by simpa using xT_ends hy hw2) (by omega) (by omega)
  refine ⟨of_decide_eq_true a, fun i hi => ?_, c⟩
  have := b i (by omega) hi
  simp only [decide_eq_false_iff_not] at this
  omega
/-- the row's end -/
def xR (y : Sp) (w : Nat) : Sp := spWider (xA y w (xJ y w)) 1
theorem xA_width {w : Nat} {y : Sp} (hy : 4 * y.2 ≤ 2 ^ w) (hs : y.2 = y.1 + 1) : ∀ j, (xA y w j).2 ≤ (xA y w j).1 + 5 * (j + 1) ∧ 2 ^ w ≤ (xA y w j).1
  | 0 => by simp only [xA, spOne]; omega
  | j + 1 => by
    have ih := xA_width hy hs j
    have h := (xT_width hy hs (j + 1)).2
    simp only [xA, spAdd]
    generalize xA y w j = a at *
    generalize xT y w (j + 1) = b at *
    omega
theorem fr_two (w : Nat) (a : Nat) : fr (2 ^ w * a) w = ((a : Nat) : Rat) := by
  have h := fr_up a 0 w
  rw [Nat.zero_add, Nat.mul_comm] at h
  rw [h]
  unfold fr
  rw [show 1 / rp 2 0 = 1 by decide +kernel, Rat.mul_one]
theorem xR_in {w : Nat} {y : Sp} {r : Rat} (h : Cn w y r) (hr : r + r ≤ 1) (hy : 4 * y.2 ≤ 2 ^ w) (hs : y.2 = y.1 + 1) (hw2 : 1 ≤ w) :
    EG r (fr (xR y w).1 w) ∧ EL r (fr (xR y w).2 w) ∧ 2 ^ w ≤ (xR y w).1 ∧ (xR y w).1 ≤ (xR y w).2 ∧ (xR y w).2 ≤ (xR y w).1 + (5 * (w + 3) + 1) ∧ (xR y w).2 ≤ 2 ^ w * 3 + (5 * (w + 3) + 1) := by
  obtain ⟨h1, _, h3⟩ := xJ_spec hy hw2
  have hr0 := h.nn
  have hA := cn_xA h (xJ y w)
  have hT := cn_xT h (xJ y w)
  obtain ⟨h4, h5⟩ := xA_width hy hs (xJ y w)
  have h6 := hA.sp
  simp only [xR, spWider]
  generalize xJ y w = j at *
  have hle : (xA y w j).1 ≤ 2 ^ w * 3 := by
    have a1 := RE_rest hr0 (n := 1) (by rw [show ((1 + 1 : Nat) : Rat) = 2 by decide +kernel]; grind) j
    rw [show 1 + j = j + 1 by omega] at a1
    have a2 := rt_nn hr0 (j + 1)
    have a3 : RE r 1 + (rt r 1 + rt r 1) = 1 + (r + r) := by
      show (0 + (1 : Rat)) + (1 * (1 / ((0 + 1 : Nat) : Rat) * r) + 1 * (1 / ((0 + 1 : Nat) : Rat) * r)) = _
      rw [show (1 : Rat) / ((0 + 1 : Nat) : Rat) = 1 by decide +kernel]; grind
    have a4 : RE r (j + 1) ≤ 3 := by grind
    have a5 := Rat.mul_le_mul_of_nonneg_right a4 (Rat.le_of_lt (rp2_pos w))
    have a6 := Rat.le_trans hA.1 a5
    rw [rp2_nat, show (3 : Rat) = ((3 : Nat) : Rat) from rfl, ← Rat.natCast_mul, Rat.natCast_le_natCast] at a6
    omega
  refine ⟨(EG.sum hr0 (j + 1)).le hA.le.1, ?_, h5, by omega, by omega, by omega⟩
  have b1 := EL.sum hr0 (m := j + 1) (by
    have : ((1 : Nat) : Rat) ≤ ((j + 1 + 1 : Nat) : Rat) := Rat.natCast_le_natCast.2 (by omega)
    rw [show ((1 : Nat) : Rat) = 1 from rfl] at this
    grind)
  refine b1.le ?_
  rw [fr_add]
  have b2 : rt r (j + 1) + rt r (j + 1) ≤ rt r j := by
    have c1 := rt_next r j
    have c2 := rt_nn hr0 j
    have c3 := rt_nn hr0 (j + 1)
    have c4 : ((1 : Nat) : Rat) ≤ ((j + 1 : Nat) : Rat) := Rat.natCast_le_natCast.2 (by omega)
    have c5 := Rat.mul_le_mul_of_nonneg_left c4 c3
    have c6 := Rat.mul_le_mul_of_nonneg_left hr c2
    rw [show ((1 : Nat) : Rat) = 1 from rfl] at c1 c5
    grind
  have b3 := hT.le.2
  have b4 := fr_le h1 w
  have b5 := hA.le.2
  grind

/-! squared so often -/

def sqs (a : Sp) (w : Nat) : Nat → Sp
  | 0 => a
  | i + 1 => spMul (sqs a w i) (sqs a w i) w
def cS : Nat → Nat
  | 0 => 2
  | i + 1 => 2 * cS i + 1
def dS (D : Nat) : Nat → Nat
  | 0 => D
  | i + 1 => dS D i + cS i + 2
theorem sqs_in {w : Nat} {a : Sp} {r : Rat} (h1 : EG r (fr a.1 w)) (h2 : EL r (fr a.2 w)) : ∀ i, EG (((2 ^ i : Nat) : Rat) * r) (fr (sqs a w i).1 w) ∧ EL (((2 ^ i : Nat) : Rat) * r) (fr (sqs a w i).2 w)
  | 0 => by
    have e : ((2 ^ 0 : Nat) : Rat) * r = r := by rw [show ((2 ^ 0 : Nat) : Rat) = 1 from rfl, Rat.one_mul]
    rw [e]; exact ⟨h1, h2⟩
  | i + 1 => by
    obtain ⟨k1, k2⟩ := sqs_in h1 h2 i
    have e : ((2 ^ (i + 1) : Nat) : Rat) * r = ((2 ^ i : Nat) : Rat) * r + ((2 ^ i : Nat) : Rat) * r := by
      rw [Nat.pow_succ, Rat.natCast_mul, show ((2 : Nat) : Rat) = 2 from rfl]; grind
    have hp := rp2_pos w
    rw [e]
    generalize ((2 ^ i : Nat) : Rat) * r = x at *
    simp only [sqs, spMul]
    generalize sqs a w i = b at *
    have e1 := fr_mul b.1 w
    have e2 := fr_mul b.2 w
    refine ⟨(EG.add (fr_nn _ _) k1 k1).le (fr_le' ?_), (EL.add k2 k2).le (le_fr ?_)⟩
    · have := quo_le (b.1 * b.1) (pow_pos2 w)
      rw [← rp2_nat, Rat.natCast_mul, ← e1] at this
      refine Rat.le_of_mul_le_mul_right (c := rp 2 w) ?_ hp
      grind
    · have := lt_quo (b.2 * b.2) (pow_pos2 w)
      rw [← rp2_nat, Rat.natCast_mul, ← e2] at this
      refine Rat.le_of_mul_le_mul_right (c := rp 2 w) ?_ hp
      grind
theorem sqs_size {w D : Nat} {a : Sp} (h2 : a.2 ≤ 2 ^ (w + 2)) (hs : a.1 ≤ a.2) (hd : a.2 ≤ a.1 + 2 ^ D) (h1 : 2 ^ w ≤ a.1) : ∀ i, (sqs a w i).2 ≤ 2 ^ (w + cS i) ∧ (sqs a w i).1 ≤ (sqs a w i).2 ∧ (sqs a w i).2 ≤ (sqs a w i).1 + 2 ^ (dS D i) ∧ 2 ^ w ≤ (sqs a w i).1
  | 0 => ⟨h2, hs, hd, h1⟩
  | i + 1 => by
    obtain ⟨k1, k2, k3, k4⟩ := sqs_size h2 hs hd h1 i
    obtain ⟨j1, j2, j3⟩ := sq_size k1 k2 k3
    refine ⟨j1, j2, j3, ?_⟩
    simp only [sqs, spMul]
    rw [Nat.le_div_iff_mul_le (pow_pos2 w)]
    exact Nat.mul_le_mul k4 k4

/-! 1 by it -/

theorem inv_in {w : Nat} {a : Sp} {r : Rat} (h1 : EG r (fr a.1 w)) (h2 : EL r (fr a.2 w)) (hp : 0 < a.1) (hs : a.1 ≤ a.2) : EG (-r) (fr (spInv a w).1 w) ∧ EL (-r) (fr (spInv a w).2 w) := by
  have hpw := rp2_pos w
  have e1 := fr_mul a.1 w
  have e2 := fr_mul a.2 w
  have p1 := nat_pos hp
  have p2 := nat_pos (show 0 < a.2 by omega)
  have e3 : ((2 ^ (2 * w) : Nat) : Rat) = rp 2 w * rp 2 w := by rw [← rp2_nat, show 2 * w = w + w by omega, rp_add]
  have f1 : 0 < fr a.1 w := Rat.mul_pos p1 (inv2_pos w)
  have f2 : 0 < fr a.2 w := Rat.mul_pos p2 (inv2_pos w)
  simp only [spInv]
  constructor
  · refine h2.neg f2 ?_
    have := quo_le (2 ^ (2 * w)) (show 0 < a.2 by omega)
    rw [e3, ← e2, ← fr_mul (2 ^ (2 * w) / a.2) w] at this
    have k : fr a.2 w * fr (2 ^ (2 * w) / a.2) w * (rp 2 w * rp 2 w) ≤ 1 * (rp 2 w * rp 2 w) := by
      generalize fr (2 ^ (2 * w) / a.2) w = u at *
      generalize fr a.2 w = v at *
      generalize rp 2 w = z at *
      clear e1 e2 e3
      grind
    exact Rat.le_of_mul_le_mul_right k (Rat.mul_pos hpw hpw)
  · refine h1.neg f1 ?_
    have := lt_quo (2 ^ (2 * w)) hp
    rw [e3, ← e1, ← fr_mul (2 ^ (2 * w) / a.1 + 1) w] at this
    have k : 1 * (rp 2 w * rp 2 w) ≤ fr a.1 w * fr (2 ^ (2 * w) / a.1 + 1) w * (rp 2 w * rp 2 w) := by
      generalize fr (2 ^ (2 * w) / a.1 + 1) w = u at *
      generalize fr a.1 w = v at *
      generalize rp 2 w = z at *
      clear e1 e2 e3
      grind
    exact Rat.le_of_mul_le_mul_right k (Rat.mul_pos hpw hpw)
theorem inv_size {w D : Nat} {a : Sp} (hs : a.1 ≤ a.2) (hd : a.2 ≤ a.1 + 2 ^ D) (h1 : 2 ^ w ≤ a.1) : (spInv a w).2 ≤ 2 ^ w + 1 ∧ (spInv a w).1 ≤ (spInv a w).2 ∧ (spInv a w).2 ≤ (spInv a w).1 + 2 ^ (D + 2) := by
  have hw := pow_pos2 w
  have e : 2 ^ (2 * w) = 2 ^ w * 2 ^ w := by rw [← Nat.pow_add]; congr 1; omega
  simp only [spInv]
  have h2 : 2 ^ (2 * w) / a.1 ≤ 2 ^ w := by
    rw [e]
    refine Nat.le_trans (Nat.div_le_div_left h1 hw) ?_
    rw [Nat.mul_div_cancel _ hw]; exact Nat.le_refl _
  have h3 : 2 ^ (2 * w) / a.2 ≤ 2 ^ (2 * w) / a.1 := Nat.div_le_div_left hs (by omega)
  refine ⟨by omega, by omega, ?_⟩
  have h4 : 2 ^ (2 * w) / a.1 ≤ 2 ^ (2 * w) / a.2 + 2 * 2 ^ D := by
    obtain ⟨t, ht⟩ := Nat.le.dest hs
    have ht2 : t ≤ 2 ^ D := by omega
    have h5 : 2 ^ (2 * w) < a.1 * (2 ^ (2 * w) / a.2 + 2 * 2 ^ D + 1) := by
      have h6 := Nat.lt_mul_div_succ (2 ^ (2 * w)) (show 0 < a.2 by omega)
      generalize 2 ^ (2 * w) / a.2 = q at *
      generalize 2 ^ (2 * w) / a.1 = q1 at *
      have h7 : t * (q + 1) ≤ a.1 * (2 * 2 ^ D) := by
        refine Nat.le_trans (Nat.mul_le_mul ht2 (show q + 1 ≤ 2 * a.1 by omega)) ?_
        rw [Nat.mul_comm, Nat.mul_comm 2 a.1, Nat.mul_assoc]
        exact Nat.le_refl _
      rw [← ht, Nat.add_mul] at h6
      rw [show q + 2 * 2 ^ D + 1 = (q + 1) + 2 * 2 ^ D by omega, Nat.mul_add]
      omega
    have := (Nat.div_lt_iff_lt_mul (x := 2 ^ (2 * w)) (y := 2 ^ (2 * w) / a.2 + 2 * 2 ^ D + 1) (show 0 < a.1 by omega)).2 (Nat.lt_of_lt_of_eq h5 (Nat.mul_comm _ _))
    omega
  rw [show D + 2 = D + 1 + 1 by omega, Nat.pow_succ, Nat.pow_succ]
  have := pow_pos2 D
  omega

/-! as the program reckons it -/

def xNear (neg : Bool) (n d w : Nat) : Sp :=
  let e := sqs (xR (spOf n (d * 2 ^ 14) w) w) w 14
  if neg = true then spInv e w else e
/-- a power, of its sign -/
def sg (neg : Bool) (r : Rat) : Rat := if neg = true then -r else r
theorem xNear_in {n d w : Nat} (neg : Bool) (hd : 0 < d) (hn : n ≤ 64 * d) (hw : 160 ≤ w) {r : Rat} (hr : r * ((d : Nat) : Rat) = ((n : Nat) : Rat)) :
    EG (sg neg r) (fr (xNear neg n d w).1 w) ∧ EL (sg neg r) (fr (xNear neg n d w).2 w) ∧ (xNear neg n d w).1 ≤ (xNear neg n d w).2 ∧ (xNear neg n d w).2 ≤ 2 ^ (w + cS 14) ∧ (w < 2 ^ 36 → (xNear neg n d w).2 ≤ (xNear neg n d w).1 + 2 ^ (dS 40 14 + 2)) := by
  have hdp : 0 < d * 2 ^ 14 := Nat.mul_pos hd (by decide)
  have hdq := nat_pos hd
  have hp := pow_pos2 w
  let y := spOf n (d * 2 ^ 14) w
  let s : Rat := r * (1 / 16384)
  have hs : s * ((d * 2 ^ 14 : Nat) : Rat) = ((n : Nat) : Rat) := by
    rw [Rat.natCast_mul, ← hr, show ((2 ^ 14 : Nat) : Rat) = 16384 by decide +kernel]
    show r * (1 / 16384) * (((d : Nat) : Rat) * 16384) = _
    grind
  have hc : Cn w y s := cn_of hdp hs w
  have hys : y.2 = y.1 + 1 := rfl
  have hy : 4 * y.2 ≤ 2 ^ w := by
    have h1 : n * 2 ^ w / (d * 2 ^ 14) ≤ 2 ^ (w - 8) := by
      refine Nat.le_of_lt_succ ((Nat.div_lt_iff_lt_mul hdp).2 ?_)
      have h2 : n * 2 ^ w ≤ 64 * d * 2 ^ w := Nat.mul_le_mul_right _ hn
      have h3 : 2 ^ w = 2 ^ (w - 8) * 2 ^ 8 := by rw [← Nat.pow_add]; congr 1; omega
      have h4 : 64 * d * 2 ^ w = 2 ^ (w - 8) * (d * 2 ^ 14) := by
        rw [h3, show (2 : Nat) ^ 14 = 64 * 2 ^ 8 by decide]
        generalize 2 ^ (w - 8) = u
        generalize (2 : Nat) ^ 8 = v
        simp only [Nat.mul_assoc, Nat.mul_comm, Nat.mul_left_comm]
      rw [Nat.succ_mul]
      omega
    have h5 : 2 ^ w = 2 ^ (w - 8) * 256 := by rw [show (256 : Nat) = 2 ^ 8 by decide, ← Nat.pow_add]; congr 1; omega
    have h6 := pow_pos2 (w - 8)
    have h7 : 2 ^ 3 ≤ 2 ^ (w - 8) := Nat.pow_le_pow_right (by omega) (by omega)
    show 4 * (n * 2 ^ w / (d * 2 ^ 14) + 1) ≤ 2 ^ w
    omega
  have hs1 : s + s ≤ 1 := by
    have h1 : r * ((d : Nat) : Rat) ≤ 64 * ((d : Nat) : Rat) := by
      rw [hr, show (64 : Rat) = ((64 : Nat) : Rat) from rfl, ← Rat.natCast_mul, Rat.natCast_le_natCast]; exact hn
    have h2 := Rat.le_of_mul_le_mul_right h1 hdq
    show r * (1 / 16384) + r * (1 / 16384) ≤ 1
    grind
  obtain ⟨q1, q2, q3, q4, q5, q6⟩ := xR_in hc hs1 hy hys (by omega)
  have e : ((2 ^ 14 : Nat) : Rat) * s = r := by
    rw [show ((2 ^ 14 : Nat) : Rat) = 16384 by decide +kernel]
    show 16384 * (r * (1 / 16384)) = r
    grind
  obtain ⟨i1, i2⟩ := sqs_in q1 q2 14
  rw [e] at i1 i2
  have hlt : w < 2 ^ w := Nat.lt_two_pow_self
  have hbig : 5 * (w + 3) + 1 ≤ 2 ^ w := by
    have h3 : 2 ^ w = 2 ^ (w - 8) * 256 := by rw [show (256 : Nat) = 2 ^ 8 by decide, ← Nat.pow_add]; congr 1; omega
    have h4 : w - 8 < 2 ^ (w - 8) := Nat.lt_two_pow_self
    omega
  have hR2 : (xR y w).2 ≤ 2 ^ (w + 2) := by rw [Nat.pow_add]; omega
  have hgo : ∀ D, (xR y w).2 ≤ (xR y w).1 + 2 ^ D → (xNear neg n d w).1 ≤ (xNear neg n d w).2 ∧ (xNear neg n d w).2 ≤ 2 ^ (w + cS 14) ∧ (xNear neg n d w).2 ≤ (xNear neg n d w).1 + 2 ^ (dS D 14 + 2) := by
    intro D hD
    obtain ⟨k1, k2, k3, k4⟩ := sqs_size hR2 q4 hD q3 14
    simp only [xNear]
    split
    · obtain ⟨j1, j2, j3⟩ := inv_size k2 k3 k4
      refine ⟨j2, Nat.le_trans j1 ?_, j3⟩
      have h5 : 2 ^ (w + 1) ≤ 2 ^ (w + cS 14) := Nat.pow_le_pow_right (by omega) (Nat.add_le_add_left (by decide +kernel) w)
      rw [Nat.pow_succ] at h5
      omega
    · refine ⟨k2, k1, Nat.le_trans k3 (Nat.add_le_add_left (Nat.pow_le_pow_right (by omega) (by omega)) _)⟩
  have g0 := hgo w (by omega)
  refine ⟨?_, ?_, g0.1, g0.2.1, fun hw3 => (hgo 40 ?_).2.2⟩
  · obtain ⟨k1, k2, k3, k4⟩ := sqs_size (D := w) hR2 q4 (by omega) q3 14
    simp only [xNear, sg]
    split
    · exact (inv_in i1 i2 (by omega) k2).1
    · exact i1
  · obtain ⟨k1, k2, k3, k4⟩ := sqs_size (D := w) hR2 q4 (by omega) q3 14
    simp only [xNear, sg]
    split
    · exact (inv_in i1 i2 (by omega) k2).2
    · exact i2
  · have : (2 : Nat) ^ 40 = 2 ^ 36 * 16 := by decide
    omega


/-- is the whole number below certain? -/
def okF (a : Sp) (w p : Nat) : Prop := a.1 / 2 ^ (w - p) = (a.2 - 1) / 2 ^ (w - p)
instance (a : Sp) (w p : Nat) : Decidable (okF a w p) := inferInstanceAs (Decidable (_ = _))
theorem fr_up' {p w : Nat} (h : p ≤ w) (m : Nat) : fr (m * 2 ^ (w - p)) w = fr m p := by
  have := fr_up m p (w - p)
  rwa [show p + (w - p) = w by omega] at this
theorem ok_between {a : Sp} {w p : Nat} (hp : p ≤ w) (hs : 0 < a.2) (h : okF a w p) : fr (a.1 / 2 ^ (w - p)) p ≤ fr a.1 w ∧ fr a.2 w ≤ fr (a.1 / 2 ^ (w - p) + 1) p := by
  have hq := pow_pos2 (w - p)
  rw [← fr_up' hp, ← fr_up' hp]
  refine ⟨fr_le (Nat.div_mul_le_self _ _) w, fr_le ?_ w⟩
  have h1 := Nat.lt_mul_div_succ (a.2 - 1) hq
  rw [← show a.1 / 2 ^ (w - p) = (a.2 - 1) / 2 ^ (w - p) from h, Nat.mul_comm] at h1
  omega
theorem not_ok_mid {a : Sp} {w p : Nat} (hp : p ≤ w) (hs : a.1 ≤ a.2) (h : ¬ okF a w p) : ∃ m, fr a.1 w ≤ fr m p ∧ fr m p ≤ fr a.2 w := by
  have hq := pow_pos2 (w - p)
  have key : ∃ m, a.1 ≤ m * 2 ^ (w - p) ∧ m * 2 ^ (w - p) ≤ a.2 := by
    unfold okF at h
    generalize 2 ^ (w - p) = s at *
    by_cases e : a.1 = a.2
    · refine ⟨a.1 / s, ?_, Nat.le_trans (Nat.div_mul_le_self _ _) hs⟩
      have h1 := Nat.div_add_mod a.1 s
      by_cases hr : a.1 % s = 0
      · rw [Nat.mul_comm]; omega
      · exfalso
        apply h
        rw [← e]
        have hlt := Nat.mod_lt a.1 hq
        have h2 : a.1 - 1 = s * (a.1 / s) + (a.1 % s - 1) := by omega
        rw [h2, Nat.mul_add_div hq, Nat.div_eq_of_lt (show a.1 % s - 1 < s by omega), Nat.add_zero]
    · refine ⟨(a.2 - 1) / s, ?_, Nat.le_trans (Nat.div_mul_le_self _ _) (by omega)⟩
      have h1 : a.1 / s ≤ (a.2 - 1) / s := Nat.div_le_div_right (by omega)
      have := (Nat.div_lt_iff_lt_mul hq).1 (Nat.lt_of_le_of_ne h1 h)
      omega
  obtain ⟨m, h1, h2⟩ := key
  refine ⟨m, ?_, ?_⟩ <;> rw [← fr_up' hp] <;> exact fr_le (by assumption) w

/-- e to the power x, by 2 to the power p, is between f and f + 1 -/
def IsE (x : Rat) (p f : Nat) : Prop := EG x (fr f p) ∧ EL x (fr (f + 1) p)
/-- a power that is not too large, of few digits -/
def Sm (x : Rat) : Prop := ab x ≤ 128 ∧ ∃ (b : Nat) (u : Int), 0 < b ∧ b ≤ 2 ^ 200 ∧ ((b : Nat) : Rat) * x = (u : Rat)
def KE : Nat := 2147483648
theorem Wh.of {b : Nat} {x : Rat} {u : Int} (h : ((b : Nat) : Rat) * x = (u : Rat)) : Wh (P.gn b * q x) := ⟨u, 0, by
  apply GQ.ext'
  · simp only [mul_re, P.gn, q_re, q_im]; rw [Rat.zero_mul, h]; grind
  · simp only [mul_im, P.gn, q_re, q_im]; grind⟩
/-- e to a power is not near a rational -/
theorem E_far' {K k C : Nat} {x c δ : Rat} {z : Int} (hx0 : x ≠ 0) (hx : Sm x) (hk0 : 0 < k) (hk : k ≤ 2 ^ C) (hC : C ≤ 512) (hc : ((k : Nat) : Rat) * c = (z : Rat)) (hK : KE ≤ K) (h1 : EL x (c + δ)) (h2 : EG x (c - δ)) : 1 ≤ rp 2 K * δ := by
  obtain ⟨hx1, b, u, hb0, hb, hbx⟩ := hx
  have hp := rp2_pos K
  have hm := measure (K := K) (z := q x) (x := q c) (fun e => hx0 (show (q x).re = 0 by rw [e]; rfl)) (by rw [nr_q]; exact hx1) hb0 hb (Nat.le_refl _) (Wh.of hbx) hk0 hk hC (Wh.of hc) hK
  refine le_eps fun ε he => ?_
  obtain ⟨d, hd, hd2⟩ := eps he (B := rp 2 K) (Rat.le_of_lt hp)
  obtain ⟨n, ⟨h3, h4⟩, h5⟩ := (((h1 d hd).and (h2 d hd)).and hm).ex
  rw [En_q, ← q_sub, nr_q] at h5
  have h6 : ab (RE x n - c) ≤ δ + d := ab_le.2 (by constructor <;> grind)
  have h7 := Rat.mul_le_mul_of_nonneg_left h6 (Rat.le_of_lt hp)
  grind
theorem fr_whole (m p : Nat) : ((2 ^ p : Nat) : Rat) * fr m p = (((m : Nat) : Int) : Rat) := by
  rw [Rat.mul_comm, ← rp2_nat, fr_mul]; rfl
/-- no whole number by 2 to a power is it -/
theorem E_ne {x : Rat} {m p : Nat} (hx0 : x ≠ 0) (hx : Sm x) (hp : p ≤ 512) (h1 : EL x (fr m p)) (h2 : EG x (fr m p)) : False := by
  have := E_far' (K := KE) (δ := 0) hx0 hx (pow_pos2 p) (Nat.le_refl _) hp (fr_whole m p) (Nat.le_refl _) (h1.le (by grind)) (h2.le (by grind))
  rw [Rat.mul_zero] at this
  exact absurd this (by decide)
theorem fr_lt_iff {a b p : Nat} (h : fr a p ≤ fr b p) : a ≤ b := by
  have h1 := Rat.mul_le_mul_of_nonneg_right h (Rat.le_of_lt (rp2_pos p))
  rw [fr_mul, fr_mul, Rat.natCast_le_natCast] at h1
  exact h1
theorem IsE.uniq {x : Rat} {p f g : Nat} (hx0 : x ≠ 0) (hx : Sm x) (hp : p ≤ 512) (h : IsE x p f) (k : IsE x p g) : f = g := by
  have key : ∀ {f g : Nat}, IsE x p f → IsE x p g → g ≤ f := by
    intro f g h k
    have h1 := fr_lt_iff (h.2.ge k.1)
    by_cases e : g = f + 1
    · exfalso; rw [e] at k; exact E_ne hx0 hx hp h.2 k.1
    · omega
  exact Nat.le_antisymm (key k h) (key h k)
/-- what is narrow enough is certain -/
theorem ok_far {x : Rat} {a : Sp} {w p D : Nat} (hx0 : x ≠ 0) (hx : Sm x) (hp : p ≤ 512) (hpw : p ≤ w) (h1 : EG x (fr a.1 w)) (h2 : EL x (fr a.2 w)) (hs : a.1 ≤ a.2) (hd : a.2 ≤ a.1 + 2 ^ D) (hw : KE + D < w) : okF a w p := by
  rcases Decidable.em (okF a w p) with h | h
  · exact h
  · exfalso
    obtain ⟨m, h3, h4⟩ := not_ok_mid hpw hs h
    have h5 : fr a.2 w ≤ fr a.1 w + fr (2 ^ D) w := by rw [← fr_add]; exact fr_le hd w
    have h6 := E_far' (K := KE) (δ := fr (2 ^ D) w) hx0 hx (pow_pos2 p) (Nat.le_refl _) hp (fr_whole m p) (Nat.le_refl _) (h2.le (by grind)) (h1.le (by grind))
    have h7 := Rat.mul_le_mul_of_nonneg_right h6 (Rat.le_of_lt (rp2_pos w))
    rw [Rat.mul_assoc, fr_mul, ← rp2_nat, ← rp_add, Rat.one_mul] at h7
    have := rp_lt hw
    grind

/-! as the program seeks it -/

def eW (p i : Nat) : Nat := (p + 160) * 2 ^ i
def eI (neg : Bool) (n d p : Nat) : Nat := fst (fun i => decide (okF (xNear neg n d (eW p i)) (eW p i) p)) 25 0
def eF (neg : Bool) (n d p : Nat) : Nat := (xNear neg n d (eW p (eI neg n d p))).1 / 2 ^ (eW p (eI neg n d p) - p)
theorem dS14 : dS 40 14 + 2 = 49205 := by decide +kernel
theorem cS14 : cS 14 = 49151 := by decide +kernel
theorem eW_le {p i : Nat} (hp : p ≤ 512) (hi : i ≤ 25) : 160 ≤ eW p i ∧ p ≤ eW p i ∧ eW p i < 2 ^ 36 := by
  have h1 := pow_pos2 i
  have h2 : 2 ^ i ≤ 2 ^ 25 := Nat.pow_le_pow_right (by omega) hi
  have h3 : (p + 160) * 2 ^ i ≤ 672 * 2 ^ 25 := Nat.mul_le_mul (by omega) h2
  have h4 : (p + 160) * 1 ≤ (p + 160) * 2 ^ i := Nat.mul_le_mul_left _ h1
  have h5 : 672 * 2 ^ 25 < 2 ^ 36 := by decide
  unfold eW
  omega
theorem e_ends {neg : Bool} {n d p : Nat} {r : Rat} (hd : 0 < d) (hn0 : 0 < n) (hn : n ≤ 64 * d) (hd2 : d ≤ 2 ^ 200) (hp : p ≤ 512) (hr : r * ((d : Nat) : Rat) = ((n : Nat) : Rat)) :
    eI neg n d p ≤ 25 ∧ okF (xNear neg n d (eW p (eI neg n d p))) (eW p (eI neg n d p)) p ∧ (∀ i, i < eI neg n d p → ¬ okF (xNear neg n d (eW p i)) (eW p i) p) ∧ sg neg r ≠ 0 ∧ Sm (sg neg r) ∧ IsE (sg neg r) p (eF neg n d p) := by
  have hdq := nat_pos hd
  have hnq := nat_pos hn0
  have hr0 : 0 < r := by
    have h1 : 0 * ((d : Nat) : Rat) < r * ((d : Nat) : Rat) := by rw [hr, Rat.zero_mul]; exact hnq
    exact Rat.lt_of_mul_lt_mul_right h1 (Rat.le_of_lt hdq)
  have hr64 : r ≤ 64 := by
    have h1 : r * ((d : Nat) : Rat) ≤ 64 * ((d : Nat) : Rat) := by
      rw [hr, show (64 : Rat) = ((64 : Nat) : Rat) from rfl, ← Rat.natCast_mul, Rat.natCast_le_natCast]; exact hn
    exact Rat.le_of_mul_le_mul_right h1 hdq
  have hne : sg neg r ≠ 0 := by unfold sg; split <;> grind
  have hSm : Sm (sg neg r) := by
    unfold sg
    split
    · exact ⟨ab_le.2 (by constructor <;> grind), d, -(n : Int), hd, hd2, by
        rw [Rat.intCast_neg, show (((n : Nat) : Int) : Rat) = ((n : Nat) : Rat) from rfl, ← hr]; grind⟩
    · exact ⟨ab_le.2 (by constructor <;> grind), d, (n : Int), hd, hd2, by
        rw [show (((n : Nat) : Int) : Rat) = ((n : Nat) : Rat) from rfl, ← hr]; grind⟩
  have h25 := eW_le hp (Nat.le_refl 25)
  have hok : okF (xNear neg n d (eW p 25)) (eW p 25) p := by
    obtain ⟨a1, a2, a3, _, a5⟩ := xNear_in neg hd hn h25.1 hr
    refine ok_far hne hSm hp h25.2.1 a1 a2 a3 (a5 h25.2.2) ?_
    rw [dS14]
    have h7 : 160 * 2 ^ 25 ≤ eW p 25 := Nat.mul_le_mul_right _ (by omega)
    have h6 : KE + 49205 < 160 * 2 ^ 25 := by decide
    exact Nat.lt_of_lt_of_le h6 h7
  obtain ⟨b1, b2, b3, _⟩ := fst_spec (fun i => decide (okF (xNear neg n d (eW p i)) (eW p i) p)) 25 0 25 (decide_eq_true hok) (by omega) (by omega)
  have c1 : okF (xNear neg n d (eW p (eI neg n d p))) (eW p (eI neg n d p)) p := of_decide_eq_true b1
  have hI := eW_le hp (show eI neg n d p ≤ 25 from b3)
  refine ⟨b3, c1, fun i hi => of_decide_eq_false (b2 i (by omega) hi), hne, hSm, ?_⟩
  obtain ⟨a1, a2, a3, _, _⟩ := xNear_in neg hd hn hI.1 hr
  have hpos : 0 < (xNear neg n d (eW p (eI neg n d p))).2 := by
    have := a2.pos
    rcases Nat.eq_zero_or_pos (xNear neg n d (eW p (eI neg n d p))).2 with e | e
    · rw [e, fr_zero] at this; exact absurd this (by decide)
    · exact e
  obtain ⟨d1, d2⟩ := ok_between hI.2.1 hpos c1
  exact ⟨a1.le d1, a2.le d2⟩

/-! what follows -/

theorem EL64 {x : Rat} (hx : x ≤ 64) : EL x (rp 3 64) := by
  have h : EL ((64 : Nat) : Rat) (rp 3 64) := fun ε he => Ev.all fun n => by have := RE_nat n 64; grind
  exact h.mono (by rw [show ((64 : Nat) : Rat) = 64 from rfl]; exact hx)
theorem IsE.small {x : Rat} {p f : Nat} (hx : x ≤ 64) (h : IsE x p f) : f < 2 ^ (p + 128) := by
  have h1 := (EL64 hx).ge h.1
  have h2 := Rat.mul_le_mul_of_nonneg_right h1 (Rat.le_of_lt (rp2_pos p))
  have h3 : rp 3 64 < rp 2 128 := by decide +kernel
  have h4 := rp2_pos p
  rw [fr_mul] at h2
  have h5 : ((f : Nat) : Rat) < rp 2 (p + 128) := by
    rw [rp_add, Rat.mul_comm (rp 2 p)]
    have h6 := Rat.mul_lt_mul_of_pos_right h3 h4
    grind
  rw [rp2_nat, Rat.natCast_lt_natCast] at h5
  exact h5
/-- e to a power and to the other one -/
theorem IsE.turn {x : Rat} {p f g : Nat} (h : IsE x p f) (k : IsE (-x) p g) : fr f p * fr g p ≤ 1 ∧ 1 ≤ fr (f + 1) p * fr (g + 1) p := by
  have h1 := EG.add (fr_nn _ _) h.1 k.1
  have h2 := h.2.add k.2
  rw [Rat.add_neg_cancel] at h1 h2
  exact ⟨EL.zero.ge h1, h2.ge EG.of_zero⟩
/-- e, in eighths -/
theorem IsE_one : IsE 1 3 21 := by
  constructor
  · refine (EG.sum (x := 1) (by decide) 5).le ?_
    decide +kernel
  · refine (EL.sum (x := 1) (by decide) (m := 5) (by decide +kernel)).le ?_
    decide +kernel

end Go.Proofs.YtjfaefgabaimaaaGreat.P
