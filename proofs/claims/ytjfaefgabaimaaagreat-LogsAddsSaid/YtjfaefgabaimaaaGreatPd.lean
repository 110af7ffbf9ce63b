/- Numbers between two whole numbers by a power of two: how they are reckoned with. No condition. e to a power as the program reckons it: it lies between, is narrow, and two whole numbers hold it. Conditions: the power is at most 64 without its sign, w below 2^36 digits. The two whole numbers that hold e to a power: there are such, and only one such; they are found. Conditions: the power is at most 64 without its sign, of a denominator of at most 200 bits; at most 512 bits are asked. -/
import Derived.Test.YtjfaefgabaimaaaGreatPc
set_option linter.unusedSimpArgs false
set_option linter.unusedVariables false
namespace Go.Proofs.YtjfaefgabaimaaaGreat.P
open GQ
/-- a whole number by 2 to the power w -/
def fr (a w : Nat) : Rat := ((a : Nat) : Rat) * (1 / rp 2 w)
theorem inv2_pos (w : Nat) : 0 < 1 / rp 2 w := inv_pos' (rp2_pos w)
theorem inv2_mul (w : Nat) : 1 / rp 2 w * rp 2 w = 1 := one_div_mul (rp2_pos w)
theorem fr_mul (a w : Nat) : fr a w * rp 2 w = ((a : Nat) : Rat) := by
  unfold fr
  rw [Rat.mul_assoc, inv2_mul, Rat.mul_one]
theorem fr_nn (a w : Nat) : 0 ≤ fr a w := Rat.mul_nonneg (nat_nn a) (Rat.le_of_lt (inv2_pos w))
theorem fr_le {a b : Nat} (h : a ≤ b) (w : Nat) : fr a w ≤ fr b w := Rat.mul_le_mul_of_nonneg_right (Rat.natCast_le_natCast.2 h) (Rat.le_of_lt (inv2_pos w))
/-- from what is so many times 2 to the power w -/
theorem le_fr {x : Rat} {a w : Nat} (h : x * rp 2 w ≤ ((a : Nat) : Rat)) : x ≤ fr a w := by
  rw [← fr_mul a w] at h
  exact Rat.le_of_mul_le_mul_right h (rp2_pos w)
theorem fr_le' {x : Rat} {a w : Nat} (h : ((a : Nat) : Rat) ≤ x * rp 2 w) : fr a w ≤ x := by
  rw [← fr_mul a w] at h
  exact Rat.le_of_mul_le_mul_right h (rp2_pos w)
theorem fr_up (a w s : Nat) : fr (a * 2 ^ s) (w + s) = fr a w := by
  have h1 := fr_mul (a * 2 ^ s) (w + s)
  have h2 := fr_mul a w
  rw [rp_add, Rat.natCast_mul, ← rp2_nat, ← h2] at h1
  have h3 : fr (a * 2 ^ s) (w + s) * (rp 2 w * rp 2 s) = fr a w * (rp 2 w * rp 2 s) := by rw [h1]; grind
  have h4 : fr (a * 2 ^ s) (w + s) ≤ fr a w := Rat.le_of_mul_le_mul_right (show _ ≤ _ by rw [h3]; exact Rat.le_refl) (Rat.mul_pos (rp2_pos w) (rp2_pos s))
  have h5 : fr a w ≤ fr (a * 2 ^ s) (w + s) := Rat.le_of_mul_le_mul_right (show _ ≤ _ by rw [h3]; exact Rat.le_refl) (Rat.mul_pos (rp2_pos w) (rp2_pos s))
  exact Rat.le_antisymm h4 h5
theorem fr_add (a b w : Nat) : fr (a + b) w = fr a w + fr b w := by
  unfold fr
  rw [Rat.natCast_add, Rat.add_mul]
theorem fr_zero (w : Nat) : fr 0 w = 0 := by
  unfold fr
  rw [show ((0 : Nat) : Rat) = 0 from rfl, Rat.zero_mul]
theorem quo_le (a : Nat) {d : Nat} (hd : 0 < d) : ((a / d : Nat) : Rat) * ((d : Nat) : Rat) ≤ ((a : Nat) : Rat) := by
  rw [← Rat.natCast_mul, Rat.natCast_le_natCast]; exact Nat.div_mul_le_self a d
theorem lt_quo (a : Nat) {d : Nat} (hd : 0 < d) : ((a : Nat) : Rat) ≤ ((a / d + 1 : Nat) : Rat) * ((d : Nat) : Rat) := by
  rw [← Rat.natCast_mul, Rat.natCast_le_natCast]
  have := Nat.div_add_mod a d
  have := Nat.mod_lt a hd
  rw [Nat.add_mul, Nat.mul_comm (a / d) d]
  omega
abbrev Sp : Type := Nat × Nat
def spOne (w : Nat) : Sp := (2 ^ w, 2 ^ w + 1)
def spOf (n d w : Nat) : Sp := (n * 2 ^ w / d, n * 2 ^ w / d + 1)
def spMul (a b : Sp) (w : Nat) : Sp := (a.1 * b.1 / 2 ^ w, a.2 * b.2 / 2 ^ w + 1)
def spTimes (a : Sp) (n d : Nat) : Sp := (a.1 * n / d, a.2 * n / d + 1)
def spAdd (a b : Sp) : Sp := (a.1 + b.1, a.2 + b.2)
def spSub (a b : Sp) : Sp := (a.1 - b.2, (a.2 - b.1) + 1)
def spInv (a : Sp) (w : Nat) : Sp := (2 ^ (2 * w) / a.2, 2 ^ (2 * w) / a.1 + 1)
def spWider (a : Sp) (k : Nat) : Sp := (a.1, a.2 + k)
/-- the number r is in a, of w digits -/
def Cn (w : Nat) (a : Sp) (r : Rat) : Prop := ((a.1 : Nat) : Rat) ≤ r * rp 2 w ∧ r * rp 2 w ≤ ((a.2 : Nat) : Rat)
theorem Cn.nn {w : Nat} {a : Sp} {r : Rat} (h : Cn w a r) : 0 ≤ r := by
  have h1 := Rat.le_trans (nat_nn a.1) h.1
  have h2 : 0 * rp 2 w ≤ r * rp 2 w := by rw [Rat.zero_mul]; exact h1
  exact Rat.le_of_mul_le_mul_right h2 (rp2_pos w)
theorem Cn.le {w : Nat} {a : Sp} {r : Rat} (h : Cn w a r) : fr a.1 w ≤ r ∧ r ≤ fr a.2 w := ⟨fr_le' h.1, le_fr h.2⟩
theorem Cn.sp {w : Nat} {a : Sp} {r : Rat} (h : Cn w a r) : a.1 ≤ a.2 := Rat.natCast_le_natCast.1 (Rat.le_trans h.1 h.2)
theorem pow_pos2 (w : Nat) : 0 < 2 ^ w := Nat.pow_pos (by omega)
theorem cn_of {n d : Nat} (hd : 0 < d) {r : Rat} (hr : r * ((d : Nat) : Rat) = ((n : Nat) : Rat)) (w : Nat) : Cn w (spOf n d w) r := by
  have hdp := nat_pos hd
  have h1 := quo_le (n * 2 ^ w) hd
  have h2 := lt_quo (n * 2 ^ w) hd
  rw [Rat.natCast_mul, ← rp2_nat, ← hr] at h1 h2
  refine ⟨Rat.le_of_mul_le_mul_right ?_ hdp, Rat.le_of_mul_le_mul_right ?_ hdp⟩
  · simp only [spOf]; grind
  · simp only [spOf]; grind
theorem cn_mul {w : Nat} {a b : Sp} {r s : Rat} (h : Cn w a r) (k : Cn w b s) : Cn w (spMul a b w) (r * s) := by
  have hr := h.nn
  have hs := k.nn
  have hp := rp2_pos w
  have h1 := quo_le (a.1 * b.1) (pow_pos2 w)
  have h2 := lt_quo (a.2 * b.2) (pow_pos2 w)
  have h3 := rmul_le h.1 k.1 (nat_nn _) (Rat.mul_nonneg hr (Rat.le_of_lt hp))
  have h4 := rmul_le h.2 k.2 (Rat.mul_nonneg hs (Rat.le_of_lt hp)) (nat_nn _)
  rw [Rat.natCast_mul, ← rp2_nat] at h1 h2
  refine ⟨Rat.le_of_mul_le_mul_right (c := rp 2 w) ?_ hp, Rat.le_of_mul_le_mul_right (c := rp 2 w) ?_ hp⟩
  · simp only [spMul]; grind
  · simp only [spMul]; grind
theorem cn_times {w n d : Nat} {a : Sp} {r s : Rat} (hd : 0 < d) (h : Cn w a r) (hs : s * ((d : Nat) : Rat) = r * ((n : Nat) : Rat)) : Cn w (spTimes a n d) s := by
  have hdp := nat_pos hd
  have h1 := quo_le (a.1 * n) hd
  have h2 := lt_quo (a.2 * n) hd
  have h3 := Rat.mul_le_mul_of_nonneg_right h.1 (nat_nn n)
  have h4 := Rat.mul_le_mul_of_nonneg_right h.2 (nat_nn n)
  rw [Rat.natCast_mul] at h1 h2
  have e : s * rp 2 w * ((d : Nat) : Rat) = r * rp 2 w * ((n : Nat) : Rat) := by grind
  refine ⟨Rat.le_of_mul_le_mul_right ?_ hdp, Rat.le_of_mul_le_mul_right ?_ hdp⟩
  · simp only [spTimes]; grind
  · simp only [spTimes]; grind
theorem cn_add {w : Nat} {a b : Sp} {r s : Rat} (h : Cn w a r) (k : Cn w b s) : Cn w (spAdd a b) (r + s) := by
  obtain ⟨h1, h2⟩ := h
  obtain ⟨k1, k2⟩ := k
  simp only [Cn, spAdd, Rat.natCast_add]
  constructor <;> grind
theorem sub_cast (a b : Nat) : ((a : Nat) : Rat) - ((b : Nat) : Rat) ≤ ((a - b : Nat) : Rat) := by
  rcases Nat.le_total b a with h | h
  · have : ((a - b + b : Nat) : Rat) = ((a - b : Nat) : Rat) + ((b : Nat) : Rat) := Rat.natCast_add _ _
    rw [Nat.sub_add_cancel h] at this
    grind
  · have h1 := Rat.natCast_le_natCast.2 h
    have h2 := nat_nn (a - b)
    grind
theorem cast_sub {a b : Nat} (h : b ≤ a) : ((a - b : Nat) : Rat) = ((a : Nat) : Rat) - ((b : Nat) : Rat) := by
  have : ((a - b + b : Nat) : Rat) = ((a - b : Nat) : Rat) + ((b : Nat) : Rat) := Rat.natCast_add _ _
  rw [Nat.sub_add_cancel h] at this
  grind
theorem cn_sub {w : Nat} {a b : Sp} {r s : Rat} (h : Cn w a r) (k : Cn w b s) (hs : s ≤ r) : Cn w (spSub a b) (r - s) := by
  obtain ⟨h1, h2⟩ := h
  obtain ⟨k1, k2⟩ := k
  have h3 := Rat.mul_le_mul_of_nonneg_right hs (Rat.le_of_lt (rp2_pos w))
  simp only [Cn, spSub]
  constructor
  · rcases Nat.le_total b.2 a.1 with h4 | h4
    · rw [cast_sub h4]; grind
    · rw [Nat.sub_eq_zero_of_le h4]
      have : ((0 : Nat) : Rat) = 0 := rfl
      grind
  · have h5 := sub_cast a.2 b.1
    rw [Rat.natCast_add, show ((1 : Nat) : Rat) = 1 from rfl]
    grind
/-- the first number of which p is so, from j on, among f ones -/
def fst (p : Nat → Bool) : Nat → Nat → Nat
  | 0, j => j
  | f + 1, j => if p j = true then j else fst p f (j + 1)
theorem fst_spec (p : Nat → Bool) : ∀ (f j k : Nat), p k = true → j ≤ k → k ≤ j + f → p (fst p f j) = true ∧ (∀ i, j ≤ i → i < fst p f j → p i = false) ∧ fst p f j ≤ k ∧ j ≤ fst p f j
  | 0, j, k, hk, h1, h2 => by
    obtain rfl : k = j := by omega
    exact ⟨hk, fun i h3 h4 => by simp only [fst] at h4; omega, Nat.le_refl _, Nat.le_refl _⟩
  | f + 1, j, k, hk, h1, h2 => by
    simp only [fst]
    split
    · rename_i h
      exact ⟨h, fun i h3 h4 => by omega, h1, Nat.le_refl _⟩
    · rename_i h
      have hne : k ≠ j := fun e => h (by rw [← e]; exact hk)
      obtain ⟨a, b, c, d⟩ := fst_spec p f (j + 1) k hk (by omega) (by omega)
      refine ⟨a, fun i h3 h4 => ?_, c, by omega⟩
      by_cases e : i = j
      · subst e; simpa using h
      · exact b i (by omega) h4
def xT (y : Sp) (w : Nat) : Nat → Sp
  | 0 => spOne w
  | j + 1 => spTimes (spMul (xT y w j) y w) 1 (j + 1)
def xA (y : Sp) (w : Nat) : Nat → Sp
  | 0 => spOne w
  | j + 1 => spAdd (xA y w j) (xT y w (j + 1))
theorem RE_succ (x : Rat) (n : Nat) : RE x (n + 1) = RE x n + rt x n := rfl
/-- how many terms the row takes -/
def xJ (y : Sp) (w : Nat) : Nat := fst (fun j => decide ((xT y w j).2 ≤ 1)) (w + 2) 0
/-- the row's end -/
def xR (y : Sp) (w : Nat) : Sp := spWider (xA y w (xJ y w)) 1
def sqs (a : Sp) (w : Nat) : Nat → Sp
  | 0 => a
  | i + 1 => spMul (sqs a w i) (sqs a w i) w
def xNear (neg : Bool) (n d w : Nat) : Sp :=
  let e := sqs (xR (spOf n (d * 2 ^ 14) w) w) w 14
  if neg = true then spInv e w else e
/-- a power, of its sign -/
def sg (neg : Bool) (r : Rat) : Rat := if neg = true then -r else r
/-- is the whole number below certain? -/
def okF (a : Sp) (w p : Nat) : Prop := a.1 / 2 ^ (w - p) = (a.2 - 1) / 2 ^ (w - p)
instance (a : Sp) (w p : Nat) : Decidable (okF a w p) := inferInstanceAs (Decidable (_ = _))
theorem fr_up' {p w : Nat} (h : p ≤ w) (m : Nat) : fr (m * 2 ^ (w - p)) w = fr m p := by
  have := fr_up m p (w - p)
  rwa [show p + (w - p) = w by omega] at this
theorem ok_between {a : Sp} {w p : Nat} (hp : p ≤ w) (hs : 0 < a.2) (h : okF a w p) : fr (a.1 / 2 ^ (w - p)) p ≤ fr a.1 w ∧ fr a.2 w ≤ fr (a.1 / 2 ^ (w - p) + 1) p := by
  have hq := pow_pos2 (w - p)
  rw [← fr_up' hp, ← fr_up' hp]
  refine ⟨fr_le (Nat.div_mul_le_self _ _) w, fr_le ?_ w⟩
  have h1 := Nat.lt_mul_div_succ (a.2 - 1) hq
  rw [← show a.1 / 2 ^ (w - p) = (a.2 - 1) / 2 ^ (w - p) from h, Nat.mul_comm] at h1
  omega
theorem not_ok_mid {a : Sp} {w p : Nat} (hp : p ≤ w) (hs : a.1 ≤ a.2) (h : ¬ okF a w p) : ∃ m, fr a.1 w ≤ fr m p ∧ fr m p ≤ fr a.2 w := by
  have hq := pow_pos2 (w - p)
  have key : ∃ m, a.1 ≤ m * 2 ^ (w - p) ∧ m * 2 ^ (w - p) ≤ a.2 := by
    unfold okF at h
    generalize 2 ^ (w - p) = s at *
    by_cases e : a.1 = a.2
    · refine ⟨a.1 / s, ?_, Nat.le_trans (Nat.div_mul_le_self _ _) hs⟩
      have h1 := Nat.div_add_mod a.1 s
      by_cases hr : a.1 % s = 0
      · rw [Nat.mul_comm]; omega
      · exfalso
        apply h
        rw [← e]
        have hlt := Nat.mod_lt a.1 hq
        have h2 : a.1 - 1 = s * (a.1 / s) + (a.1 % s - 1) := by omega
        rw [h2, Nat.mul_add_div hq, Nat.div_eq_of_lt (show a.1 % s - 1 < s by omega), Nat.add_zero]
    · refine ⟨(a.2 - 1) / s, ?_, Nat.le_trans (Nat.div_mul_le_self _ _) (by omega)⟩
      have h1 : a.1 / s ≤ (a.2 - 1) / s := Nat.div_le_div_right (by omega)
      have := (Nat.div_lt_iff_lt_mul hq).1 (Nat.lt_of_le_of_ne h1 h)
      omega
  obtain ⟨m, h1, h2⟩ := key
  refine ⟨m, ?_, ?_⟩ <;> rw [← fr_up' hp] <;> exact fr_le (by assumption) w
/-- e to the power x, by 2 to the power p, is between f and f + 1 -/
def IsE (x : Rat) (p f : Nat) : Prop := EG x (fr f p) ∧ EL x (fr (f + 1) p)
/-- a power that is not too large, of few digits -/
def Sm (x : Rat) : Prop := ab x ≤ 128 ∧ ∃ (b : Nat) (u : Int), 0 < b ∧ b ≤ 2 ^ 200 ∧ ((b : Nat) : Rat) * x = (u : Rat)
def KE : Nat := 2147483648
theorem Wh.of {b : Nat} {x : Rat} {u : Int} (h : ((b : Nat) : Rat) * x = (u : Rat)) : Wh (P.gn b * q x) := ⟨u, 0, by
  apply GQ.ext'
  · simp only [mul_re, P.gn, q_re, q_im]; rw [Rat.zero_mul, h]; grind
  · simp only [mul_im, P.gn, q_re, q_im]; grind⟩
/-- e to a power is not near a rational -/
theorem E_far' {K k C : Nat} {x c δ : Rat} {z : Int} (hx0 : x ≠ 0) (hx : Sm x) (hk0 : 0 < k) (hk : k ≤ 2 ^ C) (hC : C ≤ 512) (hc : ((k : Nat) : Rat) * c = (z : Rat)) (hK : KE ≤ K) (h1 : EL x (c + δ)) (h2 : EG x (c - δ)) : 1 ≤ rp 2 K * δ := by
  obtain ⟨hx1, b, u, hb0, hb, hbx⟩ := hx
  have hp := rp2_pos K
  have hm := measure (K := K) (z := q x) (x := q c) (fun e => hx0 (show (q x).re = 0 by rw [e]; rfl)) (by rw [nr_q]; exact hx1) hb0 hb (Nat.le_refl _) (Wh.of hbx) hk0 hk hC (Wh.of hc) hK
  refine le_eps fun ε he => ?_
  obtain ⟨d, hd, hd2⟩ := eps he (B := rp 2 K) (Rat.le_of_lt hp)
  obtain ⟨n, ⟨h3, h4⟩, h5⟩ := (((h1 d hd).and (h2 d hd)).and hm).ex
  rw [En_q, ← q_sub, nr_q] at h5
  have h6 : ab (RE x n - c) ≤ δ + d := ab_le.2 (by constructor <;> grind)
  have h7 := Rat.mul_le_mul_of_nonneg_left h6 (Rat.le_of_lt hp)
  grind
theorem fr_whole (m p : Nat) : ((2 ^ p : Nat) : Rat) * fr m p = (((m : Nat) : Int) : Rat) := by
  rw [Rat.mul_comm, ← rp2_nat, fr_mul]; rfl
/-- no whole number by 2 to a power is it -/
theorem E_ne {x : Rat} {m p : Nat} (hx0 : x ≠ 0) (hx : Sm x) (hp : p ≤ 512) (h1 : EL x (fr m p)) (h2 : EG x (fr m p)) : False := by
  have := E_far' (K := KE) (δ := 0) hx0 hx (pow_pos2 p) (Nat.le_refl _) hp (fr_whole m p) (Nat.le_refl _) (h1.le (by grind)) (h2.le (by grind))
  rw [Rat.mul_zero] at this
  exact absurd this (by decide)
theorem fr_lt_iff {a b p : Nat} (h : fr a p ≤ fr b p) : a ≤ b := by
  have h1 := Rat.mul_le_mul_of_nonneg_right h (Rat.le_of_lt (rp2_pos p))
  rw [fr_mul, fr_mul, Rat.natCast_le_natCast] at h1
  exact h1
theorem IsE.uniq {x : Rat} {p f g : Nat} (hx0 : x ≠ 0) (hx : Sm x) (hp : p ≤ 512) (h : IsE x p f) (k : IsE x p g) : f = g := by
  have key : ∀ {f g : Nat}, IsE x p f → IsE x p g → g ≤ f := by
    intro f g h k
    have h1 := fr_lt_iff (h.2.ge k.1)
    by_cases e : g = f + 1
    · exfalso; rw [e] at k; exact E_ne hx0 hx hp h.2 k.1
    · omega
  exact Nat.le_antisymm (key k h) (key h k)
def eW (p i : Nat) : Nat := (p + 160) * 2 ^ i
def eI (neg : Bool) (n d p : Nat) : Nat := fst (fun i => decide (okF (xNear neg n d (eW p i)) (eW p i) p)) 25 0
def eF (neg : Bool) (n d p : Nat) : Nat := (xNear neg n d (eW p (eI neg n d p))).1 / 2 ^ (eW p (eI neg n d p) - p)
theorem EL64 {x : Rat} (hx : x ≤ 64) : EL x (rp 3 64) := by
  have h : EL ((64 : Nat) : Rat) (rp 3 64) := fun ε he => Ev.all fun n => by have := RE_nat n 64; grind
  exact h.mono (by rw [show ((64 : Nat) : Rat) = 64 from rfl]; exact hx)
theorem IsE.small {x : Rat} {p f : Nat} (hx : x ≤ 64) (h : IsE x p f) : f < 2 ^ (p + 128) := by
  have h1 := (EL64 hx).ge h.1
  have h2 := Rat.mul_le_mul_of_nonneg_right h1 (Rat.le_of_lt (rp2_pos p))
  have h3 : rp 3 64 < rp 2 128 := by decide +kernel
  have h4 := rp2_pos p
  rw [fr_mul] at h2
  have h5 : ((f : Nat) : Rat) < rp 2 (p + 128) := by
    rw [rp_add, Rat.mul_comm (rp 2 p)]
    have h6 := Rat.mul_lt_mul_of_pos_right h3 h4
    grind
  rw [rp2_nat, Rat.natCast_lt_natCast] at h5
  exact h5
/-- e to a power and to the other one -/
theorem IsE.turn {x : Rat} {p f g : Nat} (h : IsE x p f) (k : IsE (-x) p g) : fr f p * fr g p ≤ 1 ∧ 1 ≤ fr (f + 1) p * fr (g + 1) p := by
  have h1 := EG.add (fr_nn _ _) h.1 k.1
  have h2 := h.2.add k.2
  rw [Rat.add_neg_cancel] at h1 h2
  exact ⟨EL.zero.ge h1, h2.ge EG.of_zero⟩
end Go.Proofs.YtjfaefgabaimaaaGreat.P
