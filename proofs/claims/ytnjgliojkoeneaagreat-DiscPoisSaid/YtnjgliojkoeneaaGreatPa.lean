/- Numbers with two rational parts, their sums and powers. No condition. Sequences that follow from their nodes, rows of coefficients, and that few of them vanish. No condition. Few sequences of powers vanish far; rows of which there are more than places hang together. No condition. The sequence of many nodes that vanishes longest, its rows, and that its neighbours do not vanish together. No condition. The neighbours of the longest vanishing sequence, at a number that is not 0, do not vanish together at any other number. No condition. e to a power by its sums: bounds, what is left out, and that powers add. No condition. What tends to 0; the neighbours' values by sums of e to a power. No condition. The neighbours' coefficients: whole numbers by few, and not large. No condition. e to a rational power, of whatever two parts, is not near a rational of few digits. Conditions: the power's norm at most 128, its denominator at most 2^200, the other's at most 2^512. e to a rational power, compared with rationals. No condition. Numbers between two whole numbers by a power of two: how they are reckoned with. No condition. e to a power as the program reckons it: it lies between, is narrow, and two whole numbers hold it. Conditions: the power is at most 64 without its sign, w below 2^36 digits. The two whole numbers that hold e to a power: there are such, and only one such; they are found. Conditions: the power is at most 64 without its sign, of a denominator of at most 200 bits; at most 512 bits are asked. How large the numbers are that e's row reckons with. No condition beyond those told. -/
import Derived.Test.YtnjgliojkoeneaaGreatRows
set_option linter.unusedSimpArgs false
set_option linter.unusedVariables false
namespace Go.Proofs.YtnjgliojkoeneaaGreat.P
def ab (x : Rat) : Rat := if 0 ≤ x then x else -x
theorem ab_nn (x : Rat) : 0 ≤ ab x := by unfold ab; split <;> grind
theorem ab_le {x y : Rat} : ab x ≤ y ↔ x ≤ y ∧ -y ≤ x := by unfold ab; split <;> grind
theorem le_ab (x : Rat) : x ≤ ab x := by unfold ab; split <;> grind
theorem neg_le_ab (x : Rat) : -x ≤ ab x := by unfold ab; split <;> grind
theorem ab_add (x y : Rat) : ab (x + y) ≤ ab x + ab y := by unfold ab; split <;> split <;> split <;> grind
theorem ab_neg (x : Rat) : ab (-x) = ab x := by unfold ab; split <;> split <;> grind
theorem ab_sub (x y : Rat) : ab (x - y) ≤ ab x + ab y := by unfold ab; split <;> split <;> split <;> grind
theorem ab_of {x : Rat} (h : 0 ≤ x) : ab x = x := by unfold ab; rw [if_pos h]
theorem ab_zero : ab 0 = 0 := rfl
theorem ab_mul (x y : Rat) : ab (x * y) = ab x * ab y := by
  rcases Rat.le_total (a := 0) (b := x) with hx | hx <;> rcases Rat.le_total (a := 0) (b := y) with hy | hy
  · rw [ab_of hx, ab_of hy, ab_of (Rat.mul_nonneg hx hy)]
  · have h := Rat.mul_nonneg hx (show 0 ≤ -y by grind)
    rw [ab_of hx, ← ab_neg y, ab_of (show 0 ≤ -y by grind), ← ab_neg (x * y), ab_of (by grind)]; grind
  · have h := Rat.mul_nonneg (show 0 ≤ -x by grind) hy
    rw [ab_of hy, ← ab_neg x, ab_of (show 0 ≤ -x by grind), ← ab_neg (x * y), ab_of (by grind)]; grind
  · have h := Rat.mul_nonneg (show 0 ≤ -x by grind) (show 0 ≤ -y by grind)
    rw [← ab_neg x, ← ab_neg y, ab_of (show 0 ≤ -x by grind), ab_of (show 0 ≤ -y by grind), ab_of (by grind)]; grind
theorem rmul_le {a b c d : Rat} (h1 : a ≤ b) (h2 : c ≤ d) (h3 : 0 ≤ c) (h4 : 0 ≤ b) : a * c ≤ b * d := by
  have x := Rat.mul_le_mul_of_nonneg_right h1 h3
  have y := Rat.mul_le_mul_of_nonneg_left h2 h4
  exact Rat.le_trans x y
structure GQ where
  re : Rat
  im : Rat
namespace GQ
theorem ext' {a b : GQ} (h : a.re = b.re) (k : a.im = b.im) : a = b := by
  cases a; cases b; cases h; cases k; rfl
instance : Add GQ := ⟨fun a b => ⟨a.re + b.re, a.im + b.im⟩⟩
instance : Sub GQ := ⟨fun a b => ⟨a.re - b.re, a.im - b.im⟩⟩
instance : Neg GQ := ⟨fun a => ⟨-a.re, -a.im⟩⟩
instance : Mul GQ := ⟨fun a b => ⟨a.re * b.re - a.im * b.im, a.re * b.im + a.im * b.re⟩⟩
instance : Zero GQ := ⟨⟨0, 0⟩⟩
instance : One GQ := ⟨⟨1, 0⟩⟩
theorem add_re (a b : GQ) : (a + b).re = a.re + b.re := rfl
theorem add_im (a b : GQ) : (a + b).im = a.im + b.im := rfl
theorem sub_re (a b : GQ) : (a - b).re = a.re - b.re := rfl
theorem sub_im (a b : GQ) : (a - b).im = a.im - b.im := rfl
theorem neg_re (a : GQ) : (-a).re = -a.re := rfl
theorem neg_im (a : GQ) : (-a).im = -a.im := rfl
theorem mul_re (a b : GQ) : (a * b).re = a.re * b.re - a.im * b.im := rfl
theorem mul_im (a b : GQ) : (a * b).im = a.re * b.im + a.im * b.re := rfl
theorem zero_re : (0 : GQ).re = 0 := rfl
theorem zero_im : (0 : GQ).im = 0 := rfl
theorem one_re : (1 : GQ).re = 1 := rfl
theorem one_im : (1 : GQ).im = 0 := rfl
/-- a rational -/
def q (x : Rat) : GQ := ⟨x, 0⟩
theorem q_re (x : Rat) : (q x).re = x := rfl
theorem q_im (x : Rat) : (q x).im = 0 := rfl
/-- the other number -/
def inv (a : GQ) : GQ := ⟨a.re / (a.re * a.re + a.im * a.im), -a.im / (a.re * a.re + a.im * a.im)⟩
def nr (a : GQ) : Rat := ab a.re + ab a.im
end GQ
open GQ
theorem gadd_comm (a b : GQ) : a + b = b + a := by apply GQ.ext' <;> simp only [add_re, add_im] <;> grind
theorem gadd_assoc (a b c : GQ) : a + b + c = a + (b + c) := by apply GQ.ext' <;> simp only [add_re, add_im] <;> grind
theorem gadd_left_comm (a b c : GQ) : a + (b + c) = b + (a + c) := by apply GQ.ext' <;> simp only [add_re, add_im] <;> grind
theorem gmul_comm (a b : GQ) : a * b = b * a := by apply GQ.ext' <;> simp only [mul_re, mul_im] <;> grind
theorem gmul_assoc (a b c : GQ) : a * b * c = a * (b * c) := by apply GQ.ext' <;> simp only [mul_re, mul_im] <;> grind
theorem gmul_left_comm (a b c : GQ) : a * (b * c) = b * (a * c) := by apply GQ.ext' <;> simp only [mul_re, mul_im] <;> grind
theorem gmul_add (a b c : GQ) : a * (b + c) = a * b + a * c := by apply GQ.ext' <;> simp only [mul_re, mul_im, add_re, add_im] <;> grind
theorem gadd_mul (a b c : GQ) : (a + b) * c = a * c + b * c := by apply GQ.ext' <;> simp only [mul_re, mul_im, add_re, add_im] <;> grind
theorem gmul_sub (a b c : GQ) : a * (b - c) = a * b - a * c := by apply GQ.ext' <;> simp only [mul_re, mul_im, sub_re, sub_im] <;> grind
theorem gsub_mul (a b c : GQ) : (a - b) * c = a * c - b * c := by apply GQ.ext' <;> simp only [mul_re, mul_im, sub_re, sub_im] <;> grind
theorem gadd_zero (a : GQ) : a + 0 = a := by apply GQ.ext' <;> simp only [add_re, add_im, zero_re, zero_im] <;> grind
theorem gzero_add (a : GQ) : 0 + a = a := by apply GQ.ext' <;> simp only [add_re, add_im, zero_re, zero_im] <;> grind
theorem gmul_zero (a : GQ) : a * 0 = 0 := by apply GQ.ext' <;> simp only [mul_re, mul_im, zero_re, zero_im] <;> grind
theorem gzero_mul (a : GQ) : 0 * a = 0 := by apply GQ.ext' <;> simp only [mul_re, mul_im, zero_re, zero_im] <;> grind
theorem gmul_one (a : GQ) : a * 1 = a := by apply GQ.ext' <;> simp only [mul_re, mul_im, one_re, one_im] <;> grind
theorem gone_mul (a : GQ) : 1 * a = a := by apply GQ.ext' <;> simp only [mul_re, mul_im, one_re, one_im] <;> grind
theorem gsub_self (a : GQ) : a - a = 0 := by apply GQ.ext' <;> simp only [sub_re, sub_im, zero_re, zero_im] <;> grind
theorem gsub_zero (a : GQ) : a - 0 = a := by apply GQ.ext' <;> simp only [sub_re, sub_im, zero_re, zero_im] <;> grind
theorem gsub_eq {a b : GQ} : a - b = 0 ↔ a = b := by
  constructor
  · intro h
    have h1 : (a - b).re = 0 := by rw [h]; rfl
    have h2 : (a - b).im = 0 := by rw [h]; rfl
    apply GQ.ext' <;> simp only [sub_re, sub_im] at h1 h2 <;> grind
  · rintro rfl; exact gsub_self _
theorem gneg_eq (a : GQ) : -a = 0 - a := by apply GQ.ext' <;> simp only [neg_re, neg_im, sub_re, sub_im, zero_re, zero_im] <;> grind
theorem gsub_def (a b : GQ) : a - b = a + -b := by apply GQ.ext' <;> simp only [neg_re, neg_im, sub_re, sub_im, add_re, add_im] <;> grind
theorem gneg_mul (a b : GQ) : -a * b = -(a * b) := by apply GQ.ext' <;> simp only [neg_re, neg_im, mul_re, mul_im] <;> grind
theorem gadd_sub_cancel (a b : GQ) : a + b - b = a := by apply GQ.ext' <;> simp only [sub_re, sub_im, add_re, add_im] <;> grind
theorem gsub_add_cancel (a b : GQ) : a - b + b = a := by apply GQ.ext' <;> simp only [sub_re, sub_im, add_re, add_im] <;> grind
theorem sq_nn (x : Rat) : 0 ≤ x * x := by
  rcases Rat.le_total (a := 0) (b := x) with h | h
  · exact Rat.mul_nonneg h h
  · have := Rat.mul_nonneg (show 0 ≤ -x by grind) (show 0 ≤ -x by grind); grind
theorem sq_pos {x : Rat} (h : x ≠ 0) : 0 < x * x := by
  have := sq_nn x
  rcases Classical.em (x * x = 0) with h1 | h1
  · rcases Rat.mul_eq_zero.1 h1 with h2 | h2 <;> exact absurd h2 h
  · grind
theorem gnorm_pos {a : GQ} (h : a ≠ 0) : 0 < a.re * a.re + a.im * a.im := by
  have h1 := sq_nn a.re
  have h2 := sq_nn a.im
  by_cases hr : a.re = 0
  · have hi : a.im ≠ 0 := fun e => h (GQ.ext' hr e)
    have := sq_pos hi; grind
  · have := sq_pos hr; grind
theorem ginv_mul {a : GQ} (h : a ≠ 0) : a.inv * a = 1 := by
  have hn := gnorm_pos h
  have hn' : a.re * a.re + a.im * a.im ≠ 0 := by intro e; rw [e] at hn; exact absurd hn (by decide)
  have e := Rat.mul_inv_cancel _ hn'
  apply GQ.ext' <;> simp only [mul_re, mul_im, one_re, one_im, inv, Rat.div_def]
  · grind
  · grind
theorem gmul_eq_zero {a b : GQ} (h : a * b = 0) : a = 0 ∨ b = 0 := by
  rcases Classical.em (a = 0) with ha | ha
  · exact .inl ha
  · right
    have : a.inv * (a * b) = a.inv * 0 := congrArg (a.inv * ·) h
    rwa [← gmul_assoc, ginv_mul ha, gone_mul, gmul_zero] at this
theorem gmul_cancel {a b c : GQ} (ha : a ≠ 0) (h : a * b = a * c) : b = c := by
  have : a.inv * (a * b) = a.inv * (a * c) := congrArg (a.inv * ·) h
  rwa [← gmul_assoc, ← gmul_assoc, ginv_mul ha, gone_mul, gone_mul] at this
theorem gone_ne : (1 : GQ) ≠ 0 := fun h => by
  have : (1 : GQ).re = 0 := by rw [h]; rfl
  exact absurd this (by decide)
theorem nr_nn (a : GQ) : 0 ≤ nr a := by have := ab_nn a.re; have := ab_nn a.im; unfold nr; grind
theorem nr_add (a b : GQ) : nr (a + b) ≤ nr a + nr b := by
  have := ab_add a.re b.re; have := ab_add a.im b.im; unfold nr; simp only [add_re, add_im]; grind
theorem nr_sub (a b : GQ) : nr (a - b) ≤ nr a + nr b := by
  have := ab_sub a.re b.re; have := ab_sub a.im b.im; unfold nr; simp only [sub_re, sub_im]; grind
theorem nr_neg (a : GQ) : nr (-a) = nr a := by unfold nr; simp only [neg_re, neg_im, ab_neg]
theorem nr_mul (a b : GQ) : nr (a * b) ≤ nr a * nr b := by
  unfold nr; simp only [mul_re, mul_im]
  have h1 := ab_sub (a.re * b.re) (a.im * b.im)
  have h2 := ab_add (a.re * b.im) (a.im * b.re)
  simp only [ab_mul] at h1 h2
  grind
theorem nr_zero : nr 0 = 0 := by decide +kernel
theorem nr_one : nr 1 = 1 := by decide +kernel
theorem nr_q (x : Rat) : nr (q x) = ab x := by unfold nr q; simp only [ab_zero]; grind
def pw (a : GQ) : Nat → GQ
  | 0 => 1
  | n + 1 => pw a n * a
theorem pw_zero (a : GQ) : pw a 0 = 1 := rfl
theorem pw_succ (a : GQ) (n : Nat) : pw a (n + 1) = pw a n * a := rfl
theorem pw_add (a : GQ) (m : Nat) : ∀ n, pw a (m + n) = pw a m * pw a n
  | 0 => by rw [pw_zero, gmul_one]; rfl
  | n + 1 => by rw [← Nat.add_assoc, pw_succ, pw_add a m n, pw_succ, gmul_assoc]
theorem pw_mul (a b : GQ) : ∀ n, pw (a * b) n = pw a n * pw b n
  | 0 => by rw [pw_zero, pw_zero, pw_zero, gmul_one]
  | n + 1 => by rw [pw_succ, pw_mul a b n, pw_succ, pw_succ, gmul_assoc, gmul_assoc, gmul_left_comm (pw b n)]
def rp (a : Rat) : Nat → Rat
  | 0 => 1
  | n + 1 => rp a n * a
theorem rp_nn {a : Rat} (h : 0 ≤ a) : ∀ n, 0 ≤ rp a n
  | 0 => by show (0 : Rat) ≤ 1; decide
  | n + 1 => Rat.mul_nonneg (rp_nn h n) h
theorem nr_pw (a : GQ) : ∀ n, nr (pw a n) ≤ rp (nr a) n
  | 0 => by show nr 1 ≤ 1; rw [nr_one]; exact Rat.le_refl
  | n + 1 => Rat.le_trans (nr_mul _ _) (Rat.mul_le_mul_of_nonneg_right (nr_pw a n) (nr_nn a))
def sm (f : Nat → GQ) : Nat → GQ
  | 0 => 0
  | n + 1 => sm f n + f n
def rsm (f : Nat → Rat) : Nat → Rat
  | 0 => 0
  | n + 1 => rsm f n + f n
theorem sm_succ (f : Nat → GQ) (n : Nat) : sm f (n + 1) = sm f n + f n := rfl
theorem rsm_succ (f : Nat → Rat) (n : Nat) : rsm f (n + 1) = rsm f n + f n := rfl
theorem sm_congr {f g : Nat → GQ} : ∀ {n : Nat}, (∀ i, i < n → f i = g i) → sm f n = sm g n
  | 0, _ => rfl
  | n + 1, h => by rw [sm_succ, sm_succ, sm_congr fun i hi => h i (by omega), h n (by omega)]
theorem sm_zero : ∀ n, sm (fun _ => 0) n = 0
  | 0 => rfl
  | n + 1 => by rw [sm_succ, sm_zero n, gadd_zero]
theorem sm_all0 {f : Nat → GQ} {n : Nat} (h : ∀ i, i < n → f i = 0) : sm f n = 0 := by rw [sm_congr h, sm_zero]
theorem sm_add (f g : Nat → GQ) : ∀ n, sm (fun i => f i + g i) n = sm f n + sm g n
  | 0 => by show (0 : GQ) = 0 + 0; rw [gadd_zero]
  | n + 1 => by rw [sm_succ, sm_add f g n, sm_succ, sm_succ, gadd_assoc, gadd_assoc, gadd_left_comm (sm g n)]
theorem sm_mul (c : GQ) (f : Nat → GQ) : ∀ n, sm (fun i => c * f i) n = c * sm f n
  | 0 => by show (0 : GQ) = c * 0; rw [gmul_zero]
  | n + 1 => by rw [sm_succ, sm_mul c f n, sm_succ, gmul_add]
theorem sm_mul_right (c : GQ) (f : Nat → GQ) (n : Nat) : sm (fun i => f i * c) n = sm f n * c := by
  rw [gmul_comm, ← sm_mul]; exact sm_congr fun i _ => gmul_comm _ _
theorem sm_shift (f : Nat → GQ) : ∀ n, sm f (n + 1) = f 0 + sm (fun i => f (i + 1)) n
  | 0 => by show 0 + f 0 = f 0 + 0; rw [gzero_add, gadd_zero]
  | n + 1 => by rw [sm_succ, sm_shift f n, sm_succ, gadd_assoc]
theorem sm_swap (f : Nat → Nat → GQ) (m : Nat) : ∀ n, sm (fun i => sm (f i) m) n = sm (fun j => sm (fun i => f i j) n) m
  | 0 => by rw [show sm (fun i => sm (f i) m) 0 = 0 from rfl, show (fun j => sm (fun i => f i j) 0) = fun _ => 0 from rfl, sm_zero]
  | n + 1 => by rw [sm_succ, sm_swap f m n, ← sm_add]; rfl
theorem nr_sm (f : Nat → GQ) : ∀ n, nr (sm f n) ≤ rsm (fun i => nr (f i)) n
  | 0 => by show nr 0 ≤ 0; rw [nr_zero]; exact Rat.le_refl
  | n + 1 => by
    have h1 := nr_add (sm f n) (f n)
    have h2 := nr_sm f n
    rw [sm_succ, rsm_succ]; grind
theorem rsm_le {f g : Nat → Rat} : ∀ {n : Nat}, (∀ i, i < n → f i ≤ g i) → rsm f n ≤ rsm g n
  | 0, _ => Rat.le_refl
  | n + 1, h => by
    have h1 := rsm_le (n := n) fun i hi => h i (by omega)
    have h2 := h n (by omega)
    rw [rsm_succ, rsm_succ]; grind
theorem rsm_nn {f : Nat → Rat} {n : Nat} (h : ∀ i, i < n → 0 ≤ f i) : 0 ≤ rsm f n := by
  induction n with
  | zero => exact Rat.le_refl
  | succ n ih =>
    have := ih fun i hi => h i (by omega)
    have := h n (by omega)
    rw [rsm_succ]; grind
theorem rsm_const (c : Rat) : ∀ n : Nat, rsm (fun _ => c) n = (n : Rat) * c
  | 0 => by show (0 : Rat) = ((0 : Nat) : Rat) * c; rw [show ((0 : Nat) : Rat) = 0 from rfl, Rat.zero_mul]
  | n + 1 => by rw [rsm_succ, rsm_const c n, Rat.natCast_add, show ((1 : Nat) : Rat) = 1 from rfl, Rat.add_mul, Rat.one_mul]
theorem rsm_mul (c : Rat) (f : Nat → Rat) : ∀ n, rsm (fun i => c * f i) n = c * rsm f n
  | 0 => by show (0 : Rat) = c * 0; rw [Rat.mul_zero]
  | n + 1 => by rw [rsm_succ, rsm_mul c f n, rsm_succ, Rat.mul_add]
def gn (n : Nat) : GQ := q (n : Rat)
theorem gn_add (a b : Nat) : gn (a + b) = gn a + gn b := by
  unfold gn; apply GQ.ext' <;> simp only [add_re, add_im, q_re, q_im, Rat.natCast_add] <;> grind
theorem gn_mul (a b : Nat) : gn (a * b) = gn a * gn b := by
  unfold gn; apply GQ.ext' <;> simp only [mul_re, mul_im, q_re, q_im, Rat.natCast_mul] <;> grind
theorem gn_zero : gn 0 = 0 := rfl
theorem gn_one : gn 1 = 1 := rfl
theorem gn_inj {a b : Nat} (h : gn a = gn b) : a = b := by
  have : (gn a).re = (gn b).re := by rw [h]
  exact Rat.natCast_inj.1 this
theorem gn_ne {a : Nat} (h : a ≠ 0) : gn a ≠ 0 := fun e => h (gn_inj (e.trans gn_zero.symm))
/-- one node taken out -/
def del (c : GQ) (u : Nat → GQ) : Nat → GQ := fun j => u (j + 1) - c * u j
/-- the powers of a node, and what is one taken out of the next -/
def ee (c : GQ) : Nat → Nat → GQ
  | 0, j => pw c j
  | _ + 1, 0 => 0
  | i + 1, j + 1 => c * ee c (i + 1) j + ee c i j
theorem del_ee0 (c : GQ) : ∀ j, del c (ee c 0) j = 0 := fun j => by
  show ee c 0 (j + 1) - c * ee c 0 j = 0
  rw [show ee c 0 (j + 1) = pw c j * c by unfold ee; rfl, show ee c 0 j = pw c j by unfold ee; rfl, gmul_comm, gsub_self]
theorem del_ee (c : GQ) (i : Nat) : ∀ j, del c (ee c (i + 1)) j = ee c i j := fun j => by
  show ee c (i + 1) (j + 1) - c * ee c (i + 1) j = ee c i j
  rw [show ee c (i + 1) (j + 1) = c * ee c (i + 1) j + ee c i j by rw [ee], gadd_comm, gadd_sub_cancel]
theorem ee_zero (c : GQ) : ee c 0 0 = 1 := by rw [ee]; rfl
theorem ee_succ (c : GQ) (i : Nat) : ee c (i + 1) 0 = 0 := by rw [ee]
theorem del_del (c d : GQ) (u : Nat → GQ) (j : Nat) : del c u j = del d u j + (d - c) * u j := by
  unfold del
  apply GQ.ext' <;> simp only [add_re, add_im, sub_re, sub_im, mul_re, mul_im] <;> grind
def dR (d : GQ) (r : Nat → GQ) : Nat → GQ := fun i => d * r i + r (i + 1)
def dC (l : Nat) (c : Nat → Nat → GQ) : Nat → Nat → GQ := fun k => dR (gn k - gn l) (c k)
/-- the sequence of one row -/
def rw1 (k n : Nat) (r : Nat → GQ) : Nat → GQ := fun j => sm (fun i => r i * ee (gn k) i j) n
/-- the sequence of rows 0 to m -/
def rep (m n : Nat) (c : Nat → Nat → GQ) : Nat → GQ := fun j => sm (fun k => rw1 k n (c k) j) (m + 1)
theorem del_rw1 (l : GQ) (k n : Nat) (r : Nat → GQ) (h : r n = 0) (j : Nat) : del l (rw1 k n r) j = rw1 k n (dR (gn k - l) r) j := by
  have e1 : del l (rw1 k n r) j = sm (fun i => r i * del l (ee (gn k) i) j) n := by
    show sm (fun i => r i * ee (gn k) i (j + 1)) n - l * sm (fun i => r i * ee (gn k) i j) n = _
    rw [← sm_mul, gsub_def, gneg_eq, ← gsub_self (sm (fun i => l * (r i * ee (gn k) i j)) n)]
    have : sm (fun i => r i * ee (gn k) i (j + 1)) n = sm (fun i => r i * del l (ee (gn k) i) j) n + sm (fun i => l * (r i * ee (gn k) i j)) n := by
      rw [← sm_add]
      refine sm_congr fun i _ => ?_
      unfold del
      apply GQ.ext' <;> simp only [add_re, add_im, sub_re, sub_im, mul_re, mul_im] <;> grind
    rw [this]
    apply GQ.ext' <;> simp only [add_re, add_im, sub_re, sub_im] <;> grind
  rw [e1]
  show _ = sm (fun i => ((gn k - l) * r i + r (i + 1)) * ee (gn k) i j) n
  have e2 : sm (fun i => r i * del l (ee (gn k) i) j) n = sm (fun i => r i * del (gn k) (ee (gn k) i) j) n + sm (fun i => (gn k - l) * r i * ee (gn k) i j) n := by
    rw [← sm_add]
    refine sm_congr fun i _ => ?_
    rw [del_del l (gn k), gmul_add, gmul_comm (gn k - l) (r i), gmul_assoc]
  have e3 : ∀ n, r n = 0 → sm (fun i => r i * del (gn k) (ee (gn k) i) j) n = sm (fun i => r (i + 1) * ee (gn k) i j) n := by
    intro n hn
    cases n with
    | zero => rfl
    | succ n =>
      rw [sm_shift, del_ee0, gmul_zero, gzero_add, sm_succ, hn, gzero_mul, gadd_zero]
      exact sm_congr fun i _ => by rw [del_ee]
  rw [e2, e3 n h, ← sm_add]
  refine sm_congr fun i _ => ?_
  rw [gadd_mul, gadd_comm]
theorem del_rep (m n l : Nat) (c : Nat → Nat → GQ) (h : ∀ k, c k n = 0) (j : Nat) : del (gn l) (rep m n c) j = rep m n (dC l c) j := by
  have : del (gn l) (rep m n c) j = sm (fun k => del (gn l) (rw1 k n (c k)) j) (m + 1) := by
    show sm (fun k => rw1 k n (c k) (j + 1)) (m + 1) - gn l * sm (fun k => rw1 k n (c k) j) (m + 1) = _
    have e : sm (fun k => rw1 k n (c k) (j + 1)) (m + 1) = sm (fun k => del (gn l) (rw1 k n (c k)) j) (m + 1) + sm (fun k => gn l * rw1 k n (c k) j) (m + 1) := by
      rw [← sm_add]
      refine sm_congr fun k _ => ?_
      unfold del; rw [gsub_add_cancel]
    rw [e, sm_mul, gadd_sub_cancel]
  rw [this]
  exact sm_congr fun k _ => del_rw1 _ _ _ _ (h k) j
/-- coefficients only below n -/
def Sup (n : Nat) (r : Nat → GQ) : Prop := ∀ i, n ≤ i → r i = 0
theorem Sup.dR {n : Nat} {r : Nat → GQ} (h : Sup n r) (d : GQ) : Sup n (dR d r) := fun i hi => by
  show d * r i + r (i + 1) = 0
  rw [h i hi, h (i + 1) (by omega), gmul_zero, gadd_zero]
theorem Sup.mono {n k : Nat} {r : Nat → GQ} (h : Sup n r) (hk : n ≤ k) : Sup k r := fun i hi => h i (by omega)
theorem Sup.dR0 {n : Nat} {r : Nat → GQ} (h : Sup (n + 1) r) : Sup n (P.dR 0 r) := fun i hi => by
  show 0 * r i + r (i + 1) = 0
  rw [h (i + 1) (by omega), gzero_mul, gadd_zero]
theorem dR_top {n : Nat} {r : Nat → GQ} (h : Sup (n + 1) r) (d : GQ) : dR d r n = d * r n := by
  show d * r n + r (n + 1) = _
  rw [h (n + 1) (by omega), gadd_zero]
def dels : List Nat → (Nat → GQ) → Nat → GQ
  | [], u => u
  | l :: ls, u => dels ls (del (gn l) u)
def dCs : List Nat → (Nat → Nat → GQ) → Nat → Nat → GQ
  | [], c => c
  | l :: ls, c => dCs ls (dC l c)
theorem dels_congr : ∀ (ls : List Nat) {u v : Nat → GQ}, (∀ j, u j = v j) → ∀ j, dels ls u j = dels ls v j
  | [], _, _, h, j => h j
  | l :: ls, u, v, h, j => dels_congr ls (fun i => by unfold del; rw [h, h]) j
theorem dCs_sup {n : Nat} : ∀ (ls : List Nat) {c : Nat → Nat → GQ}, (∀ k, Sup n (c k)) → ∀ k, Sup n (dCs ls c k)
  | [], _, h => h
  | l :: ls, c, h => dCs_sup ls fun k => (h k).dR _
theorem dels_rep (m n : Nat) : ∀ (ls : List Nat) (c : Nat → Nat → GQ), (∀ k, Sup n (c k)) → ∀ j, dels ls (rep m n c) j = rep m n (dCs ls c) j
  | [], _, _, _ => rfl
  | l :: ls, c, h, j => by
    show dels ls (del (gn l) (rep m n c)) j = rep m n (dCs ls (dC l c)) j
    rw [dels_congr ls (del_rep m n l c fun k => h k n (by omega))]
    exact dels_rep m n ls _ (fun k => (h k).dR _) j
/-- nothing below J: nothing below J less the nodes that are taken out -/
theorem dels_zero : ∀ (ls : List Nat) {u : Nat → GQ} {J : Nat}, (∀ j, j < J → u j = 0) → ∀ j, j + ls.length < J → dels ls u j = 0
  | [], _, _, h, j, hj => h j hj
  | l :: ls, u, J, h, j, hj => by
    refine dels_zero ls (u := del (gn l) u) (J := J - 1) (fun i hi => ?_) j (by simp only [List.length_cons] at hj; omega)
    unfold del
    rw [h i (by omega), h (i + 1) (by omega), gmul_zero, gsub_zero]
theorem dels_lead : ∀ (ls : List Nat) {u : Nat → GQ} {J : Nat} {x : GQ}, (∀ j, j < J → u j = 0) → u J = x → ∀ j, j + ls.length = J → dels ls u j = x
  | [], _, _, _, _, e, j, hj => by
    simp only [List.length_nil, Nat.add_zero] at hj
    subst hj
    exact e
  | l :: ls, u, J, x, h, e, j, hj => by
    simp only [List.length_cons] at hj
    refine dels_lead ls (u := del (gn l) u) (J := J - 1) (x := x) (fun i hi => ?_) ?_ j (by omega)
    · unfold del
      rw [h i (by omega), h (i + 1) (by omega), gmul_zero, gsub_zero]
    · unfold del
      rw [show J - 1 + 1 = J by omega, e, h (J - 1) (by omega), gmul_zero, gsub_zero]
/-- row k behind all that is taken out -/
def rowd (k : Nat) : List Nat → (Nat → GQ) → Nat → GQ
  | [], r => r
  | l :: ls, r => rowd k ls (dR (gn k - gn l) r)
theorem dCs_row (k : Nat) : ∀ (ls : List Nat) (c : Nat → Nat → GQ), dCs ls c k = rowd k ls (c k)
  | [], _ => rfl
  | l :: ls, c => dCs_row k ls (dC l c)
/-- its own node, taken out so often -/
theorem rowd_own (k : Nat) : ∀ (ls : List Nat) {n : Nat} {r : Nat → GQ}, Sup n r → Sup (n - ls.count k) (rowd k ls r)
  | [], _, _, h => h
  | l :: ls, n, r, h => by
    show Sup _ (rowd k ls (dR (gn k - gn l) r))
    by_cases e : l = k
    · subst e
      rw [gsub_self, List.count_cons_self]
      cases n with
      | zero => exact (rowd_own l ls (n := 0) (h.dR _)).mono (by omega)
      | succ n =>
        have := rowd_own l ls h.dR0
        exact this.mono (by omega)
    · rw [List.count_cons_of_ne e]
      exact rowd_own k ls (h.dR _)
/-- the factor by which others' nodes turn the highest coefficient -/
def fac (k : Nat) : List Nat → GQ
  | [] => 1
  | l :: ls => (gn k - gn l) * fac k ls
theorem fac_ne (k : Nat) : ∀ (ls : List Nat), k ∉ ls → fac k ls ≠ 0
  | [], _ => gone_ne
  | l :: ls, h => fun e => by
    rcases gmul_eq_zero e with e | e
    · exact h (by rw [gn_inj (gsub_eq.1 e)]; exact List.mem_cons_self)
    · exact fac_ne k ls (fun hm => h (List.mem_cons_of_mem _ hm)) e
theorem rowd_top (k : Nat) : ∀ (ls : List Nat) {n : Nat} {r : Nat → GQ}, Sup (n + 1) r → rowd k ls r n = fac k ls * r n
  | [], _, _, _ => by show _ = 1 * _; rw [gone_mul]; rfl
  | l :: ls, n, r, h => by
    show rowd k ls (dR (gn k - gn l) r) n = (gn k - gn l) * fac k ls * r n
    rw [rowd_top k ls (h.dR _), dR_top h, ← gmul_assoc, gmul_comm (fac k ls)]
/-- all nodes but k up to m, each n times -/
def oth (m n k : Nat) : List Nat := ((List.range (m + 1)).filter (· != k)).flatMap fun l => List.replicate n l
theorem oth_count {m n k l : Nat} (h : l ≤ m) (hk : l ≠ k) : n ≤ (oth m n k).count l := by
  unfold oth
  rw [List.count_flatMap]
  have hm : l ∈ (List.range (m + 1)).filter (· != k) := by
    rw [List.mem_filter]; exact ⟨List.mem_range.2 (by omega), by simp [hk]⟩
  obtain ⟨a, b, e⟩ := List.append_of_mem hm
  rw [e]
  simp
  omega
theorem oth_not (m n k : Nat) : k ∉ oth m n k := by
  unfold oth
  intro h
  rw [List.mem_flatMap] at h
  obtain ⟨l, h1, h2⟩ := h
  rw [List.mem_filter] at h1
  have := (List.mem_replicate.1 h2).2
  subst this
  simp at h1
theorem oth_length {m n k : Nat} (h : k ≤ m) : (oth m n k).length = m * n := by
  unfold oth
  rw [List.length_flatMap]
  have : ((List.range (m + 1)).filter (· != k)).length = m := by
    rw [← List.countP_eq_length_filter]
    have h1 := List.length_eq_countP_add_countP (l := List.range (m + 1)) (p := fun x => x != k)
    have h2 : List.countP (fun x => decide ¬(x != k) = true) (List.range (m + 1)) = List.count k (List.range (m + 1)) := by
      unfold List.count
      refine List.countP_congr fun x _ => ?_
      simp
    have h3 : List.count k (List.range (m + 1)) = 1 := by
      have a1 := List.nodup_iff_count.1 (List.nodup_range (n := m + 1)) k
      have a2 : 0 < List.count k (List.range (m + 1)) := List.count_pos_iff.2 (List.mem_range.2 (by omega))
      omega
    rw [h2, h3, List.length_range] at h1
    omega
  have e : ((List.range (m + 1)).filter (· != k)).map (fun l => (List.replicate n l).length) = List.replicate m n := by
    rw [List.eq_replicate_iff]
    refine ⟨by rw [List.length_map, this], fun b hb => ?_⟩
    obtain ⟨x, _, rfl⟩ := List.mem_map.1 hb
    rw [List.length_replicate]
  rw [e]
  simp
theorem rowd_append (k : Nat) : ∀ (a b : List Nat) (r : Nat → GQ), rowd k (a ++ b) r = rowd k b (rowd k a r)
  | [], _, _ => rfl
  | l :: a, b, r => rowd_append k a b _
theorem rowd_rep (k : Nat) : ∀ (i : Nat) (r : Nat → GQ) (j : Nat), rowd k (List.replicate i k) r j = r (j + i)
  | 0, _, _ => rfl
  | i + 1, r, j => by
    show rowd k (List.replicate i k) (dR (gn k - gn k) r) j = _
    rw [rowd_rep k i]
    show (gn k - gn k) * r (j + i) + r (j + i + 1) = _
    rw [gsub_self, gzero_mul, gzero_add]; rfl
theorem ee_below (c : GQ) : ∀ (i j : Nat), j < i → ee c i j = 0
  | 0, _, h => by omega
  | i + 1, 0, _ => ee_succ c i
  | i + 1, j + 1, h => by rw [ee, ee_below c (i + 1) j (by omega), ee_below c i j (by omega), gmul_zero, gadd_zero]
theorem ee_same (c : GQ) : ∀ i, ee c i i = 1
  | 0 => ee_zero c
  | i + 1 => by rw [ee, ee_below c (i + 1) i (by omega), ee_same c i, gmul_zero, gzero_add]
theorem sm_one {f : Nat → GQ} {n p : Nat} (hp : p < n) (h : ∀ i, i < n → i ≠ p → f i = 0) : sm f n = f p := by
  induction n with
  | zero => omega
  | succ n ih =>
    rw [sm_succ]
    by_cases e : p = n
    · subst e
      rw [sm_all0 (fun i hi => h i (by omega) (by omega)), gzero_add]
    · rw [ih (by omega) (fun i hi => h i (by omega)), h n (by omega) (by omega), gadd_zero]
theorem rw1_zero {k n : Nat} {r : Nat → GQ} (h : ∀ i, i < n → r i = 0) (j : Nat) : rw1 k n r j = 0 := sm_all0 fun i hi => by rw [h i hi, gzero_mul]
theorem rw1_at0 {k n : Nat} {r : Nat → GQ} (h : 0 < n) : rw1 k n r 0 = r 0 := by
  unfold rw1
  rw [sm_one (p := 0) h (fun i hi h0 => by rw [ee_below _ i 0 (by omega), gmul_zero]), ee_zero, gmul_one]
theorem zero_row {n k : Nat} {ls : List Nat} {c : Nat → Nat → GQ} (hs : Sup n (c k)) (h : n ≤ ls.count k) : ∀ i, dCs ls c k i = 0 := fun i => by
  rw [dCs_row]
  exact rowd_own k ls hs i (by omega)
/-- so few rows can't vanish so far -/
theorem indep {m n : Nat} {c : Nat → Nat → GQ} (hs : ∀ k, Sup n (c k)) (h : ∀ j, j < (m + 1) * n → rep m n c j = 0) {k : Nat} (hk : k ≤ m) : ∀ i, c k i = 0 := by
  have key : ∀ d, d ≤ n → Sup (n - d) (c k) := by
    intro d
    induction d with
    | zero => intro _; exact hs k
    | succ d ih =>
      intro hd
      have h0 := ih (by omega)
      obtain ⟨i, hi⟩ : ∃ i, n - d = i + 1 := ⟨n - d - 1, by omega⟩
      rw [hi] at h0
      rw [show n - (d + 1) = i by omega]
      have hlen : (oth m n k ++ List.replicate i k).length = m * n + i := by rw [List.length_append, oth_length hk, List.length_replicate]
      have hz : dels (oth m n k ++ List.replicate i k) (rep m n c) 0 = 0 := dels_zero _ h 0 (by rw [hlen, Nat.add_mul]; omega)
      rw [dels_rep m n _ c hs] at hz
      have hrow : rep m n (dCs (oth m n k ++ List.replicate i k) c) 0 = fac k (oth m n k) * c k i := by
        unfold rep
        rw [sm_one (p := k) (by omega) (fun l hl hne => rw1_zero (fun i' _ => by
          refine zero_row (hs l) ?_ i'
          rw [List.count_append]
          have := oth_count (m := m) (n := n) (k := k) (l := l) (by omega) hne
          omega) 0), rw1_at0 (by omega), dCs_row, rowd_append, rowd_rep, Nat.zero_add, rowd_top k _ h0]
      rw [hrow] at hz
      have hc : c k i = 0 := by
        rcases gmul_eq_zero hz with e | e
        · exact absurd e (fac_ne k _ (oth_not m n k))
        · exact e
      intro i' hi'
      by_cases e : i' = i
      · rw [e]; exact hc
      · exact h0 i' (by omega)
  intro i
  have := key n (Nat.le_refl _)
  exact this i (by omega)
theorem sm_put {f : Nat → GQ} {x : GQ} {p : Nat} : ∀ {n : Nat}, p < n → sm (fun s => if s = p then x else f s) n + f p = sm f n + x
  | 0, h => by omega
  | n + 1, h => by
    rw [sm_succ, sm_succ]
    by_cases e : p = n
    · subst e
      rw [if_pos rfl, sm_congr (g := f) (fun i hi => if_neg (by omega)), gadd_assoc, gadd_assoc, gadd_comm x]
    · rw [if_neg (by omega), gadd_assoc, gadd_comm (f n), ← gadd_assoc, sm_put (by omega), gadd_assoc, gadd_assoc, gadd_comm x]
theorem dep : ∀ (m : Nat) (r : Nat → Nat → GQ), ∃ w : Nat → GQ, (∃ s, s ≤ m ∧ w s ≠ 0) ∧ ∀ k, k < m → sm (fun s => w s * r s k) (m + 1) = 0
  | 0, _ => ⟨fun _ => 1, ⟨0, Nat.le_refl _, gone_ne⟩, fun k hk => by omega⟩
  | m + 1, r => by
    by_cases hA : ∀ s, s ≤ m → r s m = 0
    · obtain ⟨w, ⟨s, hs, hw⟩, h⟩ := dep m r
      refine ⟨fun s => if s = m + 1 then 0 else w s, ⟨s, by omega, by show (if s = m + 1 then 0 else w s) ≠ 0; rw [if_neg (by omega)]; exact hw⟩, fun k hk => ?_⟩
      have e0 : (fun s => if s = m + 1 then 0 else w s) (m + 1) = 0 := if_pos rfl
      rw [sm_succ, e0, gzero_mul, gadd_zero, sm_congr (g := fun s => w s * r s k) fun i hi => by
        show (if i = m + 1 then 0 else w i) * _ = _
        rw [if_neg (by omega)]]
      by_cases e : k = m
      · subst e
        exact sm_all0 fun i hi => by rw [hA i (by omega), gmul_zero]
      · exact h k (by omega)
    · have hA : ∃ p, p ≤ m ∧ r p m ≠ 0 := by
        refine Classical.byContradiction fun hn => hA fun s hs => Classical.byContradiction fun h0 => hn ⟨s, hs, h0⟩
      obtain ⟨p, hp, hne⟩ := hA
      let σ : Nat → Nat := fun s => if s = p then m + 1 else s
      let t : Nat → GQ := fun s => (r p m).inv * r (σ s) m
      obtain ⟨w, ⟨s, hs, hw⟩, h⟩ := dep m fun s k => r (σ s) k - t s * r p k
      let x := sm (fun s => w s * t s) (m + 1)
      let W : Nat → GQ := fun s => if s = p then -x else if s = m + 1 then w p else w s
      have hsum : ∀ k, sm (fun s => W s * r s k) (m + 1 + 1) = sm (fun s => w s * (r (σ s) k - t s * r p k)) (m + 1) := by
        intro k
        have e1 : W p * r p k = -(x * r p k) := by
          show (if p = p then -x else _) * _ = _
          rw [if_pos rfl, gneg_mul]
        have e2 : W (m + 1) = w p := by
          show (if m + 1 = p then -x else if m + 1 = m + 1 then w p else w (m + 1)) = _
          rw [if_neg (by omega), if_pos rfl]
        have e3 : sm (fun s => w s * (r (σ s) k - t s * r p k)) (m + 1) = sm (fun s => w s * r (σ s) k) (m + 1) + -(x * r p k) := by
          rw [← gsub_def]
          have : sm (fun s => w s * r (σ s) k) (m + 1) = sm (fun s => w s * (r (σ s) k - t s * r p k)) (m + 1) + x * r p k := by
            show _ = _ + sm (fun s => w s * t s) (m + 1) * _
            rw [← sm_mul_right, ← sm_add]
            refine sm_congr fun i _ => ?_
            rw [gmul_sub, ← gmul_assoc (w i) (t i), gsub_add_cancel]
          rw [this, gadd_sub_cancel]
        have e4 := sm_put (f := fun s => W s * r s k) (x := W (m + 1) * r (m + 1) k) (p := p) (n := m + 1) (by omega)
        rw [sm_succ, ← e4]
        show _ + W p * r p k = _
        rw [e1, e3]
        congr 1
        refine sm_congr fun i hi => ?_
        by_cases e : i = p
        · subst e
          rw [if_pos rfl, e2]
          show _ = w i * r (if i = i then m + 1 else i) k
          rw [if_pos rfl]
        · rw [if_neg e]
          show (if i = p then -x else if i = m + 1 then w p else w i) * r i k = w i * r (if i = p then m + 1 else i) k
          rw [if_neg e, if_neg (by omega), if_neg e]
      refine ⟨W, ?_, fun k hk => ?_⟩
      · by_cases e : s = p
        · refine ⟨m + 1, Nat.le_refl _, ?_⟩
          show (if m + 1 = p then -x else if m + 1 = m + 1 then w p else w (m + 1)) ≠ 0
          rw [if_neg (by omega), if_pos rfl, ← e]; exact hw
        · refine ⟨s, by omega, ?_⟩
          show (if s = p then -x else if s = m + 1 then w p else w s) ≠ 0
          rw [if_neg e, if_neg (by omega)]; exact hw
      · rw [hsum]
        by_cases e : k = m
        · subst e
          refine sm_all0 fun i hi => ?_
          show w i * (r (σ i) k - (r p k).inv * r (σ i) k * r p k) = 0
          rw [gmul_comm ((r p k).inv * r (σ i) k), gmul_left_comm, ← gmul_assoc, ginv_mul hne, gone_mul]
          rw [gsub_self, gmul_zero]
        · exact h k (by omega)
def tk (c : Nat) (v : Nat → Nat) : Nat → Nat
  | 0 => 0
  | j + 1 => c * tk c v j + v j
def hn (c0 : Nat) : List Nat → Nat → Nat
  | [], j => c0 ^ j
  | c :: cs, j => tk c (hn c0 cs) j
def hs (c0 : Nat) (cs : List Nat) (j : Nat) : GQ := gn (hn c0 cs j)
theorem hn_zero (c0 : Nat) : ∀ (cs : List Nat) (j : Nat), j < cs.length → hn c0 cs j = 0
  | [], _, h => by simp at h
  | c :: cs, 0, _ => rfl
  | c :: cs, j + 1, h => by
    show c * hn c0 (c :: cs) j + hn c0 cs j = 0
    rw [hn_zero c0 (c :: cs) j (by omega), hn_zero c0 cs j (by simp at h; omega)]; simp
theorem hn_lead (c0 : Nat) : ∀ (cs : List Nat), hn c0 cs cs.length = 1
  | [] => rfl
  | c :: cs => by
    show c * hn c0 (c :: cs) cs.length + hn c0 cs cs.length = 1
    rw [hn_zero c0 (c :: cs) _ (by simp), hn_lead c0 cs, Nat.mul_zero]
theorem hn_bound {m : Nat} (hm : 0 < m) (c0 : Nat) (h0 : c0 ≤ m) : ∀ (cs : List Nat), (∀ c ∈ cs, c ≤ m) → ∀ j, hn c0 cs j * m ^ cs.length ≤ (2 * m) ^ j
  | [], _, j => by
    show c0 ^ j * 1 ≤ _
    rw [Nat.mul_one]
    exact Nat.pow_le_pow_left (by omega) j
  | c :: cs, h, 0 => by show 0 * _ ≤ _; simp
  | c :: cs, h, j + 1 => by
    have h1 := hn_bound hm c0 h0 (c :: cs) h j
    have h2 := hn_bound hm c0 h0 cs (fun x hx => h x (List.mem_cons_of_mem _ hx)) j
    have h3 : c ≤ m := h c List.mem_cons_self
    show (c * hn c0 (c :: cs) j + hn c0 cs j) * m ^ (cs.length + 1) ≤ (2 * m) ^ (j + 1)
    have e1 : c * hn c0 (c :: cs) j * m ^ (cs.length + 1) ≤ m * (2 * m) ^ j := by
      rw [Nat.mul_assoc]
      exact Nat.mul_le_mul h3 h1
    have e2 : hn c0 cs j * m ^ (cs.length + 1) ≤ m * (2 * m) ^ j := by
      rw [Nat.pow_succ, ← Nat.mul_assoc, Nat.mul_comm m]
      exact Nat.mul_le_mul_right _ h2
    rw [Nat.add_mul, Nat.pow_succ (2 * m)]
    have e3 : (2 * m) ^ j * (2 * m) = m * (2 * m) ^ j + m * (2 * m) ^ j := by
      rw [← Nat.mul_assoc, Nat.mul_comm _ 2, Nat.mul_assoc, Nat.mul_comm _ m]; omega
    omega
theorem del_hs (c0 c : Nat) (cs : List Nat) (j : Nat) : del (gn c) (hs c0 (c :: cs)) j = hs c0 cs j := by
  show gn (c * hn c0 (c :: cs) j + hn c0 cs j) - gn c * gn (hn c0 (c :: cs) j) = gn (hn c0 cs j)
  rw [gn_add, gn_mul, gadd_comm, gadd_sub_cancel]
theorem dels_hs (c0 : Nat) : ∀ (a b : List Nat) (j : Nat), dels a (hs c0 (a ++ b)) j = hs c0 b j
  | [], _, _ => rfl
  | c :: a, b, j => by
    show dels a (del (gn c) (hs c0 (c :: (a ++ b)))) j = _
    rw [dels_congr a (del_hs c0 c (a ++ b))]
    exact dels_hs c0 a b j
theorem pw_gn (c : Nat) : ∀ j, pw (gn c) j = gn (c ^ j)
  | 0 => rfl
  | j + 1 => by rw [pw_succ, pw_gn c j, Nat.pow_succ, gn_mul]
theorem row_div {d : GQ} (hd : d ≠ 0) : ∀ (n : Nat) {r : Nat → GQ}, Sup n r → ∃ t : Nat → GQ, Sup n t ∧ ∀ i, dR d t i = r i
  | 0, r, h => ⟨fun _ => 0, fun _ _ => rfl, fun i => by
    show d * 0 + 0 = r i
    rw [gmul_zero, gadd_zero, h i (by omega)]⟩
  | n + 1, r, h => by
    obtain ⟨t, ht, e⟩ := row_div hd n (r := fun i => r (i + 1)) fun i hi => h (i + 1) (by omega)
    refine ⟨fun i => match i with | 0 => d.inv * (r 0 - t 0) | i + 1 => t i, fun i hi => ?_, fun i => ?_⟩
    · cases i with
      | zero => omega
      | succ i => exact ht i (by omega)
    · cases i with
      | zero =>
        show d * (d.inv * (r 0 - t 0)) + t 0 = r 0
        rw [← gmul_assoc, gmul_comm d, ginv_mul hd, gone_mul, gsub_add_cancel]
      | succ i => exact e i
theorem rep_at0 {m n : Nat} (hn : 0 < n) (c : Nat → Nat → GQ) : rep m n c 0 = sm (fun k => c k 0) (m + 1) := sm_congr fun k _ => rw1_at0 hn
theorem rows (m n c0 : Nat) (h0 : c0 ≤ m) : ∀ (cs : List Nat), (∀ c ∈ cs, c ≤ m) → (∀ k, (c0 :: cs).count k ≤ n) → ∃ c : Nat → Nat → GQ, (∀ k, Sup ((c0 :: cs).count k) (c k)) ∧ ∀ j, rep m n c j = hs c0 cs j
  | [], _, hc => by
    have hn0 : 0 < n := by
      have := hc c0
      rw [List.count_cons_self] at this; omega
    refine ⟨fun k i => if k = c0 ∧ i = 0 then 1 else 0, fun k i hi => ?_, fun j => ?_⟩
    · show (if k = c0 ∧ i = 0 then (1 : GQ) else 0) = 0
      refine if_neg fun ⟨e, ei⟩ => ?_
      subst e; subst ei
      rw [List.count_cons_self] at hi; omega
    · unfold rep
      rw [sm_one (p := c0) (by omega) fun k _ hne => rw1_zero (fun i _ => if_neg fun h => hne h.1) j]
      unfold rw1
      rw [sm_one (p := 0) hn0 fun i _ hne => by
        show (if c0 = c0 ∧ i = 0 then (1 : GQ) else 0) * _ = 0
        rw [if_neg fun h => hne h.2, gzero_mul]]
      show (if c0 = c0 ∧ 0 = 0 then (1 : GQ) else 0) * ee (gn c0) 0 j = gn (c0 ^ j)
      rw [if_pos ⟨rfl, rfl⟩, gone_mul, ee, pw_gn]
  | l :: cs, hm, hc => by
    have hcnt : ∀ k, (c0 :: cs).count k ≤ (c0 :: l :: cs).count k := fun k => by
      simp only [List.count_cons]; omega
    have hl : (c0 :: l :: cs).count l = (c0 :: cs).count l + 1 := by
      simp only [List.count_cons, beq_self_eq_true, if_true]; omega
    obtain ⟨c, h1, h2⟩ := rows m n c0 h0 cs (fun x hx => hm x (List.mem_cons_of_mem _ hx)) fun k => Nat.le_trans (hcnt k) (hc k)
    have hlm : l ≤ m := hm l List.mem_cons_self
    have hn0 : 0 < n := by
      have := hc l
      omega
    have hrow : ∀ k, ∃ t : Nat → GQ, k ≠ l → Sup ((c0 :: cs).count k) t ∧ ∀ i, dR (gn k - gn l) t i = c k i := fun k => by
      by_cases e : k = l
      · exact ⟨fun _ => 0, fun h => absurd e h⟩
      · obtain ⟨t, a, b⟩ := row_div (d := gn k - gn l) (fun h => e (gn_inj (gsub_eq.1 h))) _ (h1 k)
        exact ⟨t, fun _ => ⟨a, b⟩⟩
    let t : Nat → Nat → GQ := fun k => Classical.choose (hrow k)
    have ht : ∀ k, k ≠ l → Sup ((c0 :: cs).count k) (t k) ∧ ∀ i, dR (gn k - gn l) (t k) i = c k i := fun k => Classical.choose_spec (hrow k)
    let x : GQ := -(sm (fun k => if k = l then 0 else t k 0) (m + 1))
    let C : Nat → Nat → GQ := fun k => if k = l then (fun i => match i with | 0 => x | i + 1 => c l i) else t k
    have hCl : C l = fun i => match i with | 0 => x | i + 1 => c l i := if_pos rfl
    have hCk : ∀ k, k ≠ l → C k = t k := fun k h => if_neg h
    have hsup : ∀ k, Sup ((c0 :: l :: cs).count k) (C k) := fun k => by
      by_cases e : k = l
      · subst e
        rw [hCl, hl]
        intro i hi
        cases i with
        | zero => omega
        | succ i => exact h1 k i (by omega)
      · rw [hCk k e]
        exact (ht k e).1.mono (hcnt k)
    refine ⟨C, hsup, fun j => ?_⟩
    have hz : rep m n C 0 = 0 := by
      rw [rep_at0 hn0]
      have e := sm_put (f := fun k => if k = l then 0 else t k 0) (x := x) (p := l) (n := m + 1) (by omega)
      have e2 : sm (fun s => if s = l then x else (fun k => if k = l then 0 else t k 0) s) (m + 1) = sm (fun k => C k 0) (m + 1) := sm_congr fun i _ => by
        by_cases h : i = l
        · subst h
          rw [if_pos rfl, hCl]
        · rw [if_neg h, hCk i h]
          exact if_neg h
      rw [e2] at e
      rw [show (if l = l then (0 : GQ) else t l 0) = 0 from if_pos rfl, gadd_zero] at e
      rw [e]
      show _ + -_ = 0
      rw [← gsub_def, gsub_self]
    have hd : ∀ j, del (gn l) (rep m n C) j = hs c0 cs j := fun j => by
      rw [del_rep m n l C (fun k => hsup k n (hc k)), ← h2]
      refine sm_congr fun k _ => sm_congr fun i _ => ?_
      congr 1
      by_cases e : k = l
      · subst e
        show (gn k - gn k) * C k i + C k (i + 1) = c k i
        rw [hCl, gsub_self, gzero_mul, gzero_add]
      · show dR (gn k - gn l) (C k) i = c k i
        rw [hCk k e]
        exact (ht k e).2 i
    induction j with
    | zero => exact hz
    | succ j ih =>
      have e : rep m n C (j + 1) = del (gn l) (rep m n C) j + gn l * rep m n C j := by unfold del; rw [gsub_add_cancel]
      rw [e, hd, ih]
      show gn (hn c0 cs j) + gn l * gn (hn c0 (l :: cs) j) = gn (l * hn c0 (l :: cs) j + hn c0 cs j)
      rw [gn_add, gn_mul, gadd_comm]
def lap (m : Nat) : Nat → List Nat
  | 0 => []
  | n + 1 => List.range (m + 1) ++ lap m n
def nodes (m n : Nat) : List Nat := List.range m ++ lap m n
theorem range_count (m k : Nat) : (List.range m).count k = if k < m then 1 else 0 := by
  have a1 := List.nodup_iff_count.1 (List.nodup_range (n := m)) k
  split
  · rename_i h
    have a2 : 0 < List.count k (List.range m) := List.count_pos_iff.2 (List.mem_range.2 h)
    omega
  · rename_i h
    exact List.count_eq_zero.2 fun hm => h (List.mem_range.1 hm)
theorem lap_count (m k : Nat) : ∀ n, (lap m n).count k = if k ≤ m then n else 0
  | 0 => by show List.count k [] = _; simp
  | n + 1 => by
    show (List.range (m + 1) ++ lap m n).count k = _
    rw [List.count_append, range_count, lap_count m k n]
    by_cases h : k ≤ m
    · rw [if_pos (by omega), if_pos h, if_pos h]; omega
    · rw [if_neg (by omega), if_neg h, if_neg h]
theorem lap_length (m : Nat) : ∀ n, (lap m n).length = (m + 1) * n
  | 0 => rfl
  | n + 1 => by
    show (List.range (m + 1) ++ lap m n).length = _
    rw [List.length_append, List.length_range, lap_length m n, Nat.mul_add]; omega
theorem nodes_length (m n : Nat) : (nodes m n).length + 1 = (m + 1) * (n + 1) := by
  unfold nodes
  rw [List.length_append, List.length_range, lap_length, Nat.mul_add]; omega
theorem nodes_count (m n k : Nat) : (m :: nodes m n).count k ≤ n + 1 := by
  unfold nodes
  rw [List.count_cons, List.count_append, range_count, lap_count]
  by_cases h : k < m
  · rw [if_pos h, if_pos (by omega), if_neg (by simp; omega)]; omega
  · rw [if_neg h]
    split <;> split <;> omega
theorem nodes_le (m n : Nat) : ∀ c ∈ nodes m n, c ≤ m := by
  intro c hc
  have h := List.count_pos_iff.2 hc
  unfold nodes at h
  rw [List.count_append, range_count, lap_count] at h
  split at h <;> split at h <;> omega
/-- the rows of the sequence that vanishes longest -/
structure Far (m n : Nat) (a : Nat → Nat → GQ) : Prop where
  sup : ∀ k, Sup (n + 1) (a k)
  far : ∀ j, rep m (n + 1) a j = hs m (nodes m n) j
theorem far_ex (m n : Nat) : ∃ a, Far m n a := by
  obtain ⟨a, h1, h2⟩ := rows m (n + 1) m (Nat.le_refl _) (nodes m n) (nodes_le m n) (nodes_count m n)
  exact ⟨a, fun k => (h1 k).mono (nodes_count m n k), h2⟩
theorem rw1_low {k n : Nat} {r : Nat → GQ} {j : Nat} (hj : j < n) (h : ∀ i, i < j → r i = 0) : rw1 k n r j = r j := by
  unfold rw1
  rw [sm_one (p := j) hj fun i hi hne => ?_, ee_same, gmul_one]
  rcases Nat.lt_or_ge i j with hlt | hge
  · rw [h i hlt, gzero_mul]
  · rw [ee_below _ i j (by omega), gmul_zero]
/-- all other nodes taken out of a row, 1 is left, at the highest place -/
theorem Far.unit {m n : Nat} {a : Nat → Nat → GQ} (h : Far m n a) {k : Nat} (hk : k ≤ m) : (∀ i, i < n → rowd k (oth m (n + 1) k) (a k) i = 0) ∧ rowd k (oth m (n + 1) k) (a k) n = 1 := by
  have hlen := nodes_length m n
  have hol : (oth m (n + 1) k).length = m * (n + 1) := oth_length hk
  have hM : (m + 1) * (n + 1) = m * (n + 1) + n + 1 := by rw [Nat.add_mul]; omega
  have hz : ∀ j, j < (nodes m n).length → rep m (n + 1) a j = 0 := fun j hj => by
    rw [h.far]
    unfold hs
    rw [hn_zero _ _ _ hj, gn_zero]
  have h1 : rep m (n + 1) a (nodes m n).length = 1 := by
    rw [h.far]
    unfold hs
    rw [hn_lead, gn_one]
  have hy : ∀ j, dels (oth m (n + 1) k) (rep m (n + 1) a) j = rw1 k (n + 1) (rowd k (oth m (n + 1) k) (a k)) j := fun j => by
    rw [dels_rep m (n + 1) _ a h.sup]
    unfold rep
    rw [sm_one (p := k) (by omega) fun l hl hne => rw1_zero (fun i _ => zero_row (h.sup l) (oth_count (by omega) hne) i) j, dCs_row]
  have lo : ∀ i, i < n → rowd k (oth m (n + 1) k) (a k) i = 0 := by
    intro i
    induction i using Nat.strongRecOn with
    | _ i ih =>
      intro hi
      have e := hy i
      rw [dels_zero _ hz i (by omega), rw1_low (by omega) fun i' hi' => ih i' hi' (by omega)] at e
      exact e.symm
  refine ⟨lo, ?_⟩
  have e := hy n
  rw [dels_lead _ hz h1 n (by omega), rw1_low (by omega) lo] at e
  exact e.symm
theorem Far.top {m n : Nat} {a : Nat → Nat → GQ} (h : Far m n a) {k : Nat} (hk : k ≤ m) : a k n ≠ 0 := by
  have e := rowd_top k (oth m (n + 1) k) (h.sup k)
  rw [(h.unit hk).2] at e
  intro h0
  rw [h0, gmul_zero] at e
  exact gone_ne e
/-- with the first s nodes taken out -/
theorem Far.low {m n : Nat} {a : Nat → Nat → GQ} (h : Far m n a) {s : Nat} (hsm : s ≤ m) : ∃ cs : List Nat, cs.length + s + 1 = (m + 1) * (n + 1) ∧ (∀ c ∈ cs, c ≤ m) ∧ ∀ j, rep m (n + 1) (dCs (List.range s) a) j = hs m cs j := by
  obtain ⟨d, rfl⟩ : ∃ d, m = s + d := ⟨m - s, by omega⟩
  refine ⟨(List.range d).map (s + ·) ++ lap (s + d) n, ?_, ?_, fun j => ?_⟩
  · have := nodes_length (s + d) n
    unfold nodes at this
    rw [List.length_append, List.length_range] at this
    rw [List.length_append, List.length_map, List.length_range]; omega
  · intro c hc
    refine nodes_le (s + d) n c ?_
    unfold nodes
    rw [List.range_add, List.append_assoc]
    exact List.mem_append_right _ hc
  · rw [← dels_rep _ _ _ a h.sup, dels_congr _ h.far]
    have e : nodes (s + d) n = List.range s ++ ((List.range d).map (s + ·) ++ lap (s + d) n) := by
      unfold nodes
      rw [List.range_add, List.append_assoc]
    rw [e]
    exact dels_hs _ _ _ j
/-- the terms of e to a power -/
def et (z : GQ) : Nat → GQ
  | 0 => 1
  | i + 1 => et z i * (q (1 / ((i + 1 : Nat) : Rat)) * z)
theorem nat_ne {n : Nat} (h : 0 < n) : ((n : Nat) : Rat) ≠ 0 := by
  intro e
  rw [show (0 : Rat) = ((0 : Nat) : Rat) from rfl, Rat.natCast_inj] at e
  omega
theorem gn_q (n : Nat) (h : 0 < n) : gn n * q (1 / (n : Rat)) = 1 := by
  have h2 := Rat.mul_inv_cancel _ (nat_ne h)
  unfold gn
  apply GQ.ext' <;> simp only [mul_re, mul_im, q_re, q_im, one_re, one_im, Rat.div_def]
  · grind
  · grind
theorem et_next (z : GQ) (i : Nat) : gn (i + 1) * et z (i + 1) = et z i * z := by
  show gn (i + 1) * (et z i * (q (1 / ((i + 1 : Nat) : Rat)) * z)) = _
  rw [gmul_left_comm, ← gmul_assoc (gn (i + 1)), gn_q _ (by omega), gone_mul]
theorem et_ne {z : GQ} (h : z ≠ 0) : ∀ i, et z i ≠ 0
  | 0 => gone_ne
  | i + 1 => fun e => by
    have h1 := et_next z i
    rw [e, gmul_zero] at h1
    rcases gmul_eq_zero h1.symm with e | e
    · exact et_ne h i e
    · exact h e
/-- a row that vanishes at a number is a row times what is that number away -/
def quo (b : GQ) (r : Nat → GQ) : Nat → GQ
  | 0 => -(b.inv * r 0)
  | i + 1 => b.inv * (gn (i + 1) * quo b r i - r (i + 1))
theorem quo_zero {b : GQ} (hb : b ≠ 0) (r : Nat → GQ) : r 0 = -(b * quo b r 0) := by
  show r 0 = -(b * -(b.inv * r 0))
  have : b * -(b.inv * r 0) = -(b.inv * b * r 0) := by
    apply GQ.ext' <;> simp only [neg_re, neg_im, mul_re, mul_im] <;> grind
  rw [this, ginv_mul hb, gone_mul]
  apply GQ.ext' <;> simp only [neg_re, neg_im] <;> grind
theorem quo_next {b : GQ} (hb : b ≠ 0) (r : Nat → GQ) (i : Nat) : r (i + 1) = gn (i + 1) * quo b r i - b * quo b r (i + 1) := by
  show _ = _ - b * (b.inv * (gn (i + 1) * quo b r i - r (i + 1)))
  rw [← gmul_assoc, gmul_comm b, ginv_mul hb, gone_mul]
  apply GQ.ext' <;> simp only [sub_re, sub_im] <;> grind
theorem quo_sum {b : GQ} (hb : b ≠ 0) (r : Nat → GQ) : ∀ i, et b i * b * quo b r i + sm (fun i => r i * et b i) (i + 1) = 0
  | 0 => by
    show 1 * b * quo b r 0 + (0 + r 0 * 1) = 0
    rw [gzero_add, gmul_one, gone_mul, quo_zero hb r]
    show _ + -_ = (0 : GQ)
    have e : b * quo b r 0 = b * quo b r 0 := rfl
    rw [← gsub_def, gsub_self]
  | i + 1 => by
    have h := quo_sum hb r i
    have e1 : et b (i + 1) * b * quo b r (i + 1) = et b i * b * quo b r i - r (i + 1) * et b (i + 1) := by
      rw [gmul_assoc]
      have e2 : b * quo b r (i + 1) = gn (i + 1) * quo b r i - r (i + 1) := by
        rw [quo_next hb r i]
        apply GQ.ext' <;> simp only [sub_re, sub_im] <;> grind
      rw [e2, gmul_sub, ← gmul_assoc, gmul_comm (et b (i + 1)), et_next, gmul_comm (et b (i + 1))]
    rw [sm_succ, e1]
    rw [← h]
    apply GQ.ext' <;> simp only [sub_re, sub_im, add_re, add_im] <;> grind
theorem quo_sup {b : GQ} (hb : b ≠ 0) {r : Nat → GQ} {n : Nat} (hr : Sup (n + 1) r) (h : sm (fun i => r i * et b i) (n + 1) = 0) : Sup n (quo b r) := by
  have hz : ∀ d, sm (fun i => r i * et b i) (n + 1 + d) = 0 := by
    intro d
    induction d with
    | zero => exact h
    | succ d ih => rw [← Nat.add_assoc, sm_succ, ih, hr _ (by omega), gzero_mul, gadd_zero]
  intro i hi
  have h1 := quo_sum hb r i
  rw [show i + 1 = n + 1 + (i - n) by omega, hz, gadd_zero] at h1
  rcases gmul_eq_zero h1 with e | e
  · rcases gmul_eq_zero e with e | e
    · exact absurd e (et_ne hb i)
    · exact absurd e hb
  · exact e
theorem ee_rec (c : GQ) (i j : Nat) : ee c (i + 1) (j + 1) = c * ee c (i + 1) j + ee c i j := by rw [ee]
theorem ee_mul (c : GQ) : ∀ (j i : Nat), gn (i + 1) * ee c (i + 1) (j + 1) = gn (j + 1) * ee c i j
  | 0, 0 => by rw [ee_same, ee_same]
  | 0, i + 1 => by rw [ee_below c (i + 1 + 1) (0 + 1) (by omega), ee_below c (i + 1) 0 (by omega), gmul_zero, gmul_zero]
  | j + 1, 0 => by
    have h := ee_mul c j 0
    rw [ee_rec, gmul_add, gmul_left_comm, h]
    rw [show ee c 0 (j + 1) = c * ee c 0 j by rw [ee, ee, pw_succ, gmul_comm], gn_add (j + 1) 1, show gn (0 + 1) = 1 from rfl, gone_mul, gmul_left_comm, gadd_mul, gone_mul]
  | j + 1, i + 1 => by
    have h := ee_mul c j (i + 1)
    have h2 := ee_mul c j i
    rw [ee_rec, gmul_add, gmul_left_comm, h, gn_add (j + 1) 1, show gn 1 = 1 from rfl, gadd_mul, gone_mul, gn_add (i + 1) 1, gadd_mul, h2, show gn 1 = 1 from rfl, gone_mul]
    have e3 : ee c (i + 1) (j + 1) = c * ee c (i + 1) j + ee c i j := by rw [ee]
    rw [e3, gmul_add, gmul_left_comm]
    apply GQ.ext' <;> simp only [add_re, add_im] <;> grind
theorem rw1_quo {b : GQ} (hb : b ≠ 0) {k n : Nat} {r : Nat → GQ} (hd : Sup n (quo b r)) (j : Nat) : rw1 k (n + 1) r j + b * rw1 k n (quo b r) j = sm (fun i => quo b r i * (gn (i + 1) * ee (gn k) (i + 1) j)) n := by
  have e1 : rw1 k n (quo b r) j = rw1 k (n + 1) (quo b r) j := by
    unfold rw1
    rw [sm_succ, hd n (by omega), gzero_mul, gadd_zero]
  rw [e1]
  unfold rw1
  rw [← sm_mul, ← sm_add, sm_shift]
  have e0 : r 0 * ee (gn k) 0 j + b * (quo b r 0 * ee (gn k) 0 j) = 0 := by
    have h0 := quo_zero hb r
    generalize quo b r 0 = x at h0
    rw [h0]
    apply GQ.ext' <;> simp only [neg_re, neg_im, add_re, add_im, mul_re, mul_im, zero_re, zero_im] <;> grind
  rw [e0, gzero_add]
  refine sm_congr fun i _ => ?_
  have h1 := quo_next hb r i
  generalize quo b r (i + 1) = x at h1 ⊢
  generalize quo b r i = y at h1 ⊢
  rw [h1]
  apply GQ.ext' <;> simp only [sub_re, sub_im, add_re, add_im, mul_re, mul_im] <;> grind
theorem rep_quo {b : GQ} (hb : b ≠ 0) {m n : Nat} {c : Nat → Nat → GQ} (hd : ∀ k, k ≤ m → Sup n (quo b (c k))) {d : Nat → Nat → GQ} (e : ∀ k, k ≤ m → d k = quo b (c k)) {J : Nat} (h : ∀ j, j < J → rep m (n + 1) c j = 0) : ∀ j, j < J → rep m n d j = 0 := by
  have hr : ∀ j, rep m (n + 1) c j + b * rep m n d j = sm (fun k => sm (fun i => d k i * (gn (i + 1) * ee (gn k) (i + 1) j)) n) (m + 1) := by
    intro j
    unfold rep
    rw [← sm_mul, ← sm_add]
    refine sm_congr fun k hk => ?_
    rw [e k (by omega)]
    exact rw1_quo hb (hd k (by omega)) j
  intro j
  induction j with
  | zero =>
    intro hj
    have h1 := hr 0
    rw [h 0 hj, gzero_add, sm_all0 fun k _ => sm_all0 fun i _ => by rw [ee_below _ (i + 1) 0 (by omega), gmul_zero, gmul_zero]] at h1
    rcases gmul_eq_zero h1 with e | e
    · exact absurd e hb
    · exact e
  | succ j ih =>
    intro hj
    have h1 := hr (j + 1)
    have e2 : sm (fun k => sm (fun i => d k i * (gn (i + 1) * ee (gn k) (i + 1) (j + 1))) n) (m + 1) = gn (j + 1) * rep m n d j := by
      unfold rep
      rw [← sm_mul]
      refine sm_congr fun k _ => ?_
      unfold rw1
      rw [← sm_mul]
      refine sm_congr fun i _ => ?_
      rw [ee_mul, gmul_left_comm]
    rw [h _ hj, gzero_add, e2, ih (by omega), gmul_zero] at h1
    rcases gmul_eq_zero h1 with e | e
    · exact absurd e hb
    · exact e
theorem fac_zero (k : Nat) : ∀ (ls : List Nat), k ∈ ls → fac k ls = 0
  | [], h => by simp at h
  | l :: ls, h => by
    show (gn k - gn l) * fac k ls = 0
    rcases List.mem_cons.1 h with e | e
    · rw [e, gsub_self, gzero_mul]
    · rw [fac_zero k ls e, gmul_zero]
/-- what the neighbours are at b, if e to the power b were a -/
def val (m n : Nat) (a : Nat → Nat → GQ) (s : Nat) (b x : GQ) : GQ := sm (fun k => sm (fun i => dCs (List.range s) a k i * et b i) (n + 1) * pw x k) (m + 1)
theorem not_all {m n : Nat} {a : Nat → Nat → GQ} (F : Far m n a) {b x : GQ} (hb : b ≠ 0) : ∃ s, s ≤ m ∧ val m n a s b x ≠ 0 := by
  refine Classical.byContradiction fun hno => ?_
  have hN : ∀ s, s ≤ m → val m n a s b x = 0 := fun s hs => Classical.byContradiction fun h => hno ⟨s, hs, h⟩
  let N : Nat → Nat → GQ := fun s k => sm (fun i => dCs (List.range s) a k i * et b i) (n + 1)
  obtain ⟨w, ⟨s0, hs0, hw0⟩, hw⟩ := dep m fun s k => N s (k + 1)
  have hcol : ∀ k, k ≤ m → sm (fun s => w s * N s k) (m + 1) = 0 := by
    intro k hk
    cases k with
    | succ k => exact hw k (by omega)
    | zero =>
      have h1 : sm (fun s => w s * val m n a s b x) (m + 1) = 0 := sm_all0 fun s hs => by rw [hN s (by omega), gmul_zero]
      have h2 : sm (fun s => w s * val m n a s b x) (m + 1) = sm (fun k => sm (fun s => w s * N s k) (m + 1) * pw x k) (m + 1) := by
        rw [sm_congr (g := fun s => sm (fun k => w s * (N s k * pw x k)) (m + 1)) fun s _ => by rw [sm_mul]; rfl, sm_swap]
        refine sm_congr fun k _ => ?_
        rw [← sm_mul_right]
        exact sm_congr fun s _ => (gmul_assoc _ _ _).symm
      rw [h1, sm_shift, sm_all0 (f := fun k => sm (fun s => w s * N s (k + 1)) (m + 1) * pw x (k + 1)) fun k hk => by rw [hw k hk, gzero_mul], gadd_zero, pw_zero, gmul_one] at h2
      exact h2.symm
  let c : Nat → Nat → GQ := fun k i => sm (fun s => w s * dCs (List.range s) a k i) (m + 1)
  have hsup : ∀ k, Sup (n + 1) (c k) := fun k i hi => sm_all0 fun s _ => by rw [dCs_sup (List.range s) F.sup k i hi, gmul_zero]
  have hvan : ∀ k, k ≤ m → sm (fun i => c k i * et b i) (n + 1) = 0 := by
    intro k hk
    rw [← hcol k hk]
    show sm (fun i => sm (fun s => w s * dCs (List.range s) a k i) (m + 1) * et b i) (n + 1) = sm (fun s => w s * sm (fun i => dCs (List.range s) a k i * et b i) (n + 1)) (m + 1)
    rw [sm_congr (g := fun i => sm (fun s => w s * (dCs (List.range s) a k i * et b i)) (m + 1)) fun i _ => by
      rw [← sm_mul_right]; exact sm_congr fun s _ => gmul_assoc _ _ _, sm_swap]
    exact sm_congr fun s _ => sm_mul _ _ _
  have hrep : ∀ j, j < (m + 1) * n → rep m (n + 1) c j = 0 := by
    intro j hj
    have e : rep m (n + 1) c j = sm (fun s => w s * rep m (n + 1) (dCs (List.range s) a) j) (m + 1) := by
      have e1 : sm (fun s => w s * rep m (n + 1) (dCs (List.range s) a) j) (m + 1) = sm (fun s => sm (fun k => sm (fun i => w s * (dCs (List.range s) a k i * ee (gn k) i j)) (n + 1)) (m + 1)) (m + 1) := sm_congr fun s _ => by
        unfold rep rw1
        rw [← sm_mul]; exact sm_congr fun k _ => (sm_mul _ _ _).symm
      rw [e1, sm_swap]
      unfold rep rw1
      refine sm_congr fun k _ => ?_
      rw [sm_swap]
      refine sm_congr fun i _ => ?_
      show sm (fun s => w s * dCs (List.range s) a k i) (m + 1) * _ = _
      rw [← sm_mul_right]
      exact sm_congr fun s _ => gmul_assoc _ _ _
    rw [e]
    refine sm_all0 fun s hsm => ?_
    obtain ⟨cs, h1, h2, h3⟩ := F.low (s := s) (by omega)
    rw [h3]
    have hM : (m + 1) * (n + 1) = (m + 1) * n + (m + 1) := Nat.mul_succ _ _
    show w s * gn (hn m cs j) = 0
    rw [hn_zero m cs j (by omega), gn_zero, gmul_zero]
  let d : Nat → Nat → GQ := fun k => if k ≤ m then quo b (c k) else fun _ => 0
  have hd : ∀ k, k ≤ m → d k = quo b (c k) := fun k hk => if_pos hk
  have hds : ∀ k, Sup n (d k) := fun k => by
    by_cases hk : k ≤ m
    · rw [hd k hk]; exact quo_sup hb (hsup k) (hvan k hk)
    · intro i _
      show (if k ≤ m then quo b (c k) else fun _ => 0) i = 0
      rw [if_neg hk]
  have hd0 : ∀ k, k ≤ m → ∀ i, d k i = 0 := fun k hk => indep hds (rep_quo hb (fun k hk => quo_sup hb (hsup k) (hvan k hk)) hd hrep) hk
  have hc0 : ∀ k, k ≤ m → c k n = 0 := by
    intro k hk
    have h0 : ∀ i, quo b (c k) i = 0 := fun i => by rw [← hd k hk]; exact hd0 k hk i
    cases n with
    | zero =>
      rw [quo_zero hb (c k), h0, gmul_zero]; rfl
    | succ n =>
      rw [quo_next hb (c k) n, h0, h0, gmul_zero, gmul_zero, gsub_zero]
  have hw1 : ∀ k, k ≤ m → w k = 0 := by
    intro k
    induction k using Nat.strongRecOn with
    | _ k ih =>
      intro hk
      have h1 := hc0 k hk
      have h2 : c k n = w k * (fac k (List.range k) * a k n) := by
        show sm (fun s => w s * dCs (List.range s) a k n) (m + 1) = _
        rw [sm_one (p := k) (by omega) fun s hs hne => ?_, dCs_row, rowd_top k _ (F.sup k)]
        rcases Nat.lt_or_ge s k with h | h
        · rw [ih s h (by omega), gzero_mul]
        · rw [dCs_row, rowd_top k _ (F.sup k), fac_zero k _ (List.mem_range.2 (by omega)), gzero_mul, gmul_zero]
      rw [h2] at h1
      rcases gmul_eq_zero h1 with e | e
      · exact e
      · rcases gmul_eq_zero e with e | e
        · exact absurd e (fac_ne k _ fun hm => by have := List.mem_range.1 hm; omega)
        · exact absurd e (F.top hk)
  exact hw0 (hw1 s0 hs0)
end Go.Proofs.YtnjgliojkoeneaaGreat.P
set_option linter.unusedSimpArgs false
set_option linter.unusedVariables false
namespace Go.Proofs.YtnjgliojkoeneaaGreat.P
open GQ
def rt (x : Rat) : Nat → Rat
  | 0 => 1
  | i + 1 => rt x i * (1 / ((i + 1 : Nat) : Rat) * x)
/-- the sums of e to a power -/
def En (z : GQ) (n : Nat) : GQ := sm (et z) n
def RE (x : Rat) (n : Nat) : Rat := rsm (rt x) n
theorem nat_pos {n : Nat} (h : 0 < n) : (0 : Rat) < ((n : Nat) : Rat) := by
  rw [show (0 : Rat) = ((0 : Nat) : Rat) from rfl, Rat.natCast_lt_natCast]; exact h
theorem nat_nn (n : Nat) : (0 : Rat) ≤ ((n : Nat) : Rat) := by
  rw [show (0 : Rat) = ((0 : Nat) : Rat) from rfl, Rat.natCast_le_natCast]; omega
theorem inv_pos' {x : Rat} (h : 0 < x) : 0 < 1 / x := by
  rw [Rat.div_def, Rat.one_mul]; exact Rat.inv_pos.2 h
theorem one_div_mul {x : Rat} (h : 0 < x) : 1 / x * x = 1 := by
  rw [Rat.div_def, Rat.one_mul]; exact Rat.inv_mul_cancel _ (by intro e; rw [e] at h; exact absurd h (by decide))
theorem rt_nn {x : Rat} (h : 0 ≤ x) : ∀ i, 0 ≤ rt x i
  | 0 => by show (0 : Rat) ≤ 1; decide
  | i + 1 => Rat.mul_nonneg (rt_nn h i) (Rat.mul_nonneg (Rat.le_of_lt (inv_pos' (nat_pos (by omega)))) h)
theorem et_q (x : Rat) : ∀ i, et (q x) i = q (rt x i)
  | 0 => rfl
  | i + 1 => by
    show et (q x) i * (q (1 / ((i + 1 : Nat) : Rat)) * q x) = q (rt x i * (1 / ((i + 1 : Nat) : Rat) * x))
    rw [et_q x i]
    apply GQ.ext' <;> simp only [mul_re, mul_im, q_re, q_im] <;> grind
theorem En_q (x : Rat) : ∀ n, En (q x) n = q (RE x n)
  | 0 => rfl
  | n + 1 => by
    show En (q x) n + et (q x) n = q (RE x n + rt x n)
    rw [En_q x n, et_q]
    apply GQ.ext' <;> simp only [add_re, add_im, q_re, q_im] <;> grind
theorem nr_et {z : GQ} {x : Rat} (h : nr z ≤ x) : ∀ i, nr (et z i) ≤ rt x i
  | 0 => by show nr 1 ≤ 1; rw [nr_one]; exact Rat.le_refl
  | i + 1 => by
    have hx : 0 ≤ x := Rat.le_trans (nr_nn z) h
    have h1 := nr_mul (et z i) (q (1 / ((i + 1 : Nat) : Rat)) * z)
    have h2 := nr_mul (q (1 / ((i + 1 : Nat) : Rat))) z
    have hp := Rat.le_of_lt (inv_pos' (nat_pos (show 0 < i + 1 by omega)))
    rw [nr_q, ab_of hp] at h2
    have h3 := Rat.mul_le_mul_of_nonneg_left h hp
    exact Rat.le_trans h1 (rmul_le (nr_et h i) (Rat.le_trans h2 h3) (nr_nn _) (rt_nn hx i))
theorem nr_En {z : GQ} {x : Rat} (h : nr z ≤ x) (n : Nat) : nr (En z n) ≤ RE x n := Rat.le_trans (nr_sm _ n) (rsm_le fun i _ => nr_et h i)
theorem RE_mono {x : Rat} (hx : 0 ≤ x) (n : Nat) : ∀ r, RE x n ≤ RE x (n + r)
  | 0 => Rat.le_refl
  | r + 1 => by
    have h1 := RE_mono hx n r
    have h2 := rt_nn hx (n + r)
    show RE x n ≤ RE x (n + r) + rt x (n + r)
    grind
theorem RE_nn {x : Rat} (hx : 0 ≤ x) (n : Nat) : 0 ≤ RE x n := rsm_nn fun i _ => rt_nn hx i
/-- a sum's rest is at most twice its first term -/
theorem rt_half {x : Rat} (hx : 0 ≤ x) {n : Nat} (h : x + x ≤ ((n + 1 : Nat) : Rat)) (r : Nat) : rt x (n + r + 1) + rt x (n + r + 1) ≤ rt x (n + r) := by
  have hp := nat_pos (show 0 < n + r + 1 by omega)
  have hi := Rat.le_of_lt (inv_pos' hp)
  have h1 : x + x ≤ ((n + r + 1 : Nat) : Rat) := Rat.le_trans h (by rw [Rat.natCast_le_natCast]; omega)
  have h2 := Rat.mul_le_mul_of_nonneg_left h1 hi
  rw [one_div_mul hp] at h2
  have h3 := Rat.mul_le_mul_of_nonneg_left h2 (rt_nn hx (n + r))
  show rt x (n + r) * (1 / ((n + r + 1 : Nat) : Rat) * x) + rt x (n + r) * (1 / ((n + r + 1 : Nat) : Rat) * x) ≤ _
  grind
theorem RE_rest {x : Rat} (hx : 0 ≤ x) {n : Nat} (h : x + x ≤ ((n + 1 : Nat) : Rat)) : ∀ r, RE x (n + r) + (rt x (n + r) + rt x (n + r)) ≤ RE x n + (rt x n + rt x n)
  | 0 => Rat.le_refl
  | r + 1 => by
    have h1 := RE_rest hx h r
    have h2 := rt_half hx h r
    show RE x (n + r) + rt x (n + r) + (rt x (n + r + 1) + rt x (n + r + 1)) ≤ _
    grind
theorem En_rest {z : GQ} {x : Rat} (hz : nr z ≤ x) {n : Nat} (h : x + x ≤ ((n + 1 : Nat) : Rat)) : ∀ r, nr (En z (n + r) - En z n) + (rt x (n + r) + rt x (n + r)) ≤ rt x n + rt x n
  | 0 => by rw [Nat.add_zero, gsub_self, nr_zero]; grind
  | r + 1 => by
    have h1 := En_rest hz h r
    have h2 := rt_half (Rat.le_trans (nr_nn z) hz) h r
    have h3 := nr_et hz (n + r)
    have e : En z (n + (r + 1)) - En z n = (En z (n + r) - En z n) + et z (n + r) := by
      show En z (n + r) + et z (n + r) - En z n = _
      apply GQ.ext' <;> simp only [add_re, add_im, sub_re, sub_im] <;> grind
    have h4 := nr_add (En z (n + r) - En z n) (et z (n + r))
    rw [e]
    show _ + (rt x (n + r + 1) + rt x (n + r + 1)) ≤ _
    grind
def cv (f g : Nat → GQ) (j : Nat) : GQ := sm (fun a => f a * g (j - a)) (j + 1)
theorem cv_sum (f g : Nat → GQ) : ∀ n, sm (cv f g) n = sm (fun a => f a * sm g (n - a)) n
  | 0 => rfl
  | n + 1 => by
    rw [sm_succ, cv_sum f g n]
    have e : sm (fun a => f a * sm g (n + 1 - a)) (n + 1) = sm (fun a => f a * sm g (n - a) + f a * g (n - a)) (n + 1) := sm_congr fun a ha => by
      rw [show n + 1 - a = n - a + 1 by omega, sm_succ, gmul_add]
    rw [e, sm_add, sm_succ (fun a => f a * sm g (n - a)), Nat.sub_self, show sm g 0 = 0 from rfl, gmul_zero, gadd_zero]
    rfl
theorem cv_et (x y : GQ) : ∀ j, cv (et x) (et y) j = et (x + y) j
  | 0 => by
    show 0 + 1 * 1 = (1 : GQ)
    rw [gzero_add, gmul_one]
  | j + 1 => by
    have ih := cv_et x y j
    have h : gn (j + 1) * cv (et x) (et y) (j + 1) = cv (et x) (et y) j * (x + y) := by
      have e1 : gn (j + 1) * cv (et x) (et y) (j + 1) = sm (fun a => gn a * et x a * et y (j + 1 - a) + et x a * (gn (j + 1 - a) * et y (j + 1 - a))) (j + 2) := by
        unfold cv
        rw [← sm_mul]
        refine sm_congr fun a ha => ?_
        rw [show gn (j + 1) = gn a + gn (j + 1 - a) by rw [← gn_add, show a + (j + 1 - a) = j + 1 by omega], gadd_mul, gmul_assoc, gmul_left_comm (gn (j + 1 - a))]
      have e2 : sm (fun a => gn a * et x a * et y (j + 1 - a)) (j + 2) = cv (et x) (et y) j * x := by
        rw [sm_shift, gn_zero]
        rw [show (0 : GQ) * et x 0 * et y (j + 1 - 0) = 0 by rw [gzero_mul, gzero_mul], gzero_add]
        unfold cv
        rw [← sm_mul_right]
        refine sm_congr fun a ha => ?_
        rw [et_next, show j + 1 - (a + 1) = j - a by omega, gmul_assoc, gmul_assoc, gmul_comm x]
      have e3 : sm (fun a => et x a * (gn (j + 1 - a) * et y (j + 1 - a))) (j + 2) = cv (et x) (et y) j * y := by
        rw [sm_succ, Nat.sub_self, gn_zero, gzero_mul, gmul_zero, gadd_zero]
        unfold cv
        rw [← sm_mul_right]
        refine sm_congr fun a ha => ?_
        rw [show j + 1 - a = j - a + 1 by omega, et_next, gmul_assoc]
      rw [e1, sm_add, e2, e3, gmul_add]
    rw [ih, ← et_next] at h
    exact gmul_cancel (gn_ne (by omega)) h
theorem En_cv (x y : GQ) (n : Nat) : En (x + y) n = sm (fun a => et x a * En y (n - a)) n := by
  rw [show (fun a => et x a * En y (n - a)) = fun a => et x a * sm (et y) (n - a) from rfl, ← cv_sum]
  exact sm_congr fun j _ => (cv_et x y j).symm
theorem q_inj {a b : Rat} (h : q a = q b) : a = b := by
  have : (q a).re = (q b).re := by rw [h]
  exact this
theorem q_sm (f : Nat → Rat) : ∀ n, sm (fun i => q (f i)) n = q (rsm f n)
  | 0 => rfl
  | n + 1 => by
    rw [sm_succ, q_sm f n, rsm_succ]
    apply GQ.ext' <;> simp only [add_re, add_im, q_re, q_im] <;> grind
theorem q_add (a b : Rat) : q (a + b) = q a + q b := by apply GQ.ext' <;> simp only [add_re, add_im, q_re, q_im] <;> grind
theorem q_mul (a b : Rat) : q (a * b) = q a * q b := by apply GQ.ext' <;> simp only [mul_re, mul_im, q_re, q_im] <;> grind
theorem q_sub (a b : Rat) : q (a - b) = q a - q b := by apply GQ.ext' <;> simp only [sub_re, sub_im, q_re, q_im] <;> grind
theorem RE_cv (x y : Rat) (n : Nat) : RE (x + y) n = rsm (fun a => rt x a * RE y (n - a)) n := by
  refine q_inj ?_
  rw [← En_q, q_add, En_cv, ← q_sm]
  exact sm_congr fun a _ => by rw [et_q, En_q, q_mul]
theorem rsm_mono {f : Nat → Rat} {n : Nat} : ∀ r, (∀ i, i < n + r → 0 ≤ f i) → rsm f n ≤ rsm f (n + r)
  | 0, _ => Rat.le_refl
  | r + 1, h => by
    have h1 := rsm_mono (f := f) (n := n) r fun i hi => h i (by omega)
    have h2 := h (n + r) (by omega)
    show rsm f n ≤ rsm f (n + r) + f (n + r)
    grind
theorem RE_mul_le {x y : Rat} (hx : 0 ≤ x) (hy : 0 ≤ y) (n : Nat) : RE x n * RE y n ≤ RE (x + y) (n + n) := by
  have e : RE x n * RE y n = rsm (fun a => rt x a * RE y n) n := by
    unfold RE
    rw [Rat.mul_comm, ← rsm_mul]
    congr 1
    funext a
    exact Rat.mul_comm _ _
  rw [e, RE_cv]
  refine Rat.le_trans (rsm_le (g := fun a => rt x a * RE y (n + n - a)) fun a ha => ?_) (rsm_mono n fun i hi => Rat.mul_nonneg (rt_nn hx i) (RE_nn hy _))
  refine Rat.mul_le_mul_of_nonneg_left ?_ (rt_nn hx a)
  rw [show n + n - a = n + (n - a) by omega]
  exact RE_mono hy n (n - a)
theorem RE_add_le {x y : Rat} (hx : 0 ≤ x) (hy : 0 ≤ y) (n : Nat) : RE (x + y) n ≤ RE x n * RE y n := by
  have e : RE x n * RE y n = rsm (fun a => rt x a * RE y n) n := by
    unfold RE
    rw [Rat.mul_comm, ← rsm_mul]
    congr 1
    funext a
    exact Rat.mul_comm _ _
  rw [e, RE_cv]
  refine rsm_le fun a ha => Rat.mul_le_mul_of_nonneg_left ?_ (rt_nn hx a)
  have := RE_mono hy (n - a) a
  rwa [show n - a + a = n by omega] at this
theorem gsub_eq_of {a b c : GQ} : a - b = c ↔ a = c + b := by
  constructor
  · intro h; rw [← h, gsub_add_cancel]
  · intro h; rw [h, gadd_sub_cancel]
theorem En_add {x y : GQ} {X Y : Rat} (hx : nr x ≤ X) (hy : nr y ≤ Y) {n : Nat} (h : (X + Y) + (X + Y) ≤ ((n + 1 : Nat) : Rat)) : nr (En x n * En y n - En (x + y) n) ≤ rt (X + Y) n + rt (X + Y) n := by
  have hX : 0 ≤ X := Rat.le_trans (nr_nn x) hx
  have hY : 0 ≤ Y := Rat.le_trans (nr_nn y) hy
  have e : En x n * En y n - En (x + y) n = sm (fun a => et x a * (En y n - En y (n - a))) n := by
    rw [En_cv, gsub_eq_of]
    unfold En
    rw [← sm_mul_right, ← sm_add]
    exact sm_congr fun a _ => by rw [← gmul_add, gsub_add_cancel]
  have hd : ∀ a, a < n → nr (En y n - En y (n - a)) ≤ RE Y n - RE Y (n - a) := by
    intro a ha
    have key : ∀ m r, nr (En y (m + r) - En y m) ≤ RE Y (m + r) - RE Y m := by
      intro m r
      induction r with
      | zero => rw [Nat.add_zero, gsub_self, nr_zero]; grind
      | succ r ih =>
        have e : En y (m + (r + 1)) - En y m = (En y (m + r) - En y m) + et y (m + r) := by
          show En y (m + r) + et y (m + r) - En y m = _
          apply GQ.ext' <;> simp only [add_re, add_im, sub_re, sub_im] <;> grind
        have h4 := nr_add (En y (m + r) - En y m) (et y (m + r))
        have h3 := nr_et hy (m + r)
        rw [e]
        show _ ≤ RE Y (m + r) + rt Y (m + r) - RE Y m
        grind
    have := key (n - a) a
    rwa [show n - a + a = n by omega] at this
  have h1 : nr (En x n * En y n - En (x + y) n) ≤ rsm (fun a => rt X a * (RE Y n - RE Y (n - a))) n := by
    rw [e]
    refine Rat.le_trans (nr_sm _ _) (rsm_le fun a ha => ?_)
    exact Rat.le_trans (nr_mul _ _) (rmul_le (nr_et hx a) (hd a ha) (nr_nn _) (rt_nn hX a))
  have h2 : rsm (fun a => rt X a * (RE Y n - RE Y (n - a))) n = RE X n * RE Y n - RE (X + Y) n := by
    refine q_inj ?_
    rw [← q_sm, q_sub, q_mul, ← En_q, ← En_q, ← En_q, q_add, En_cv]
    symm
    rw [gsub_eq_of]
    unfold En
    rw [← sm_mul_right, ← sm_add]
    exact sm_congr fun a _ => by rw [q_mul, ← et_q, q_sub, ← En_q, ← En_q]; show _ * En (q Y) n = _ * (En (q Y) n - En (q Y) (n - a)) + _ * En (q Y) (n - a); rw [← gmul_add, gsub_add_cancel]
  have h3 := RE_mul_le hX hY n
  have h4 := RE_rest (x := X + Y) (by grind) h n
  have h5 := rt_nn (x := X + Y) (by grind) (n + n)
  rw [h2] at h1
  grind
def Nul (f : Nat → GQ) : Prop := ∀ ε : Rat, 0 < ε → ∃ n0 : Nat, ∀ n, n0 ≤ n → nr (f n) ≤ ε
def Bd (f : Nat → GQ) : Prop := ∃ B : Rat, 0 ≤ B ∧ ∀ n, nr (f n) ≤ B
theorem Nul.add {f g : Nat → GQ} (h : Nul f) (k : Nul g) : Nul fun n => f n + g n := fun ε he => by
  obtain ⟨a, ha⟩ := h (ε / 2) (by grind)
  obtain ⟨b, hb⟩ := k (ε / 2) (by grind)
  refine ⟨max a b, fun n hn => ?_⟩
  have h1 := ha n (by omega)
  have h2 := hb n (by omega)
  have h3 := nr_add (f n) (g n)
  grind
theorem Nul.neg {f : Nat → GQ} (h : Nul f) : Nul fun n => -f n := fun ε he => by
  obtain ⟨a, ha⟩ := h ε he
  exact ⟨a, fun n hn => by rw [nr_neg]; exact ha n hn⟩
theorem Nul.congr {f g : Nat → GQ} (h : Nul f) (n0 : Nat) (e : ∀ n, n0 ≤ n → f n = g n) : Nul g := fun ε he => by
  obtain ⟨a, ha⟩ := h ε he
  exact ⟨max a n0, fun n hn => by rw [← e n (by omega)]; exact ha n (by omega)⟩
theorem Nul.mul_bd {f g : Nat → GQ} (h : Nul f) (k : Bd g) : Nul fun n => f n * g n := fun ε he => by
  obtain ⟨B, hB, hb⟩ := k
  have hp : 0 < B + 1 := by grind
  obtain ⟨a, ha⟩ := h (ε * (1 / (B + 1))) (Rat.mul_pos he (inv_pos' hp))
  refine ⟨a, fun n hn => ?_⟩
  have h1 := ha n hn
  have h2 := hb n
  have h3 := nr_mul (f n) (g n)
  have h4 := rmul_le h1 (Rat.le_trans h2 (show B ≤ B + 1 by grind)) (nr_nn _) (Rat.le_trans (nr_nn _) h1)
  have h5 := one_div_mul hp
  have h6 : ε * (1 / (B + 1)) * (B + 1) = ε := by rw [Rat.mul_assoc, h5, Rat.mul_one]
  rw [h6] at h4
  exact Rat.le_trans h3 h4
theorem Bd.const (c : GQ) : Bd fun _ => c := ⟨nr c, nr_nn c, fun _ => Rat.le_refl⟩
theorem Bd.mul {f g : Nat → GQ} (h : Bd f) (k : Bd g) : Bd fun n => f n * g n := by
  obtain ⟨A, hA, ha⟩ := h
  obtain ⟨B, hB, hb⟩ := k
  exact ⟨A * B, Rat.mul_nonneg hA hB, fun n => Rat.le_trans (nr_mul _ _) (rmul_le (ha n) (hb n) (nr_nn _) hA)⟩
theorem Bd.pw {f : Nat → GQ} (h : Bd f) : ∀ k, Bd fun n => pw (f n) k
  | 0 => Bd.const 1
  | k + 1 => (h.pw k).mul h
theorem Nul.zero : Nul fun _ => 0 := fun ε he => ⟨0, fun _ _ => by rw [nr_zero]; exact Rat.le_of_lt he⟩
theorem Nul.sum {f : Nat → Nat → GQ} : ∀ (m : Nat), (∀ k, k < m → Nul fun n => f k n) → Nul fun n => sm (fun k => f k n) m
  | 0, _ => Nul.zero
  | m + 1, h => (Nul.sum m fun k hk => h k (by omega)).add (h m (by omega))
theorem arch (x : Rat) : ∃ n : Nat, x ≤ (n : Rat) := by
  refine ⟨(x.floor + 1).toNat, ?_⟩
  have h := Rat.lt_floor_add_one x
  have h2 : ((x.floor + 1 : Int) : Rat) ≤ (((x.floor + 1).toNat : Int) : Rat) := by
    rw [Rat.intCast_le_intCast]; omega
  rw [Rat.intCast_add, show ((1 : Int) : Rat) = 1 from rfl] at h2
  have h3 : (((x.floor + 1).toNat : Int) : Rat) = (((x.floor + 1).toNat : Nat) : Rat) := Rat.intCast_natCast _
  rw [h3] at h2
  grind
theorem le_rp2 : ∀ n : Nat, ((n : Nat) : Rat) ≤ rp 2 n
  | 0 => by show ((0 : Nat) : Rat) ≤ 1; decide
  | n + 1 => by
    have h := le_rp2 n
    have h2 : (1 : Rat) ≤ rp 2 n := by
      clear h
      induction n with
      | zero => exact Rat.le_refl
      | succ n ih => show (1 : Rat) ≤ rp 2 n * 2; grind
    show ((n + 1 : Nat) : Rat) ≤ rp 2 n * 2
    rw [Rat.natCast_add, show ((1 : Nat) : Rat) = 1 from rfl]
    grind
theorem rp2_pos : ∀ n : Nat, (0 : Rat) < rp 2 n
  | 0 => by show (0 : Rat) < 1; decide
  | n + 1 => Rat.mul_pos (rp2_pos n) (by decide)
theorem rt_small {x : Rat} (hx : 0 ≤ x) {ε : Rat} (he : 0 < ε) : ∃ n0 : Nat, ∀ n, n0 ≤ n → rt x n ≤ ε := by
  obtain ⟨n1, h1⟩ := arch (x + x)
  have hh : x + x ≤ ((n1 + 1 : Nat) : Rat) := Rat.le_trans h1 (by rw [Rat.natCast_le_natCast]; omega)
  have hr : ∀ r, rt x (n1 + r) * rp 2 r ≤ rt x n1 := by
    intro r
    induction r with
    | zero => show rt x n1 * 1 ≤ _; rw [Rat.mul_one]; exact Rat.le_refl
    | succ r ih =>
      have h2 := Rat.mul_le_mul_of_nonneg_right (rt_half hx hh r) (Rat.le_of_lt (rp2_pos r))
      show rt x (n1 + r + 1) * (rp 2 r * 2) ≤ _
      grind
  obtain ⟨r0, h2⟩ := arch (rt x n1 * (1 / ε))
  refine ⟨n1 + r0, fun n hn => ?_⟩
  obtain ⟨r, rfl⟩ : ∃ r, n = n1 + r := ⟨n - n1, by omega⟩
  have h3 := hr r
  have h4 : rt x n1 * (1 / ε) ≤ rp 2 r := Rat.le_trans h2 (Rat.le_trans (by rw [Rat.natCast_le_natCast]; omega) (le_rp2 r))
  have h5 := Rat.mul_le_mul_of_nonneg_right h4 (Rat.le_of_lt he)
  rw [Rat.mul_assoc, one_div_mul he, Rat.mul_one] at h5
  have h6 : rt x (n1 + r) * rp 2 r ≤ ε * rp 2 r := by grind
  exact Rat.le_of_mul_le_mul_right h6 (rp2_pos r)
theorem En_bd (z : GQ) : Bd (En z) := by
  obtain ⟨n1, h1⟩ := arch (nr z + nr z)
  have hh : nr z + nr z ≤ ((n1 + 1 : Nat) : Rat) := Rat.le_trans h1 (by rw [Rat.natCast_le_natCast]; omega)
  have hx := nr_nn z
  refine ⟨RE (nr z) n1 + (rt (nr z) n1 + rt (nr z) n1), ?_, fun n => Rat.le_trans (nr_En Rat.le_refl n) ?_⟩
  · have := RE_nn hx n1; have := rt_nn hx n1; grind
  · rcases Nat.lt_or_ge n n1 with h | h
    · have := RE_mono hx n (n1 - n)
      rw [show n + (n1 - n) = n1 by omega] at this
      have := rt_nn hx n1; grind
    · have := RE_rest hx hh (n - n1)
      rw [show n1 + (n - n1) = n by omega] at this
      have := rt_nn hx n; grind
theorem En_add_nul (x y : GQ) : Nul fun n => En x n * En y n - En (x + y) n := fun ε he => by
  have hs : 0 ≤ nr x + nr y := by have := nr_nn x; have := nr_nn y; grind
  obtain ⟨n0, h0⟩ := rt_small hs (show 0 < ε / 2 by grind)
  obtain ⟨n1, h1⟩ := arch ((nr x + nr y) + (nr x + nr y))
  refine ⟨max n0 n1, fun n hn => ?_⟩
  have h2 := En_add (x := x) (y := y) Rat.le_refl Rat.le_refl (n := n) (Rat.le_trans h1 (by rw [Rat.natCast_le_natCast]; omega))
  have h3 := h0 n (by omega)
  grind
theorem En_shift_nul (z : GQ) (i : Nat) : Nul fun n => En z (n - i) - En z n := fun ε he => by
  have hs := nr_nn z
  obtain ⟨n0, h0⟩ := rt_small hs (show 0 < ε / 2 by grind)
  obtain ⟨n1, h1⟩ := arch (nr z + nr z)
  refine ⟨max n0 n1 + i, fun n hn => ?_⟩
  have h2 := En_rest (z := z) Rat.le_refl (n := n - i) (Rat.le_trans h1 (by rw [Rat.natCast_le_natCast]; omega)) i
  rw [show n - i + i = n by omega] at h2
  have h3 := h0 (n - i) (by omega)
  have h4 := rt_nn hs n
  have e : nr (En z (n - i) - En z n) = nr (En z n - En z (n - i)) := by
    rw [← nr_neg]; congr 1
    apply GQ.ext' <;> simp only [neg_re, neg_im, sub_re, sub_im] <;> grind
  rw [e]; grind
theorem En_pw_nul (z : GQ) : ∀ k, Nul fun n => En (gn k * z) n - pw (En z n) k
  | 0 => by
    have h : ∀ n, 1 ≤ n → (0 : GQ) = En (gn 0 * z) n - pw (En z n) 0 := fun n hn => by
      have e : ∀ r, En (gn 0 * z) (1 + r) = 1 := by
        intro r
        induction r with
        | zero => show (0 : GQ) + 1 = 1; rw [gzero_add]
        | succ r ih =>
          show En (gn 0 * z) (1 + r) + et (gn 0 * z) (1 + r) = 1
          rw [ih, show 1 + r = r + 1 by omega]
          show 1 + et (gn 0 * z) r * (_ * (gn 0 * z)) = (1 : GQ)
          rw [gn_zero, gzero_mul, gmul_zero, gmul_zero, gadd_zero]
      obtain ⟨r, rfl⟩ : ∃ r, n = 1 + r := ⟨n - 1, by omega⟩
      rw [e, pw_zero, gsub_self]
    exact Nul.zero.congr 1 h
  | k + 1 => by
    have h1 := (En_pw_nul z k).mul_bd (En_bd z)
    have h2 := (En_add_nul (gn k * z) z).neg
    refine (h1.add h2).congr 0 fun n _ => ?_
    have e : gn (k + 1) * z = gn k * z + z := by rw [gn_add, gadd_mul, gn_one, gone_mul]
    rw [pw_succ, e]
    apply GQ.ext' <;> simp only [neg_re, neg_im, add_re, add_im, sub_re, sub_im, mul_re, mul_im] <;> grind
theorem et_mul (c z : GQ) : ∀ r, et (c * z) r = pw c r * et z r
  | 0 => by show (1 : GQ) = 1 * 1; rw [gone_mul]
  | r + 1 => by
    show et (c * z) r * (_ * (c * z)) = pw c r * c * (et z r * (_ * z))
    rw [et_mul c z r]
    generalize q (1 / ((r + 1 : Nat) : Rat)) = k
    rw [gmul_assoc (pw c r) c, gmul_assoc (pw c r)]
    congr 1
    rw [gmul_left_comm c, gmul_left_comm c]
theorem ee_et (c z : GQ) : ∀ i r, ee c i (i + r) * et z (i + r) = et z i * et (c * z) r
  | 0, r => by
    rw [Nat.zero_add, et_mul, show ee c 0 r = pw c r by rw [ee]]
    show _ = 1 * _
    rw [gone_mul]
  | i + 1, r => by
    have ih := ee_et c z i r
    refine gmul_cancel (gn_ne (show i + 1 ≠ 0 by omega)) ?_
    rw [← gmul_assoc, ← gmul_assoc, et_next, show i + 1 + r = i + r + 1 by omega, ee_mul, gmul_comm (gn (i + r + 1)), gmul_assoc, et_next, ← gmul_assoc, ih, gmul_assoc, gmul_assoc, gmul_comm z]
theorem ee_sum (c z : GQ) (i : Nat) : ∀ n, sm (fun j => ee c i j * et z j) (i + n) = et z i * En (c * z) n
  | 0 => by
    rw [sm_all0 fun j hj => by rw [ee_below c i j (by omega), gzero_mul]]
    show _ = et z i * 0
    rw [gmul_zero]
  | n + 1 => by
    rw [← Nat.add_assoc, sm_succ, ee_sum c z i n, ee_et, ← gmul_add]
    rfl
/-- the sequence's sums, and the value with e's sum in the power's place -/
theorem val_nul (m n : Nat) (c : Nat → Nat → GQ) (z : GQ) : Nul fun N => sm (fun j => rep m (n + 1) c j * et z j) N - sm (fun k => sm (fun i => c k i * et z i) (n + 1) * pw (En z N) k) (m + 1) := by
  have h1 : Nul fun N => sm (fun k => sm (fun i => (En (gn k * z) (N - i) - pw (En z N) k) * (c k i * et z i)) (n + 1)) (m + 1) := by
    refine Nul.sum (m + 1) fun k _ => Nul.sum (n + 1) fun i _ => ?_
    refine Nul.mul_bd ?_ (Bd.const _)
    refine ((En_shift_nul (gn k * z) i).add (En_pw_nul z k)).congr 0 fun N _ => ?_
    apply GQ.ext' <;> simp only [add_re, add_im, sub_re, sub_im] <;> grind
  refine h1.congr (n + 1) fun N hN => ?_
  have e1 : sm (fun j => rep m (n + 1) c j * et z j) N = sm (fun k => sm (fun i => c k i * (et z i * En (gn k * z) (N - i))) (n + 1)) (m + 1) := by
    unfold rep rw1
    have : sm (fun j => sm (fun k => sm (fun i => c k i * ee (gn k) i j) (n + 1)) (m + 1) * et z j) N = sm (fun j => sm (fun k => sm (fun i => c k i * (ee (gn k) i j * et z j)) (n + 1)) (m + 1)) N := sm_congr fun j _ => by
      rw [← sm_mul_right]
      refine sm_congr fun k _ => ?_
      rw [← sm_mul_right]
      exact sm_congr fun i _ => gmul_assoc _ _ _
    rw [this, sm_swap]
    refine sm_congr fun k _ => ?_
    rw [sm_swap]
    refine sm_congr fun i hi => ?_
    rw [sm_mul]
    congr 1
    have := ee_sum (gn k) z i (N - i)
    rwa [show i + (N - i) = N by omega] at this
  rw [e1]
  symm
  rw [gsub_eq_of, ← sm_add]
  refine sm_congr fun k _ => ?_
  rw [← sm_mul_right, ← sm_add]
  refine sm_congr fun i _ => ?_
  apply GQ.ext' <;> simp only [add_re, add_im, sub_re, sub_im, mul_re, mul_im] <;> grind
def Wh (x : GQ) : Prop := ∃ u v : Int, x = ⟨(u : Rat), (v : Rat)⟩
theorem Wh.add {x y : GQ} (h : Wh x) (k : Wh y) : Wh (x + y) := by
  obtain ⟨a, b, rfl⟩ := h
  obtain ⟨c, d, rfl⟩ := k
  exact ⟨a + c, b + d, by apply GQ.ext' <;> simp only [add_re, add_im, Rat.intCast_add]⟩
theorem Wh.sub {x y : GQ} (h : Wh x) (k : Wh y) : Wh (x - y) := by
  obtain ⟨a, b, rfl⟩ := h
  obtain ⟨c, d, rfl⟩ := k
  exact ⟨a - c, b - d, by apply GQ.ext' <;> simp only [sub_re, sub_im, Rat.intCast_sub]⟩
theorem Wh.mul {x y : GQ} (h : Wh x) (k : Wh y) : Wh (x * y) := by
  obtain ⟨a, b, rfl⟩ := h
  obtain ⟨c, d, rfl⟩ := k
  exact ⟨a * c - b * d, a * d + b * c, by apply GQ.ext' <;> simp only [mul_re, mul_im, Rat.intCast_sub, Rat.intCast_add, Rat.intCast_mul]⟩
theorem Wh.zero : Wh 0 := ⟨0, 0, rfl⟩
theorem Wh.one : Wh 1 := ⟨1, 0, rfl⟩
theorem Wh.gn (n : Nat) : Wh (gn n) := ⟨(n : Int), 0, rfl⟩
theorem Wh.int (z : Int) : Wh (q (z : Rat)) := ⟨z, 0, rfl⟩
theorem Wh.pw {x : GQ} (h : Wh x) : ∀ n, Wh (pw x n)
  | 0 => Wh.one
  | n + 1 => (h.pw n).mul h
theorem Wh.sum {f : Nat → GQ} : ∀ (n : Nat), (∀ i, i < n → Wh (f i)) → Wh (sm f n)
  | 0, _ => Wh.zero
  | n + 1, h => (Wh.sum n fun i hi => h i (by omega)).add (h n (by omega))
theorem Wh.large {x : GQ} (h : Wh x) (h0 : x ≠ 0) : 1 ≤ nr x := by
  obtain ⟨u, v, rfl⟩ := h
  have key : ∀ z : Int, z ≠ 0 → 1 ≤ ab (z : Rat) := fun z hz => by
    rcases Int.lt_or_gt_of_ne hz with h | h
    · rw [← ab_neg, ← Rat.intCast_neg, ab_of (by rw [show (0 : Rat) = ((0 : Int) : Rat) from rfl, Rat.intCast_le_intCast]; omega), show (1 : Rat) = ((1 : Int) : Rat) from rfl, Rat.intCast_le_intCast]; omega
    · rw [ab_of (by rw [show (0 : Rat) = ((0 : Int) : Rat) from rfl, Rat.intCast_le_intCast]; omega), show (1 : Rat) = ((1 : Int) : Rat) from rfl, Rat.intCast_le_intCast]; omega
  unfold nr
  by_cases hu : u = 0
  · have hv : v ≠ 0 := fun e => h0 (by rw [hu, e]; rfl)
    have := key v hv
    have := ab_nn (u : Rat)
    show 1 ≤ ab (u : Rat) + ab (v : Rat)
    grind
  · have := key u hu
    have := ab_nn (v : Rat)
    show 1 ≤ ab (u : Rat) + ab (v : Rat)
    grind
def fc : Nat → Nat
  | 0 => 1
  | n + 1 => (n + 1) * fc n
theorem fc_pos : ∀ n, 0 < fc n
  | 0 => by decide
  | n + 1 => Nat.mul_pos (by omega) (fc_pos n)
theorem fc_dvd : ∀ (n k j : Nat), k + j = n → fc k * fc j ∣ fc n
  | 0, k, j, h => by
    obtain rfl : k = 0 := by omega
    obtain rfl : j = 0 := by omega
    exact Nat.dvd_refl _
  | n + 1, 0, j, h => by
    obtain rfl : j = n + 1 := by omega
    show 1 * _ ∣ _
    rw [Nat.one_mul]; exact Nat.dvd_refl _
  | n + 1, k + 1, 0, h => by
    obtain rfl : k = n := by omega
    show _ * 1 ∣ _
    rw [Nat.mul_one]; exact Nat.dvd_refl _
  | n + 1, k + 1, j + 1, h => by
    have h1 := fc_dvd n k (j + 1) (by omega)
    have h2 := fc_dvd n (k + 1) j (by omega)
    have e : fc (n + 1) = (k + 1) * fc n + (j + 1) * fc n := by
      show (n + 1) * fc n = _
      rw [← Nat.add_mul]; congr 1; omega
    rw [e]
    refine Nat.dvd_add ?_ ?_
    · show (k + 1) * fc k * fc (j + 1) ∣ _
      rw [Nat.mul_assoc]
      exact Nat.mul_dvd_mul (Nat.dvd_refl _) h1
    · show fc (k + 1) * ((j + 1) * fc j) ∣ _
      rw [Nat.mul_left_comm]
      exact Nat.mul_dvd_mul (Nat.dvd_refl _) h2
theorem dvd_fc : ∀ (n d : Nat), 0 < d → d ≤ n → d ∣ fc n
  | 0, d, h, k => by omega
  | n + 1, d, h, k => by
    by_cases e : d = n + 1
    · subst e; exact Nat.dvd_mul_right _ _
    · exact Nat.dvd_trans (dvd_fc n d h (by omega)) (Nat.dvd_mul_left _ _)
theorem fc_le : ∀ n, fc n ≤ n ^ n
  | 0 => by decide
  | n + 1 => by
    show (n + 1) * fc n ≤ (n + 1) ^ (n + 1)
    rw [Nat.pow_succ, Nat.mul_comm]
    exact Nat.mul_le_mul_right _ (Nat.le_trans (fc_le n) (Nat.pow_le_pow_left (by omega) n))
theorem fac_append (k : Nat) : ∀ (a b : List Nat), fac k (a ++ b) = fac k a * fac k b
  | [], b => by show _ = 1 * _; rw [gone_mul]; rfl
  | l :: a, b => by
    show (gn k - gn l) * fac k (a ++ b) = (gn k - gn l) * fac k a * fac k b
    rw [fac_append k a b, gmul_assoc]
theorem fac_rep (k l : Nat) : ∀ n, fac k (List.replicate n l) = pw (gn k - gn l) n
  | 0 => rfl
  | n + 1 => by
    show (gn k - gn l) * fac k (List.replicate n l) = pw (gn k - gn l) n * (gn k - gn l)
    rw [fac_rep k l n, gmul_comm]
theorem fac_flat (k n : Nat) : ∀ (ls : List Nat), fac k (ls.flatMap fun l => List.replicate n l) = pw (fac k ls) n
  | [] => by
    show (1 : GQ) = pw 1 n
    induction n with
    | zero => rfl
    | succ n ih => rw [pw_succ, ← ih, gmul_one]
  | l :: ls => by
    rw [List.flatMap_cons, fac_append, fac_rep, fac_flat k n ls]
    show _ = pw ((gn k - gn l) * fac k ls) n
    rw [pw_mul]
theorem gn_sub {a b : Nat} (h : b ≤ a) : gn a - gn b = gn (a - b) := by
  rw [gsub_eq_of, ← gn_add]; congr 1; omega
theorem fac_low (k : Nat) : ∀ n, n ≤ k → fac k (List.range n) * gn (fc (k - n)) = gn (fc k)
  | 0, _ => by show 1 * _ = _; rw [gone_mul]; rfl
  | n + 1, h => by
    have ih := fac_low k n (by omega)
    rw [List.range_succ, fac_append, ← ih]
    show fac k (List.range n) * ((gn k - gn n) * 1) * _ = _
    rw [gmul_one, gn_sub (by omega), gmul_assoc, ← gn_mul]
    congr 2
    obtain ⟨d, hd⟩ : ∃ d, k - n = d + 1 := ⟨k - n - 1, by omega⟩
    rw [hd, show k - (n + 1) = d by omega]
    rfl
theorem fac_high (k : Nat) : ∀ n, ∃ z : Int, (z = 1 ∨ z = -1) ∧ fac k ((List.range n).map fun i => k + 1 + i) = gn (fc n) * q (z : Rat)
  | 0 => ⟨1, .inl rfl, by show (1 : GQ) = gn 1 * q ((1 : Int) : Rat); rw [gn_one, gone_mul]; rfl⟩
  | n + 1 => by
    obtain ⟨z, hz, e⟩ := fac_high k n
    refine ⟨-z, by omega, ?_⟩
    rw [List.range_succ, List.map_append, fac_append, e]
    show _ * ((gn k - gn (k + 1 + n)) * 1) = gn ((n + 1) * fc n) * _
    have e2 : gn k - gn (k + 1 + n) = -gn (n + 1) := by
      rw [show k + 1 + n = k + (n + 1) by omega, gn_add]
      apply GQ.ext' <;> simp only [neg_re, neg_im, add_re, add_im, sub_re, sub_im] <;> grind
    rw [gmul_one, e2, gn_mul, Rat.intCast_neg]
    generalize gn (fc n) = u
    generalize gn (n + 1) = v
    apply GQ.ext' <;> simp only [neg_re, neg_im, mul_re, mul_im, q_re, q_im] <;> grind
theorem filter_ne {m k : Nat} (h : k ≤ m) : (List.range (m + 1)).filter (· != k) = List.range k ++ (List.range (m - k)).map fun i => k + 1 + i := by
  obtain ⟨d, rfl⟩ : ∃ d, m = k + d := ⟨m - k, by omega⟩
  rw [show k + d + 1 = (k + 1) + d by omega, List.range_add, List.filter_append, List.range_succ, List.filter_append]
  have e1 : (List.range k).filter (· != k) = List.range k := List.filter_eq_self.2 fun x hx => by
    have := List.mem_range.1 hx
    simp; omega
  have e2 : ([k] : List Nat).filter (· != k) = [] := by simp
  have e3 : ((List.range d).map fun x => k + 1 + x).filter (· != k) = (List.range d).map fun x => k + 1 + x := List.filter_eq_self.2 fun x hx => by
    obtain ⟨y, _, rfl⟩ := List.mem_map.1 hx
    simp; omega
  rw [e1, e2, e3, List.append_nil, show k + d - k = d by omega]
theorem fac_oth {m k : Nat} (n : Nat) (h : k ≤ m) : ∃ y, Wh y ∧ pw (gn (fc m)) n = fac k (oth m n k) * y := by
  unfold oth
  rw [fac_flat, filter_ne h, fac_append]
  obtain ⟨z, hz, e⟩ := fac_high k (m - k)
  have e1 := fac_low k k (Nat.le_refl _)
  rw [Nat.sub_self, show fc 0 = 1 from rfl, gn_one, gmul_one] at e1
  rw [e, e1]
  obtain ⟨t, ht⟩ := fc_dvd m k (m - k) (by omega)
  refine ⟨pw (gn t * q (z : Rat)) n, ((Wh.gn t).mul (Wh.int z)).pw n, ?_⟩
  rw [← pw_mul]
  congr 1
  rw [ht, gn_mul, gn_mul]
  have e2 : q (z : Rat) * q (z : Rat) = 1 := by
    rw [← q_mul, ← Rat.intCast_mul]
    rcases hz with rfl | rfl <;> rfl
  rw [gmul_assoc (gn (fc k)), gmul_assoc (gn (fc k)), gmul_assoc (gn (fc (m - k))), gmul_left_comm (q (z : Rat)), e2, gmul_one]
theorem node_dvd {m k l : Nat} (hk : k ≤ m) (hl : l ≤ m) (h : l ≠ k) : ∃ y, Wh y ∧ gn (fc m) = (gn k - gn l) * y := by
  rcases Nat.lt_or_ge l k with hlt | hge
  · obtain ⟨t, ht⟩ := dvd_fc m (k - l) (by omega) (by omega)
    exact ⟨gn t, Wh.gn t, by rw [ht, gn_mul, gn_sub (by omega)]⟩
  · obtain ⟨t, ht⟩ := dvd_fc m (l - k) (by omega) (by omega)
    refine ⟨gn t * q ((-1 : Int) : Rat), (Wh.gn t).mul (Wh.int _), ?_⟩
    rw [ht, gn_mul, ← gn_sub hge, show q ((-1 : Int) : Rat) = -(1 : GQ) by apply GQ.ext' <;> simp only [neg_re, neg_im, q_re, q_im, one_re, one_im] <;> rfl]
    generalize gn l = u
    generalize gn k = v
    generalize gn t = x
    apply GQ.ext' <;> simp only [neg_re, neg_im, mul_re, mul_im, sub_re, sub_im, one_re, one_im] <;> grind
theorem Wh.node (k l : Nat) : Wh (P.gn k - P.gn l) := (Wh.gn k).sub (Wh.gn l)
theorem rowI {L : GQ} {k n : Nat} (hL : Wh L) : ∀ (ls : List Nat), (∀ l ∈ ls, ∃ y, Wh y ∧ L = (gn k - gn l) * y) → ∀ {r : Nat → GQ}, Sup (n + 1) r → (∀ i, i ≤ n → Wh (rowd k ls r i * pw L (n - i))) → ∀ i, i ≤ n → Wh (fac k ls * r i * pw L (n - i))
  | [], _, r, _, h, i, hi => by
    show Wh (1 * r i * _)
    rw [gone_mul]; exact h i hi
  | l :: ls, hls, r, hs, h, i, hi => by
    have ih := rowI hL ls (fun x hx => hls x (List.mem_cons_of_mem _ hx)) (r := dR (gn k - gn l) r) (hs.dR _) h
    obtain ⟨y, hy, hLy⟩ := hls l List.mem_cons_self
    have key : ∀ d i, i + d = n → Wh ((gn k - gn l) * fac k ls * r i * pw L d) := by
      intro d
      induction d with
      | zero =>
        intro i hi
        have h1 := ih i (by omega)
        rw [show n - i = 0 by omega] at h1
        have e : dR (gn k - gn l) r i = (gn k - gn l) * r i := by
          obtain rfl : i = n := by omega
          exact dR_top hs _
        rw [e] at h1
        have : (gn k - gn l) * fac k ls * r i * pw L 0 = fac k ls * ((gn k - gn l) * r i) * pw L 0 := by
          rw [gmul_comm (gn k - gn l) (fac k ls), gmul_assoc (fac k ls)]
        rw [this]; exact h1
      | succ d ihd =>
        intro i hi
        have h1 := ih i (by omega)
        rw [show n - i = d + 1 by omega] at h1
        have h2 := (ihd (i + 1) (by omega)).mul hy
        have e : (gn k - gn l) * fac k ls * r i * pw L (d + 1) = fac k ls * dR (gn k - gn l) r i * pw L (d + 1) - (gn k - gn l) * fac k ls * r (i + 1) * pw L d * y := by
          have e1 : (gn k - gn l) * fac k ls * r (i + 1) * pw L d * y = fac k ls * r (i + 1) * (pw L d * L) := by
            generalize pw L d = w
            rw [hLy]
            generalize gn k - gn l = u
            simp only [gmul_assoc, gmul_comm, gmul_left_comm]
          rw [e1, show pw L (d + 1) = pw L d * L from rfl]
          show _ = fac k ls * ((gn k - gn l) * r i + r (i + 1)) * _ - _
          rw [gmul_add, gadd_mul, gadd_sub_cancel, gmul_comm (gn k - gn l) (fac k ls), gmul_assoc (fac k ls)]
        rw [e]
        exact h1.sub h2
    exact key (n - i) i (by omega)
theorem nr_node_mul {k l : Nat} (h : l ≠ k) (x : GQ) : nr x ≤ nr ((gn k - gn l) * x) := by
  have e : gn k - gn l = q (((k : Nat) : Rat) - ((l : Nat) : Rat)) := (q_sub _ _).symm
  rw [e]
  have e2 : nr (q (((k : Nat) : Rat) - ((l : Nat) : Rat)) * x) = ab (((k : Nat) : Rat) - ((l : Nat) : Rat)) * nr x := by
    unfold nr
    simp only [mul_re, mul_im, q_re, q_im]
    rw [show ∀ a b : Rat, a * b - 0 * x.im = a * b from fun a b => by grind, show ∀ a b : Rat, a * b + 0 * x.re = a * b from fun a b => by grind, ab_mul, ab_mul]
    grind
  rw [e2]
  have h1 : (1 : Rat) ≤ ab (((k : Nat) : Rat) - ((l : Nat) : Rat)) := by
    rcases Nat.lt_or_gt_of_ne h with hlt | hgt
    · have : ((l + 1 : Nat) : Rat) ≤ ((k : Nat) : Rat) := by rw [Rat.natCast_le_natCast]; omega
      rw [Rat.natCast_add, show ((1 : Nat) : Rat) = 1 from rfl] at this
      have := le_ab (((k : Nat) : Rat) - ((l : Nat) : Rat))
      grind
    · have : ((k + 1 : Nat) : Rat) ≤ ((l : Nat) : Rat) := by rw [Rat.natCast_le_natCast]; omega
      rw [Rat.natCast_add, show ((1 : Nat) : Rat) = 1 from rfl] at this
      have := neg_le_ab (((k : Nat) : Rat) - ((l : Nat) : Rat))
      grind
  have := Rat.mul_le_mul_of_nonneg_right h1 (nr_nn x)
  rw [Rat.one_mul] at this
  exact this
theorem rowB {k n : Nat} : ∀ (ls : List Nat), k ∉ ls → ∀ {r : Nat → GQ} {B : Rat}, 0 ≤ B → Sup (n + 1) r → (∀ i, i ≤ n → nr (rowd k ls r i) ≤ B * rp 2 (n - i)) → ∀ i, i ≤ n → nr (r i) ≤ B * rp 2 ls.length * rp 2 (n - i)
  | [], _, r, B, _, _, h, i, hi => by
    show nr (r i) ≤ B * 1 * _
    rw [Rat.mul_one]; exact h i hi
  | l :: ls, hk, r, B, hB, hs, h, i, hi => by
    have hne : l ≠ k := fun e => hk (by rw [e]; exact List.mem_cons_self)
    have ih := rowB ls (fun hm => hk (List.mem_cons_of_mem _ hm)) (r := dR (gn k - gn l) r) hB (hs.dR _) h
    have hC : 0 ≤ B * rp 2 ls.length := Rat.mul_nonneg hB (Rat.le_of_lt (rp2_pos _))
    have e2 : rp 2 (l :: ls).length = rp 2 ls.length * 2 := rfl
    rw [e2, ← Rat.mul_assoc]
    generalize B * rp 2 ls.length = C at ih hC
    have key : ∀ d i, i + d = n → nr (r i) ≤ C * 2 * rp 2 d := by
      intro d
      induction d with
      | zero =>
        intro i hi
        have h1 := ih i (by omega)
        obtain rfl : i = n := by omega
        rw [Nat.sub_self, dR_top hs] at h1
        have h2 := nr_node_mul hne (r i)
        have e3 : rp 2 0 = 1 := rfl
        rw [e3] at h1 ⊢
        grind
      | succ d ihd =>
        intro i hi
        have h1 := ih i (by omega)
        rw [show n - i = d + 1 by omega] at h1
        have h2 := ihd (i + 1) (by omega)
        have h3 := nr_node_mul hne (r i)
        have e : (gn k - gn l) * r i = dR (gn k - gn l) r i - r (i + 1) := by
          show _ = (gn k - gn l) * r i + r (i + 1) - r (i + 1)
          rw [gadd_sub_cancel]
        have h4 := nr_sub (dR (gn k - gn l) r i) (r (i + 1))
        rw [← e] at h4
        have e3 : rp 2 (d + 1) = rp 2 d * 2 := rfl
        rw [e3] at h1 ⊢
        grind
    exact key (n - i) i (by omega)
theorem unitN {m n : Nat} {a : Nat → Nat → GQ} (h : Far m n a) {k : Nat} (hk : k ≤ m) : (∀ i, i ≤ n → Wh (fac k (oth m (n + 1) k) * a k i * pw (gn (fc m)) (n - i))) ∧ ∀ i, i ≤ n → nr (a k i) ≤ rp 2 (m * (n + 1)) * rp 2 (n - i) := by
  obtain ⟨h0, h1⟩ := h.unit hk
  have hw : ∀ i, i ≤ n → rowd k (oth m (n + 1) k) (a k) i = 0 ∨ rowd k (oth m (n + 1) k) (a k) i = 1 := fun i hi => by
    by_cases e : i = n
    · subst e; exact .inr h1
    · exact .inl (h0 i (by omega))
  constructor
  · refine rowI (Wh.gn _) _ (fun l hl => ?_) (h.sup k) fun i hi => ?_
    · have hne : l ≠ k := by
        intro e
        subst e
        exact oth_not m (n + 1) l hl
      have hlm : l ≤ m := by
        unfold oth at hl
        rw [List.mem_flatMap] at hl
        obtain ⟨x, hx, hm⟩ := hl
        rw [(List.mem_replicate.1 hm).2]
        rw [List.mem_filter] at hx
        have := List.mem_range.1 hx.1
        omega
      exact node_dvd hk hlm hne
    · rcases hw i hi with e | e <;> rw [e]
      · rw [gzero_mul]; exact Wh.zero
      · rw [gone_mul]; exact (Wh.gn _).pw _
  · intro i hi
    have := rowB (n := n) (oth m (n + 1) k) (oth_not m (n + 1) k) (r := a k) (B := 1) (by decide) (h.sup k) (fun i hi => by
      have hp := rp2_pos (n - i)
      have h1' : (1 : Rat) ≤ rp 2 (n - i) := by
        clear hp
        induction n - i with
        | zero => exact Rat.le_refl
        | succ d ih => show (1 : Rat) ≤ rp 2 d * 2; grind
      rcases hw i hi with e | e <;> rw [e]
      · rw [nr_zero]; grind
      · rw [nr_one]; grind) i hi
    rwa [Rat.one_mul, oth_length hk] at this
/-- nodes taken out of rows -/
theorem dCs_props {m n : Nat} {L : GQ} (hL : Wh L) {X : Nat → GQ} (hX : ∀ k, k ≤ m → Wh (X k)) : ∀ (ls : List Nat), (∀ l ∈ ls, l ≤ m) → ∀ {c : Nat → Nat → GQ} {B : Rat}, 0 ≤ B → (∀ k, Sup (n + 1) (c k)) → (∀ k, k ≤ m → (∀ i, i ≤ n → Wh (X k * c k i * pw L (n - i))) ∧ ∀ i, i ≤ n → nr (c k i) ≤ B * rp 2 (n - i)) →
    ∀ k, k ≤ m → (∀ i, i ≤ n → Wh (X k * dCs ls c k i * pw L (n - i))) ∧ ∀ i, i ≤ n → nr (dCs ls c k i) ≤ B * rp ((m + 1 : Nat) : Rat) ls.length * rp 2 (n - i)
  | [], _, c, B, _, _, h, k, hk => by
    obtain ⟨h1, h2⟩ := h k hk
    refine ⟨h1, fun i hi => ?_⟩
    show _ ≤ B * 1 * _
    rw [Rat.mul_one]; exact h2 i hi
  | l :: ls, hl, c, B, hB, hs, h, k, hk => by
    have hlm := hl l List.mem_cons_self
    have ih := dCs_props hL hX ls (fun x hx => hl x (List.mem_cons_of_mem _ hx)) (c := dC l c) (B := B * ((m + 1 : Nat) : Rat)) (Rat.mul_nonneg hB (nat_nn _)) (fun k => (hs k).dR _) (fun k hk => by
      obtain ⟨h1, h2⟩ := h k hk
      constructor
      · intro i hi
        show Wh (X k * ((gn k - gn l) * c k i + c k (i + 1)) * pw L (n - i))
        have e : X k * ((gn k - gn l) * c k i + c k (i + 1)) * pw L (n - i) = (gn k - gn l) * (X k * c k i * pw L (n - i)) + X k * c k (i + 1) * pw L (n - i) := by
          generalize gn k - gn l = u
          generalize pw L (n - i) = w
          apply GQ.ext' <;> simp only [mul_re, mul_im, add_re, add_im] <;> grind
        rw [e]
        refine ((Wh.node k l).mul (h1 i hi)).add ?_
        by_cases e : i = n
        · rw [hs k (i + 1) (by omega), gmul_zero, gzero_mul]; exact Wh.zero
        · rw [show n - i = n - (i + 1) + 1 by omega, pw_succ, ← gmul_assoc]
          exact (h1 (i + 1) (by omega)).mul hL
      · intro i hi
        show nr ((gn k - gn l) * c k i + c k (i + 1)) ≤ _
        have h3 := nr_add ((gn k - gn l) * c k i) (c k (i + 1))
        have h4 := nr_mul (gn k - gn l) (c k i)
        have hn : nr (gn k - gn l) ≤ ((m : Nat) : Rat) := by
          have e : gn k - gn l = q (((k : Nat) : Rat) - ((l : Nat) : Rat)) := (q_sub _ _).symm
          rw [e, nr_q, ab_le]
          have a1 : ((k : Nat) : Rat) ≤ ((m : Nat) : Rat) := by rw [Rat.natCast_le_natCast]; omega
          have a2 : ((l : Nat) : Rat) ≤ ((m : Nat) : Rat) := by rw [Rat.natCast_le_natCast]; omega
          have a3 := nat_nn k
          have a4 := nat_nn l
          constructor <;> grind
        have h5 := Rat.le_trans h4 (rmul_le hn (h2 i hi) (nr_nn _) (nat_nn m))
        have h6 : nr (c k (i + 1)) ≤ B * rp 2 (n - i) := by
          by_cases e : i = n
          · rw [hs k (i + 1) (by omega), nr_zero]; exact Rat.mul_nonneg hB (Rat.le_of_lt (rp2_pos _))
          · refine Rat.le_trans (h2 (i + 1) (by omega)) (Rat.mul_le_mul_of_nonneg_left ?_ hB)
            rw [show n - i = n - (i + 1) + 1 by omega]
            have := rp2_pos (n - (i + 1))
            show _ ≤ rp 2 (n - (i + 1)) * 2
            grind
        rw [Rat.natCast_add, show ((1 : Nat) : Rat) = 1 from rfl]
        grind) k hk
    refine ⟨ih.1, fun i hi => ?_⟩
    have h7 := ih.2 i hi
    have e : B * ((m + 1 : Nat) : Rat) * rp ((m + 1 : Nat) : Rat) ls.length = B * rp ((m + 1 : Nat) : Rat) (l :: ls).length := by
      show _ = B * (rp ((m + 1 : Nat) : Rat) ls.length * ((m + 1 : Nat) : Rat))
      grind
    rw [e] at h7
    exact h7
end Go.Proofs.YtnjgliojkoeneaaGreat.P
set_option linter.unusedSimpArgs false
set_option linter.unusedVariables false
namespace Go.Proofs.YtnjgliojkoeneaaGreat.P
open GQ
theorem rp_add (a : Rat) (m : Nat) : ∀ n, rp a (m + n) = rp a m * rp a n
  | 0 => by show rp a m = rp a m * 1; rw [Rat.mul_one]
  | n + 1 => by show rp a (m + n) * a = rp a m * (rp a n * a); rw [rp_add a m n, Rat.mul_assoc]
theorem rp_rp (a : Rat) (m : Nat) : ∀ n, rp (rp a m) n = rp a (m * n)
  | 0 => rfl
  | n + 1 => by show rp (rp a m) n * rp a m = rp a (m * n + m); rw [rp_rp a m n, rp_add]
theorem rp_le {a b : Rat} (ha : 0 ≤ a) (h : a ≤ b) : ∀ n, rp a n ≤ rp b n
  | 0 => Rat.le_refl
  | n + 1 => rmul_le (rp_le ha h n) h ha (rp_nn (Rat.le_trans ha h) n)
theorem rp_one_le {a : Rat} (h : 1 ≤ a) : ∀ n, 1 ≤ rp a n
  | 0 => Rat.le_refl
  | n + 1 => by
    have h1 := rp_one_le h n
    have h2 := rmul_le h1 h (by decide) (by grind)
    show 1 ≤ rp a n * a
    rwa [Rat.one_mul] at h2
theorem rp_mono {a : Rat} (h : 1 ≤ a) {m n : Nat} (hmn : m ≤ n) : rp a m ≤ rp a n := by
  obtain ⟨d, rfl⟩ : ∃ d, n = m + d := ⟨n - m, by omega⟩
  rw [rp_add]
  have h1 := rp_one_le h d
  have h2 := Rat.mul_le_mul_of_nonneg_left h1 (rp_nn (show 0 ≤ a by grind) m)
  rwa [Rat.mul_one] at h2
theorem rp_nat (a : Nat) : ∀ n, rp (a : Rat) n = ((a ^ n : Nat) : Rat)
  | 0 => by show (1 : Rat) = ((1 : Nat) : Rat); rfl
  | n + 1 => by show rp (a : Rat) n * (a : Rat) = _; rw [rp_nat a n, Nat.pow_succ, Rat.natCast_mul]
theorem rp2_nat (n : Nat) : rp 2 n = ((2 ^ n : Nat) : Rat) := by
  rw [← rp_nat]; rfl
theorem rp2_succ (n : Nat) : rp 2 (n + 1) = rp 2 n * 2 := rfl
theorem rt_scale (c x : Rat) : ∀ j, rt (c * x) j = rp c j * rt x j
  | 0 => by show (1 : Rat) = 1 * 1; rw [Rat.mul_one]
  | j + 1 => by
    show rt (c * x) j * (1 / ((j + 1 : Nat) : Rat) * (c * x)) = rp c j * c * (rt x j * (1 / ((j + 1 : Nat) : Rat) * x))
    rw [rt_scale c x j]
    grind
theorem nr_gn_mul (d : Nat) (x : GQ) : nr (gn d * x) = (d : Rat) * nr x := by
  unfold nr gn
  simp only [mul_re, mul_im, q_re, q_im]
  rw [show ∀ a b : Rat, a * b - 0 * x.im = a * b from fun a b => by grind, show ∀ a b : Rat, a * b + 0 * x.re = a * b from fun a b => by grind, ab_mul, ab_mul, ab_of (nat_nn d)]
  grind
theorem small {m : Nat} (hm : 0 < m) {cs : List Nat} (hcs : ∀ c ∈ cs, c ≤ m) {b : GQ} {B : Rat} (hb : nr b ≤ B) (h4 : ((2 * m : Nat) : Rat) * B + ((2 * m : Nat) : Rat) * B ≤ ((cs.length + 1 : Nat) : Rat)) (r : Nat) :
    nr (sm (fun j => hs m cs j * et b j) (cs.length + r)) ≤ rt (2 * B) cs.length + rt (2 * B) cs.length := by
  have hB : 0 ≤ B := Rat.le_trans (nr_nn b) hb
  have hx : 0 ≤ ((2 * m : Nat) : Rat) * B := Rat.mul_nonneg (nat_nn _) hB
  have hmp : 0 < rp ((m : Nat) : Rat) cs.length := by
    rw [rp_nat]; exact nat_pos (Nat.pow_pos hm)
  have hterm : ∀ j, rp ((m : Nat) : Rat) cs.length * nr (hs m cs j * et b j) ≤ rt (((2 * m : Nat) : Rat) * B) j := by
    intro j
    have h1 := hn_bound hm m (Nat.le_refl _) cs hcs j
    have h2 : ((hn m cs j * m ^ cs.length : Nat) : Rat) ≤ (((2 * m) ^ j : Nat) : Rat) := Rat.natCast_le_natCast.2 h1
    rw [Rat.natCast_mul, ← rp_nat, ← rp_nat] at h2
    rw [show hs m cs j = gn (hn m cs j) from rfl, nr_gn_mul, rt_scale]
    have h3 := nr_et hb j
    have h5 := rmul_le h2 h3 (nr_nn _) (rp_nn (nat_nn _) j)
    have e : rp ((m : Nat) : Rat) cs.length * (((hn m cs j : Nat) : Rat) * nr (et b j)) = ((hn m cs j : Nat) : Rat) * rp ((m : Nat) : Rat) cs.length * nr (et b j) := by grind
    rw [e]; exact h5
  have key : ∀ r, rp ((m : Nat) : Rat) cs.length * nr (sm (fun j => hs m cs j * et b j) (cs.length + r)) + (rt (((2 * m : Nat) : Rat) * B) (cs.length + r) + rt (((2 * m : Nat) : Rat) * B) (cs.length + r)) ≤ rt (((2 * m : Nat) : Rat) * B) cs.length + rt (((2 * m : Nat) : Rat) * B) cs.length := by
    intro r
    induction r with
    | zero =>
      rw [Nat.add_zero, sm_all0 fun j hj => by rw [show hs m cs j = gn (hn m cs j) from rfl, hn_zero m cs j hj, gn_zero, gzero_mul], nr_zero, Rat.mul_zero, Rat.zero_add]
      exact Rat.le_refl
    | succ r ih =>
      have h1 := hterm (cs.length + r)
      have h2 := rt_half hx h4 r
      have h3 := nr_add (sm (fun j => hs m cs j * et b j) (cs.length + r)) (hs m cs (cs.length + r) * et b (cs.length + r))
      have h5 := Rat.mul_le_mul_of_nonneg_left h3 (Rat.le_of_lt hmp)
      rw [← Nat.add_assoc, sm_succ]
      rw [Rat.mul_add] at h5
      grind
  have h6 := key r
  have h7 := rt_nn hx (cs.length + r)
  have e : rt (((2 * m : Nat) : Rat) * B) cs.length = rp ((m : Nat) : Rat) cs.length * rt (2 * B) cs.length := by
    rw [← rt_scale]
    congr 1
    rw [Rat.natCast_mul, show ((2 : Nat) : Rat) = 2 from rfl]; grind
  rw [e] at h6
  have h8 : rp ((m : Nat) : Rat) cs.length * nr (sm (fun j => hs m cs j * et b j) (cs.length + r)) ≤ rp ((m : Nat) : Rat) cs.length * (rt (2 * B) cs.length + rt (2 * B) cs.length) := by grind
  exact Rat.le_of_mul_le_mul_left h8 hmp
theorem fc_et (z : GQ) : ∀ i, gn (fc i) * et z i = pw z i
  | 0 => by show gn 1 * 1 = 1; rw [gn_one, gmul_one]
  | i + 1 => by
    show gn ((i + 1) * fc i) * et z (i + 1) = pw z i * z
    rw [← fc_et z i, gn_mul, gmul_comm (gn (i + 1)), gmul_assoc, et_next, gmul_assoc]
theorem pw_gn' (c : Nat) (j : Nat) : gn (c ^ j) = pw (gn c) j := (pw_gn c j).symm
theorem et_wh {b n i : Nat} {z : GQ} (hz : Wh (gn b * z)) (hi : i ≤ n) : Wh (gn (fc n) * pw (gn b) n * et z i) := by
  obtain ⟨t, ht⟩ := fc_dvd n i (n - i) (by omega)
  have e : gn (fc n) * pw (gn b) n * et z i = gn (fc (n - i) * t) * pw (gn b) (n - i) * pw (gn b * z) i := by
    have h1 : pw (gn b) n = pw (gn b) i * pw (gn b) (n - i) := by rw [← pw_add]; congr 1; omega
    rw [ht, Nat.mul_assoc, gn_mul (fc i), h1, pw_mul, ← fc_et z i]
    generalize gn (fc (n - i) * t) = u
    generalize pw (gn b) i = v
    generalize pw (gn b) (n - i) = w
    generalize gn (fc i) = x
    generalize et z i = y
    simp only [gmul_assoc, gmul_comm, gmul_left_comm]
  rw [e]
  exact ((Wh.gn _).mul ((Wh.gn _).pw _)).mul (hz.pw _)
def dn (m n b k : Nat) : Nat := fc m ^ (n + 1) * fc m ^ n * fc n * b ^ n * k ^ m
theorem val_wh {m n : Nat} {a : Nat → Nat → GQ} (F : Far m n a) {s : Nat} (hs : s ≤ m) {b k : Nat} {z x : GQ} (hz : Wh (gn b * z)) (hx : Wh (gn k * x)) : Wh (gn (dn m n b k) * val m n a s z x) := by
  unfold val
  rw [← sm_mul]
  refine Wh.sum _ fun l hl => ?_
  rw [← sm_mul_right, ← sm_mul]
  refine Wh.sum _ fun i hi => ?_
  have hp := (dCs_props (n := n) (L := gn (fc m)) (Wh.gn _) (X := fun k => fac k (oth m (n + 1) k)) (fun k _ => by
    clear hl hi
    induction oth m (n + 1) k with
    | nil => exact Wh.one
    | cons l ls ih => exact (Wh.node k l).mul ih) (List.range s) (fun l hl => by have := List.mem_range.1 hl; omega) (c := a) (B := rp 2 (m * (n + 1))) (Rat.le_of_lt (rp2_pos _)) F.sup (fun k hk => unitN F hk) l (by omega)).1 i (by omega)
  obtain ⟨y, hy, ey⟩ := fac_oth (m := m) (k := l) (n + 1) (by omega)
  have e : gn (dn m n b k) * (dCs (List.range s) a l i * et z i * pw x l) = (fac l (oth m (n + 1) l) * dCs (List.range s) a l i * pw (gn (fc m)) (n - i)) * (y * pw (gn (fc m)) i) * (gn (fc n) * pw (gn b) n * et z i) * (pw (gn k) (m - l) * pw (gn k * x) l) := by
    unfold dn
    have h1 : pw (gn (fc m)) n = pw (gn (fc m)) i * pw (gn (fc m)) (n - i) := by rw [← pw_add]; congr 1; omega
    have h2 : pw (gn k) m = pw (gn k) l * pw (gn k) (m - l) := by rw [← pw_add]; congr 1; omega
    rw [gn_mul, gn_mul, gn_mul, gn_mul, pw_gn', pw_gn', pw_gn', pw_gn', ey, h1, h2, pw_mul]
    generalize fac l (oth m (n + 1) l) = t1
    generalize dCs (List.range s) a l i = t2
    generalize pw (gn (fc m)) i = t3
    generalize pw (gn (fc m)) (n - i) = t4
    generalize gn (fc n) = t5
    generalize pw (gn b) n = t6
    generalize et z i = t7
    generalize pw (gn k) l = t8
    generalize pw (gn k) (m - l) = t9
    generalize pw x l = t10
    simp only [gmul_assoc, gmul_comm, gmul_left_comm]
  rw [e]
  exact ((hp.mul (hy.mul ((Wh.gn _).pw _))).mul (et_wh hz (by omega))).mul (((Wh.gn _).pw _).mul (hx.pw _))
theorem pw_dif {u v : GQ} {R : Rat} (hR : 1 ≤ R) (hu : nr u ≤ R) (hv : nr v ≤ R) : ∀ k, nr (pw u k - pw v k) ≤ ((k : Nat) : Rat) * rp R k * nr (u - v)
  | 0 => by
    rw [pw_zero, pw_zero, gsub_self, nr_zero, show ((0 : Nat) : Rat) = 0 from rfl, Rat.zero_mul, Rat.zero_mul]
    exact Rat.le_refl
  | k + 1 => by
    have ih := pw_dif hR hu hv k
    have e : pw u (k + 1) - pw v (k + 1) = pw u k * (u - v) + (pw u k - pw v k) * v := by
      rw [pw_succ, pw_succ, gmul_sub, gsub_mul]
      apply GQ.ext' <;> simp only [add_re, add_im, sub_re, sub_im] <;> grind
    have hd := nr_nn (u - v)
    have hr := rp_nn (show 0 ≤ R by grind) k
    have h1 := nr_add (pw u k * (u - v)) ((pw u k - pw v k) * v)
    have h2 := nr_mul (pw u k) (u - v)
    have h3 := nr_mul (pw u k - pw v k) v
    have h4 : nr (pw u k) ≤ rp R k := Rat.le_trans (nr_pw u k) (rp_le (nr_nn u) hu k)
    have h5 := Rat.mul_le_mul_of_nonneg_right h4 hd
    have h6 := rmul_le ih hv (nr_nn v) (Rat.mul_nonneg (Rat.mul_nonneg (nat_nn k) hr) hd)
    have h7 := Rat.mul_le_mul_of_nonneg_left hR (Rat.mul_nonneg hr hd)
    have e2 : ((k : Nat) : Rat) * rp R k * nr (u - v) * R = ((k : Nat) : Rat) * (rp R k * nr (u - v) * R) := by grind
    have e3 : ((k + 1 : Nat) : Rat) * rp R (k + 1) * nr (u - v) = ((k : Nat) : Rat) * (rp R k * nr (u - v) * R) + rp R k * nr (u - v) * R := by
      rw [Rat.natCast_add, show ((1 : Nat) : Rat) = 1 from rfl]
      show (_ + 1) * (rp R k * R) * _ = _
      grind
    rw [e, e3]
    rw [e2] at h6
    rw [Rat.mul_one] at h7
    grind
theorem val_dif {m n : Nat} {a : Nat → Nat → GQ} (F : Far m n a) {s : Nat} (hs : s ≤ m) {z u v : GQ} {B R : Rat} (hz : nr z ≤ B) (hR : 1 ≤ R) (hu : nr u ≤ R) (hv : nr v ≤ R) :
    nr (val m n a s z u - val m n a s z v) ≤ ((m + 1 : Nat) : Rat) * (rp 2 (m * (n + 1)) * rp ((m + 1 : Nat) : Rat) m * rp 2 n * RE B (n + 1) * (((m : Nat) : Rat) * rp R m)) * nr (u - v) := by
  have hB : 0 ≤ B := Rat.le_trans (nr_nn z) hz
  have hp := fun l (hl : l ≤ m) => (dCs_props (n := n) (L := gn (fc m)) (Wh.gn _) (X := fun k => fac k (oth m (n + 1) k)) (fun k _ => by
    clear hl
    induction oth m (n + 1) k with
    | nil => exact Wh.one
    | cons l ls ih => exact (Wh.node k l).mul ih) (List.range s) (fun l hl => by have := List.mem_range.1 hl; omega) (c := a) (B := rp 2 (m * (n + 1))) (Rat.le_of_lt (rp2_pos _)) F.sup (fun k hk => unitN F hk) l hl).2
  let C : Rat := rp 2 (m * (n + 1)) * rp ((m + 1 : Nat) : Rat) m * rp 2 n
  have hC : 0 ≤ C := Rat.mul_nonneg (Rat.mul_nonneg (Rat.le_of_lt (rp2_pos _)) (rp_nn (nat_nn _) _)) (Rat.le_of_lt (rp2_pos _))
  have hc : ∀ l, l ≤ m → ∀ i, i ≤ n → nr (dCs (List.range s) a l i) ≤ C := by
    intro l hl i hi
    refine Rat.le_trans (hp l hl i hi) (rmul_le (Rat.mul_le_mul_of_nonneg_left ?_ (Rat.le_of_lt (rp2_pos _))) (rp_mono (by decide) (by omega)) (Rat.le_of_lt (rp2_pos _)) (Rat.mul_nonneg (Rat.le_of_lt (rp2_pos _)) (rp_nn (nat_nn _) _)))
    rw [List.length_range]
    exact rp_mono (by rw [show (1 : Rat) = ((1 : Nat) : Rat) from rfl, Rat.natCast_le_natCast]; omega) hs
  have hP : ∀ l, l ≤ m → nr (sm (fun i => dCs (List.range s) a l i * et z i) (n + 1)) ≤ C * RE B (n + 1) := by
    intro l hl
    refine Rat.le_trans (nr_sm _ _) ?_
    unfold RE
    rw [← rsm_mul]
    exact rsm_le fun i hi => Rat.le_trans (nr_mul _ _) (rmul_le (hc l hl i (by omega)) (nr_et hz i) (nr_nn _) hC)
  have e : val m n a s z u - val m n a s z v = sm (fun l => sm (fun i => dCs (List.range s) a l i * et z i) (n + 1) * (pw u l - pw v l)) (m + 1) := by
    unfold val
    rw [gsub_eq_of, ← sm_add]
    exact sm_congr fun l _ => by rw [← gmul_add, gsub_add_cancel]
  rw [e]
  refine Rat.le_trans (nr_sm _ _) ?_
  have hd := nr_nn (u - v)
  refine Rat.le_trans (rsm_le (g := fun _ => C * RE B (n + 1) * (((m : Nat) : Rat) * rp R m) * nr (u - v)) fun l hl => ?_) (by
    rw [rsm_const]
    show ((m + 1 : Nat) : Rat) * (C * RE B (n + 1) * (((m : Nat) : Rat) * rp R m) * nr (u - v)) ≤ ((m + 1 : Nat) : Rat) * (C * RE B (n + 1) * (((m : Nat) : Rat) * rp R m)) * nr (u - v)
    rw [← Rat.mul_assoc]; exact Rat.le_refl)
  refine Rat.le_trans (nr_mul _ _) ?_
  rw [Rat.mul_assoc (C * RE B (n + 1))]
  refine rmul_le (hP l (by omega)) ?_ (nr_nn _) (Rat.mul_nonneg hC (RE_nn hB _))
  refine Rat.le_trans (pw_dif hR hu hv l) (Rat.mul_le_mul_of_nonneg_right (rmul_le (Rat.natCast_le_natCast.2 (by omega)) (rp_mono hR (by omega)) (rp_nn (by grind) _) (nat_nn m)) hd)
theorem RE_one (n : Nat) : RE 1 n ≤ 3 := by
  rcases Nat.lt_or_ge n 1 with h | h
  · obtain rfl : n = 0 := by omega
    show (0 : Rat) ≤ 3
    decide
  · have h1 := RE_rest (x := 1) (by decide) (n := 1) (by decide +kernel) (n - 1)
    rw [show 1 + (n - 1) = n by omega] at h1
    have h2 := rt_nn (x := 1) (by decide) n
    have h3 : RE 1 1 + (rt 1 1 + rt 1 1) = 3 := by decide +kernel
    grind
theorem RE_nat (n : Nat) : ∀ k : Nat, RE ((k : Nat) : Rat) n ≤ rp 3 k
  | 0 => by
    rcases Nat.lt_or_ge n 1 with h | h
    · obtain rfl : n = 0 := by omega
      show (0 : Rat) ≤ 1
      decide
    · have h1 := RE_rest (x := 0) (by decide) (n := 1) (by decide +kernel) (n - 1)
      rw [show 1 + (n - 1) = n by omega] at h1
      have h2 := rt_nn (x := 0) (by decide) n
      have h3 : RE 0 1 + (rt 0 1 + rt 0 1) = 1 := by decide +kernel
      show RE 0 n ≤ 1
      grind
  | k + 1 => by
    have h1 := RE_add_le (nat_nn k) (show (0 : Rat) ≤ 1 by decide) n
    rw [Rat.natCast_add, show ((1 : Nat) : Rat) = 1 from rfl]
    exact Rat.le_trans h1 (rmul_le (RE_nat n k) (RE_one n) (RE_nn (by decide) n) (rp_nn (by decide) k))
theorem rt_own (J : Nat) : rt ((J : Nat) : Rat) J ≤ rp 3 J := by
  refine Rat.le_trans ?_ (RE_nat (J + 1) J)
  have := RE_nn (nat_nn J) J
  show _ ≤ RE ((J : Nat) : Rat) J + rt ((J : Nat) : Rat) J
  grind
theorem rt_far {J : Nat} (h : 67108864 ≤ J) : rt 256 J * rp 2 (16 * J) ≤ 1 := by
  have h1 := rt_own J
  have e1 : ((J : Nat) : Rat) = ((J : Nat) : Rat) * (1 / 256) * 256 := by rw [Rat.mul_assoc, show (1 / 256 * 256 : Rat) = 1 by decide +kernel, Rat.mul_one]
  have hJ : (262144 : Rat) ≤ ((J : Nat) : Rat) * (1 / 256) := by
    have h2 : ((67108864 : Nat) : Rat) ≤ ((J : Nat) : Rat) := Rat.natCast_le_natCast.2 h
    have h3 := Rat.mul_le_mul_of_nonneg_right h2 (show (0 : Rat) ≤ 1 / 256 by decide +kernel)
    rwa [show ((67108864 : Nat) : Rat) * (1 / 256) = 262144 by decide +kernel] at h3
  rw [e1, rt_scale] at h1
  have h4 : rp 2 (18 * J) ≤ rp (((J : Nat) : Rat) * (1 / 256)) J := by
    rw [← rp_rp, show rp 2 18 = 262144 by decide +kernel]
    exact rp_le (by decide) hJ J
  have h5 : rp 3 J ≤ rp 2 (2 * J) := by
    rw [← rp_rp, show rp 2 2 = 4 by decide +kernel]
    exact rp_le (by decide) (by decide) J
  have h6 := Rat.mul_le_mul_of_nonneg_right h4 (rt_nn (show (0 : Rat) ≤ 256 by decide) J)
  rw [show 18 * J = 16 * J + 2 * J by omega, rp_add] at h6
  have h7 : rt 256 J * rp 2 (16 * J) * rp 2 (2 * J) ≤ 1 * rp 2 (2 * J) := by grind
  exact Rat.le_of_mul_le_mul_right h7 (rp2_pos _)
theorem pow_le_rp {a e : Nat} (h : a ≤ 2 ^ e) (n : Nat) : ((a ^ n : Nat) : Rat) ≤ rp 2 (e * n) := by
  rw [rp2_nat, Rat.natCast_le_natCast, Nat.pow_mul]
  exact Nat.pow_le_pow_left h n
theorem fc_two {m e : Nat} (h : m ≤ 2 ^ e) : fc m ≤ 2 ^ (e * m) := Nat.le_trans (fc_le m) (by rw [Nat.pow_mul]; exact Nat.pow_le_pow_left h m)
theorem dn_le {n b k B K : Nat} (hn : n ≤ 2 ^ 20) (hb : b ≤ 2 ^ B) (hk : k ≤ 2 ^ K) : ((dn 64 n b k : Nat) : Rat) ≤ rp 2 (6 * 64 * (n + 1) + 6 * 64 * n + 20 * n + B * n + K * 64) := by
  have h1 := fc_two (m := 64) (e := 6) (by decide)
  have h2 : ((fc n : Nat) : Rat) ≤ rp 2 (20 * n) := Rat.le_trans (Rat.natCast_le_natCast.2 (fc_le n)) (pow_le_rp hn n)
  have p := fun i => Rat.le_of_lt (rp2_pos i)
  unfold dn
  rw [Rat.natCast_mul, Rat.natCast_mul, Rat.natCast_mul, Rat.natCast_mul, rp_add, rp_add, rp_add, rp_add]
  exact rmul_le (rmul_le (rmul_le (rmul_le (pow_le_rp h1 _) (pow_le_rp h1 _) (nat_nn _) (p _)) h2 (nat_nn _) (Rat.mul_nonneg (p _) (p _))) (pow_le_rp hb n) (nat_nn _) (Rat.mul_nonneg (Rat.mul_nonneg (p _) (p _)) (p _))) (pow_le_rp hk 64) (nat_nn _) (Rat.mul_nonneg (Rat.mul_nonneg (Rat.mul_nonneg (p _) (p _)) (p _)) (p _))
theorem dif_le (n : Nat) {R : Rat} {Re : Nat} (hR0 : 0 ≤ R) (hR : R ≤ rp 2 Re) : ((64 + 1 : Nat) : Rat) * (rp 2 (64 * (n + 1)) * rp ((64 + 1 : Nat) : Rat) 64 * rp 2 n * RE 128 (n + 1) * (((64 : Nat) : Rat) * rp R 64)) ≤ rp 2 (7 + (64 * (n + 1) + 7 * 64 + n + 2 * 128 + (6 + Re * 64))) := by
  have a1 : ((64 + 1 : Nat) : Rat) ≤ rp 2 7 := by decide +kernel
  have a2 : rp ((64 + 1 : Nat) : Rat) 64 ≤ rp 2 (7 * 64) := by
    rw [← rp_rp]
    exact rp_le (nat_nn _) a1 64
  have a3 : RE 128 (n + 1) ≤ rp 2 (2 * 128) := by
    refine Rat.le_trans (RE_nat (n + 1) 128) ?_
    rw [← rp_rp, show rp 2 2 = 4 by decide +kernel]
    exact rp_le (by decide) (by decide) 128
  have a4 : ((64 : Nat) : Rat) ≤ rp 2 6 := by decide +kernel
  have a5 : rp R 64 ≤ rp 2 (Re * 64) := by rw [← rp_rp]; exact rp_le hR0 hR 64
  have p := fun i => Rat.le_of_lt (rp2_pos i)
  rw [rp_add, rp_add, rp_add, rp_add, rp_add, rp_add]
  exact rmul_le a1 (rmul_le (rmul_le (rmul_le (rmul_le Rat.le_refl a2 (rp_nn (nat_nn _) _) (p _)) Rat.le_refl (p _) (Rat.mul_nonneg (p _) (p _))) a3 (RE_nn (by decide) _) (Rat.mul_nonneg (Rat.mul_nonneg (p _) (p _)) (p _))) (rmul_le a4 a5 (rp_nn hR0 _) (p _)) (Rat.mul_nonneg (nat_nn _) (rp_nn hR0 _)) (Rat.mul_nonneg (Rat.mul_nonneg (Rat.mul_nonneg (p _) (p _)) (p _)) (p _))) (Rat.mul_nonneg (Rat.mul_nonneg (Rat.mul_nonneg (Rat.mul_nonneg (p _) (rp_nn (nat_nn _) _)) (p _)) (RE_nn (by decide) _)) (Rat.mul_nonneg (nat_nn _) (rp_nn hR0 _))) (p _)
theorem En128 {z : GQ} (hz : nr z ≤ 128) (N : Nat) : nr (En z N) ≤ rp 2 256 := by
  refine Rat.le_trans (nr_En hz N) (Rat.le_trans (RE_nat N 128) ?_)
  rw [show (256 : Nat) = 2 * 128 from rfl, ← rp_rp, show rp 2 2 = 4 by decide +kernel]
  exact rp_le (by decide) (by decide) 128
/-- e to a rational power is not near a rational -/
theorem measure {K b k B C : Nat} {z x : GQ} (hz0 : z ≠ 0) (hz : nr z ≤ 128) (hb0 : 0 < b) (hb : b ≤ 2 ^ B) (hB : B ≤ 200) (hbz : Wh (gn b * z)) (hk0 : 0 < k) (hk : k ≤ 2 ^ C) (hC : C ≤ 512) (hkx : Wh (gn k * x)) (hK : 2147483648 ≤ K) : ∃ n0 : Nat, ∀ N, n0 ≤ N → 1 ≤ rp 2 K * nr (En z N - x) := by
  obtain ⟨n, hn⟩ : ∃ n : Nat, n = 1048576 := ⟨_, rfl⟩
  obtain ⟨R0, hR0⟩ : ∃ R0 : Nat, R0 = 256 := ⟨_, rfl⟩
  obtain ⟨a, F⟩ := far_ex 64 n
  obtain ⟨s, hs, hv⟩ := not_all F (b := z) (x := x) hz0
  obtain ⟨cs, hl, hcs, hrep⟩ := F.low hs
  have hJ : 67108864 ≤ cs.length := by omega
  have hw := val_wh F hs hbz hkx
  have hD : ((dn 64 n b k : Nat) : Rat) ≤ rp 2 (6 * 64 * (n + 1) + 6 * 64 * n + 20 * n + B * n + C * 64) := dn_le (by omega) hb hk
  have hBn : B * n ≤ 200 * n := Nat.mul_le_mul_right n hB
  have hdp : 0 < dn 64 n b k := by
    unfold dn
    exact Nat.mul_pos (Nat.mul_pos (Nat.mul_pos (Nat.mul_pos (Nat.pow_pos (fc_pos _)) (Nat.pow_pos (fc_pos _))) (fc_pos _)) (Nat.pow_pos hb0)) (Nat.pow_pos hk0)
  generalize dn 64 n b k = D at hw hD hdp
  obtain ⟨E, hE⟩ : ∃ E : Nat, E = 6 * 64 * (n + 1) + 6 * 64 * n + 20 * n + B * n + C * 64 := ⟨_, rfl⟩
  rw [← hE] at hD
  have hEl : E ≤ 1040 * n := by omega
  have hD0 := nat_pos hdp
  have h1 : 1 ≤ ((D : Nat) : Rat) * nr (val 64 n a s z x) := by
    rw [← nr_gn_mul]
    refine hw.large fun e => ?_
    rcases gmul_eq_zero e with e | e
    · exact gn_ne (by omega) e
    · exact hv e
  have hS : ∀ r, nr (sm (fun j => rep 64 (n + 1) (dCs (List.range s) a) j * et z j) (cs.length + r)) ≤ rt 256 cs.length + rt 256 cs.length := by
    intro r
    rw [sm_congr (g := fun j => P.hs 64 cs j * et z j) fun j _ => by rw [hrep]]
    have := small (m := 64) (by decide) hcs hz (by
      have : ((32768 : Nat) : Rat) ≤ ((cs.length + 1 : Nat) : Rat) := Rat.natCast_le_natCast.2 (by omega)
      rw [show ((2 * 64 : Nat) : Rat) * 128 + ((2 * 64 : Nat) : Rat) * 128 = ((32768 : Nat) : Rat) by decide +kernel]
      exact this) r
    rwa [show (2 * 128 : Rat) = 256 by decide +kernel] at this
  have hSD : ((D : Nat) : Rat) * (rt 256 cs.length * 8) ≤ 1 := by
    have h2 := rt_far hJ
    have h3 := rt_nn (show (0 : Rat) ≤ 256 by decide) cs.length
    have h4 : ((D : Nat) : Rat) * 8 ≤ rp 2 (16 * cs.length) := by
      refine Rat.le_trans (Rat.mul_le_mul_of_nonneg_right hD (by decide)) ?_
      rw [show (8 : Rat) = rp 2 3 by decide +kernel, ← rp_add]
      exact rp_mono (by decide) (by omega)
    have h5 := Rat.mul_le_mul_of_nonneg_left h4 h3
    grind
  obtain ⟨n1, hn1⟩ := val_nul 64 n (dCs (List.range s) a) z (1 / (4 * ((D : Nat) : Rat))) (inv_pos' (Rat.mul_pos (by decide) hD0))
  have hDe : ((D : Nat) : Rat) * (1 / (4 * ((D : Nat) : Rat))) * 4 = 1 := by
    have := one_div_mul (Rat.mul_pos (show (0 : Rat) < 4 by decide) hD0)
    grind
  refine ⟨max n1 cs.length, fun N hN => ?_⟩
  have h2 := hn1 N (by omega)
  have h3 := hS (N - cs.length)
  rw [show cs.length + (N - cs.length) = N by omega] at h3
  have hvE : nr (val 64 n a s z (En z N)) ≤ rt 256 cs.length + rt 256 cs.length + 1 / (4 * ((D : Nat) : Rat)) := by
    have h4 := nr_sub (sm (fun j => rep 64 (n + 1) (dCs (List.range s) a) j * et z j) N) (sm (fun j => rep 64 (n + 1) (dCs (List.range s) a) j * et z j) N - val 64 n a s z (En z N))
    have e : sm (fun j => rep 64 (n + 1) (dCs (List.range s) a) j * et z j) N - (sm (fun j => rep 64 (n + 1) (dCs (List.range s) a) j * et z j) N - val 64 n a s z (En z N)) = val 64 n a s z (En z N) := by
      generalize sm (fun j => rep 64 (n + 1) (dCs (List.range s) a) j * et z j) N = u
      generalize val 64 n a s z (En z N) = v
      apply GQ.ext' <;> simp only [sub_re, sub_im] <;> grind
    rw [e] at h4
    have h2' : nr (sm (fun j => rep 64 (n + 1) (dCs (List.range s) a) j * et z j) N - val 64 n a s z (En z N)) ≤ 1 / (4 * ((D : Nat) : Rat)) := h2
    grind
  have hEn : nr (En z N) ≤ rp 2 R0 := by rw [hR0]; exact En128 hz N
  by_cases hbig : 1 ≤ nr (En z N - x)
  · have h4 := rmul_le (rp_one_le (show (1 : Rat) ≤ 2 by decide) K) hbig (by decide) (Rat.le_of_lt (rp2_pos _))
    rwa [Rat.one_mul] at h4
  · have hsm : nr (En z N - x) ≤ 1 := Rat.le_of_lt (Rat.not_le.1 hbig)
    have hx : nr x ≤ rp 2 (R0 + 1) := by
      have h4 := nr_sub (En z N) (En z N - x)
      have e : En z N - (En z N - x) = x := by apply GQ.ext' <;> simp only [sub_re, sub_im] <;> grind
      rw [e] at h4
      have h5 := rp_one_le (show (1 : Rat) ≤ 2 by decide) R0
      rw [rp2_succ]; grind
    have hE2 : nr (En z N) ≤ rp 2 (R0 + 1) := Rat.le_trans hEn (rp_mono (by decide) (by omega))
    have hdif := val_dif F hs hz (rp_one_le (show (1 : Rat) ≤ 2 by decide) (R0 + 1)) hE2 hx
    have hCC := dif_le n (Rat.le_of_lt (rp2_pos (R0 + 1))) (Rat.le_refl (a := rp 2 (R0 + 1)))
    obtain ⟨M, hM⟩ : ∃ M : Nat, M = 7 + (64 * (n + 1) + 7 * 64 + n + 2 * 128 + (6 + (R0 + 1) * 64)) := ⟨_, rfl⟩
    rw [← hM] at hCC
    have hd0 := nr_nn (En z N - x)
    have h6 := Rat.le_trans hdif (Rat.mul_le_mul_of_nonneg_right hCC hd0)
    have h7 : nr (val 64 n a s z x) ≤ nr (val 64 n a s z (En z N)) + nr (val 64 n a s z (En z N) - val 64 n a s z x) := by
      have h4 := nr_sub (val 64 n a s z (En z N)) (val 64 n a s z (En z N) - val 64 n a s z x)
      have e : val 64 n a s z (En z N) - (val 64 n a s z (En z N) - val 64 n a s z x) = val 64 n a s z x := by
        generalize val 64 n a s z (En z N) = u
        apply GQ.ext' <;> simp only [sub_re, sub_im] <;> grind
      rwa [e] at h4
    have h8 : nr (val 64 n a s z x) ≤ rt 256 cs.length + rt 256 cs.length + 1 / (4 * ((D : Nat) : Rat)) + rp 2 M * nr (En z N - x) := by grind
    have h9 := Rat.mul_le_mul_of_nonneg_left h8 (Rat.le_of_lt hD0)
    have h10 : 1 ≤ ((D : Nat) : Rat) * 2 * (rp 2 M * nr (En z N - x)) := by grind
    refine Rat.le_trans h10 ?_
    rw [← Rat.mul_assoc]
    refine Rat.mul_le_mul_of_nonneg_right ?_ hd0
    have h11 : ((D : Nat) : Rat) * 2 ≤ rp 2 (E + 1) := by rw [rp2_succ]; exact Rat.mul_le_mul_of_nonneg_right hD (by decide)
    refine Rat.le_trans (Rat.mul_le_mul_of_nonneg_right h11 (Rat.le_of_lt (rp2_pos M))) ?_
    rw [← rp_add]
    exact rp_mono (by decide) (by omega)
def Ev (p : Nat → Prop) : Prop := ∃ n0 : Nat, ∀ n, n0 ≤ n → p n
theorem Ev.and {p q : Nat → Prop} (h : Ev p) (k : Ev q) : Ev fun n => p n ∧ q n := by
  obtain ⟨a, ha⟩ := h
  obtain ⟨b, hb⟩ := k
  exact ⟨max a b, fun n hn => ⟨ha n (by omega), hb n (by omega)⟩⟩
theorem Ev.imp {p q : Nat → Prop} (h : Ev p) (k : ∀ n, p n → q n) : Ev q := by
  obtain ⟨a, ha⟩ := h
  exact ⟨a, fun n hn => k n (ha n hn)⟩
theorem Ev.all {p : Nat → Prop} (h : ∀ n, p n) : Ev p := ⟨0, fun n _ => h n⟩
theorem Ev.ex {p : Nat → Prop} (h : Ev p) : ∃ n, p n := by
  obtain ⟨a, ha⟩ := h
  exact ⟨a, ha a (Nat.le_refl _)⟩
theorem ab_lo {x b : Rat} (h : ab x ≤ b) : -b ≤ x := by have := ab_le.1 h; grind
theorem ab_hi {x b : Rat} (h : ab x ≤ b) : x ≤ b := by have := ab_le.1 h; grind
theorem rat_lt_or (a b : Rat) : a < b ∨ b ≤ a := by grind
theorem le_eps {a b : Rat} (h : ∀ ε : Rat, 0 < ε → a ≤ b + ε) : a ≤ b := by
  rcases Rat.le_total (a := a) (b := b) with h1 | h1
  · exact h1
  · by_cases e : a = b
    · rw [e]; exact Rat.le_refl
    · have h2 : 0 < (a - b) / 2 := by grind
      have := h _ h2
      grind
/-- e to the power x is at most c -/
def EL (x c : Rat) : Prop := ∀ ε : Rat, 0 < ε → Ev fun n => RE x n ≤ c + ε
/-- e to the power x is at least c -/
def EG (x c : Rat) : Prop := ∀ ε : Rat, 0 < ε → Ev fun n => c ≤ RE x n + ε
theorem EL.le {x c d : Rat} (h : EL x c) (k : c ≤ d) : EL x d := fun ε he => (h ε he).imp fun n hn => by grind
theorem EG.le {x c d : Rat} (h : EG x c) (k : d ≤ c) : EG x d := fun ε he => (h ε he).imp fun n hn => by grind
theorem EL.ge {x c d : Rat} (h : EL x c) (k : EG x d) : d ≤ c := le_eps fun ε he => by
  obtain ⟨n, h1, h2⟩ := ((h (ε / 2) (by grind)).and (k (ε / 2) (by grind))).ex
  grind
theorem RE_add (x y : Rat) {ε : Rat} (he : 0 < ε) : Ev fun n => ab (RE x n * RE y n - RE (x + y) n) ≤ ε := by
  obtain ⟨n0, h⟩ := En_add_nul (q x) (q y) ε he
  refine ⟨n0, fun n hn => ?_⟩
  have h1 := h n hn
  simp only at h1
  rw [← q_add, En_q, En_q, En_q, ← q_mul, ← q_sub, nr_q] at h1
  exact h1
theorem RE_bd (x : Rat) : ∃ B : Rat, 0 ≤ B ∧ ∀ n, ab (RE x n) ≤ B := by
  obtain ⟨B, hB, h⟩ := En_bd (q x)
  refine ⟨B, hB, fun n => ?_⟩
  have := h n
  rwa [En_q, nr_q] at this
theorem RE_ge_one {x : Rat} (hx : 0 ≤ x) {n : Nat} (hn : 1 ≤ n) : 1 ≤ RE x n := by
  have h := RE_mono hx 1 (n - 1)
  rw [show 1 + (n - 1) = n by omega] at h
  have e : RE x 1 = 1 := by show 0 + (1 : Rat) = 1; grind
  rw [e] at h; exact h
theorem RE_zero {n : Nat} (hn : 1 ≤ n) : RE 0 n = 1 := by
  have h1 := RE_ge_one (Rat.le_refl (a := 0)) hn
  have h2 := RE_rest (x := 0) Rat.le_refl (n := 1) (by decide +kernel) (n - 1)
  rw [show 1 + (n - 1) = n by omega] at h2
  have h3 : RE 0 1 + (rt 0 1 + rt 0 1) = 1 := by decide +kernel
  have h4 := rt_nn (x := 0) Rat.le_refl n
  grind
theorem RE_neg (x : Rat) {ε : Rat} (he : 0 < ε) : Ev fun n => ab (RE x n * RE (-x) n - 1) ≤ ε := by
  have h := (RE_add x (-x) he).and ⟨1, fun n hn => hn⟩
  refine h.imp fun n hn => ?_
  obtain ⟨h1, h2⟩ := hn
  rw [Rat.add_neg_cancel, RE_zero h2] at h1
  exact h1
theorem RE_pos (x : Rat) : Ev fun n => 0 < RE x n := by
  rcases Rat.le_total (a := 0) (b := x) with h | h
  · exact ⟨1, fun n hn => by have := RE_ge_one h hn; grind⟩
  · have h' : 0 ≤ -x := by grind
    have h1 := (RE_neg (-x) (show (0 : Rat) < 1 / 2 by decide +kernel)).and ⟨1, fun n hn => RE_ge_one h' hn⟩
    refine h1.imp fun n hn => ?_
    obtain ⟨h2, h3⟩ := hn
    rw [Rat.neg_neg] at h2
    have h4 := ab_lo h2
    rcases rat_lt_or 0 (RE x n) with h5 | h5
    · exact h5
    · have h6 := Rat.mul_le_mul_of_nonneg_left h5 (show 0 ≤ RE (-x) n by grind)
      grind
theorem EG.zero (x : Rat) : EG x 0 := fun ε he => (RE_pos x).imp fun n hn => by grind
theorem EL.nn {x c : Rat} (h : EL x c) : 0 ≤ c := h.ge (EG.zero x)
/-- the part of ε that is asked of each -/
theorem eps {ε B : Rat} (he : 0 < ε) (hB : 0 ≤ B) : ∃ δ : Rat, 0 < δ ∧ δ * (B + 1) ≤ ε := by
  have hp : 0 < B + 1 := by grind
  refine ⟨ε * (1 / (B + 1)), Rat.mul_pos he (inv_pos' hp), ?_⟩
  rw [Rat.mul_assoc, one_div_mul hp, Rat.mul_one]
  exact Rat.le_refl
theorem EL.add {x y c d : Rat} (h : EL x c) (k : EL y d) : EL (x + y) (c * d) := fun ε he => by
  have hc := h.nn
  obtain ⟨B, hB, hb⟩ := RE_bd y
  obtain ⟨δ, hd, hd2⟩ := eps he (B := c + B) (by grind)
  have hh := (((h δ hd).and (k δ hd)).and (RE_pos y)).and (RE_add x y hd)
  refine hh.imp fun n hn => ?_
  obtain ⟨⟨⟨h1, h2⟩, h3⟩, h4⟩ := hn
  have h5 := ab_lo h4
  have h6 := Rat.mul_le_mul_of_nonneg_right h1 (Rat.le_of_lt h3)
  have h7 := Rat.mul_le_mul_of_nonneg_left h2 hc
  have h8 := Rat.le_trans (le_ab (RE y n)) (hb n)
  have h9 := Rat.mul_le_mul_of_nonneg_left h8 (Rat.le_of_lt hd)
  grind
theorem EG.add {x y c d : Rat} (hc : 0 ≤ c) (h : EG x c) (k : EG y d) : EG (x + y) (c * d) := fun ε he => by
  obtain ⟨B, hB, hb⟩ := RE_bd y
  obtain ⟨δ, hd, hd2⟩ := eps he (B := c + B) (by grind)
  have hh := (((h δ hd).and (k δ hd)).and (RE_pos y)).and (RE_add x y hd)
  refine hh.imp fun n hn => ?_
  obtain ⟨⟨⟨h1, h2⟩, h3⟩, h4⟩ := hn
  have h5 := ab_hi h4
  have h6 := Rat.mul_le_mul_of_nonneg_right h1 (Rat.le_of_lt h3)
  have h7 := Rat.mul_le_mul_of_nonneg_left h2 hc
  have h8 := Rat.le_trans (le_ab (RE y n)) (hb n)
  have h9 := Rat.mul_le_mul_of_nonneg_left h8 (Rat.le_of_lt hd)
  grind
theorem EL.neg {x c d : Rat} (h : EL x c) (hc : 0 < c) (hd : c * d ≤ 1) : EG (-x) d := fun ε he => by
  obtain ⟨B, hB, hb⟩ := RE_bd (-x)
  obtain ⟨δ, hp, hd2⟩ := eps (ε := ε * c) (Rat.mul_pos he hc) hB
  have hh := ((h δ hp).and (RE_pos (-x))).and (RE_neg x hp)
  refine hh.imp fun n hn => ?_
  obtain ⟨⟨h1, h3⟩, h4⟩ := hn
  have h5 := ab_lo h4
  have h6 := Rat.mul_le_mul_of_nonneg_right h1 (Rat.le_of_lt h3)
  have h8 := Rat.le_trans (le_ab (RE (-x) n)) (hb n)
  have h9 := Rat.mul_le_mul_of_nonneg_left h8 (Rat.le_of_lt hp)
  have h10 : c * d ≤ c * (RE (-x) n + ε) := by grind
  exact Rat.le_of_mul_le_mul_left h10 hc
theorem EG.neg {x c d : Rat} (h : EG x c) (hc : 0 < c) (hd : 1 ≤ c * d) : EL (-x) d := fun ε he => by
  obtain ⟨B, hB, hb⟩ := RE_bd (-x)
  obtain ⟨δ, hp, hd2⟩ := eps (ε := ε * c) (Rat.mul_pos he hc) hB
  have hh := ((h δ hp).and (RE_pos (-x))).and (RE_neg x hp)
  refine hh.imp fun n hn => ?_
  obtain ⟨⟨h1, h3⟩, h4⟩ := hn
  have h5 := ab_hi h4
  have h6 := Rat.mul_le_mul_of_nonneg_right h1 (Rat.le_of_lt h3)
  have h8 := Rat.le_trans (le_ab (RE (-x) n)) (hb n)
  have h9 := Rat.mul_le_mul_of_nonneg_left h8 (Rat.le_of_lt hp)
  have h10 : c * RE (-x) n ≤ c * (d + ε) := by grind
  exact Rat.le_of_mul_le_mul_left h10 hc
theorem EG.one_add {x : Rat} (hx : 0 ≤ x) : EG x (1 + x) := fun ε he => ⟨2, fun n hn => by
  have h := RE_mono hx 2 (n - 2)
  rw [show 2 + (n - 2) = n by omega] at h
  have e : RE x 2 = 1 + x := by
    show 0 + (1 : Rat) + 1 * (1 / ((0 + 1 : Nat) : Rat) * x) = 1 + x
    rw [show (1 : Rat) / ((0 + 1 : Nat) : Rat) = 1 by decide +kernel]; grind
  grind⟩
theorem EG.sum {x : Rat} (hx : 0 ≤ x) (m : Nat) : EG x (RE x m) := fun ε he => ⟨m, fun n hn => by
  have h := RE_mono hx m (n - m)
  rw [show m + (n - m) = n by omega] at h
  grind⟩
theorem EL.sum {x : Rat} (hx : 0 ≤ x) {m : Nat} (h : x + x ≤ ((m + 1 : Nat) : Rat)) : EL x (RE x m + (rt x m + rt x m)) := fun ε he => ⟨m, fun n hn => by
  have h := RE_rest hx h (n - m)
  rw [show m + (n - m) = n by omega] at h
  have := rt_nn hx n
  grind⟩
theorem EL.one_add {x : Rat} (hx : 0 ≤ x) (h : x ≤ 1) : EL x (1 + (x + x)) := by
  have h1 := EL.sum hx (m := 1) (by rw [show ((1 + 1 : Nat) : Rat) = 2 by decide +kernel]; grind)
  refine h1.le ?_
  have e1 : RE x 1 = 1 := by show 0 + (1 : Rat) = 1; grind
  have e2 : rt x 1 = x := by
    show 1 * (1 / ((0 + 1 : Nat) : Rat) * x) = x
    rw [show (1 : Rat) / ((0 + 1 : Nat) : Rat) = 1 by decide +kernel]; grind
  rw [e1, e2]; exact Rat.le_refl
theorem EL.zero : EL 0 1 := fun ε he => ⟨1, fun n hn => by show RE 0 n ≤ 1 + ε; rw [RE_zero hn]; grind⟩
theorem EG.of_zero : EG 0 1 := fun ε he => ⟨1, fun n hn => by show 1 ≤ RE 0 n + ε; rw [RE_zero hn]; grind⟩
theorem EG.mono {x y c : Rat} (h : EG x c) (hxy : x ≤ y) : EG y c := by
  rcases Rat.le_total (a := 0) (b := c) with hc | hc
  · have h1 := EG.add hc h ((EG.one_add (x := y - x) (by grind)).le (d := 1) (by grind))
    rw [Rat.mul_one, show x + (y - x) = y by grind] at h1
    exact h1
  · exact (EG.zero y).le hc
theorem EL.mono {x y c : Rat} (h : EL y c) (hxy : x ≤ y) : EL x c := by
  have h1 := ((EG.one_add (x := y - x) (by grind)).le (d := 1) (by grind)).neg (d := 1) (by decide) (by decide +kernel)
  have h2 := h.add h1
  rw [Rat.mul_one, show y + -(y - x) = x by grind] at h2
  exact h2
theorem EL.pos {x c : Rat} (h : EL x c) : 0 < c := by
  obtain ⟨B, hB, hb⟩ := RE_bd (-x)
  have hp : 0 < B + 1 := by grind
  have h1 : EL (-x) (B + 1) := fun ε he => ⟨0, fun n _ => by have := Rat.le_trans (le_ab _) (hb n); grind⟩
  have h2 := h1.neg (d := 1 / (B + 1)) hp (by rw [Rat.mul_comm, one_div_mul hp]; exact Rat.le_refl)
  rw [Rat.neg_neg] at h2
  have h3 := inv_pos' hp
  have h4 := h.ge h2
  grind
theorem rat_den (x : Rat) : ((x.den : Nat) : Rat) * x = (x.num : Rat) := by
  have h := Rat.num_divInt_den x
  have hd := nat_pos x.den_pos
  have h2 : x = (x.num : Rat) / ((x.den : Nat) : Rat) := by
    rw [← Rat.intCast_natCast, ← Rat.divInt_eq_div]; exact h.symm
  have h3 : (x.num : Rat) / ((x.den : Nat) : Rat) * ((x.den : Nat) : Rat) = (x.num : Rat) := Rat.div_mul_cancel (by grind)
  rw [← h2] at h3
  rw [Rat.mul_comm]; exact h3
theorem Wh.den {x : Rat} : Wh (P.gn x.den * q x) := ⟨x.num, 0, by
  have h : ((x.den : Nat) : Rat) * x = (x.num : Rat) := rat_den x
  apply GQ.ext'
  · simp only [mul_re, P.gn, q_re, q_im]; rw [Rat.zero_mul, h]; grind
  · simp only [mul_im, P.gn, q_re, q_im]; grind⟩
end Go.Proofs.YtnjgliojkoeneaaGreat.P
set_option linter.unusedSimpArgs false
set_option linter.unusedVariables false
namespace Go.Proofs.YtnjgliojkoeneaaGreat.P
open GQ
/-- a whole number by 2 to the power w -/
def fr (a w : Nat) : Rat := ((a : Nat) : Rat) * (1 / rp 2 w)
theorem inv2_pos (w : Nat) : 0 < 1 / rp 2 w := inv_pos' (rp2_pos w)
theorem inv2_mul (w : Nat) : 1 / rp 2 w * rp 2 w = 1 := one_div_mul (rp2_pos w)
theorem fr_mul (a w : Nat) : fr a w * rp 2 w = ((a : Nat) : Rat) := by
  unfold fr
  rw [Rat.mul_assoc, inv2_mul, Rat.mul_one]
theorem fr_nn (a w : Nat) : 0 ≤ fr a w := Rat.mul_nonneg (nat_nn a) (Rat.le_of_lt (inv2_pos w))
theorem fr_le {a b : Nat} (h : a ≤ b) (w : Nat) : fr a w ≤ fr b w := Rat.mul_le_mul_of_nonneg_right (Rat.natCast_le_natCast.2 h) (Rat.le_of_lt (inv2_pos w))
/-- from what is so many times 2 to the power w -/
theorem le_fr {x : Rat} {a w : Nat} (h : x * rp 2 w ≤ ((a : Nat) : Rat)) : x ≤ fr a w := by
  rw [← fr_mul a w] at h
  exact Rat.le_of_mul_le_mul_right h (rp2_pos w)
theorem fr_le' {x : Rat} {a w : Nat} (h : ((a : Nat) : Rat) ≤ x * rp 2 w) : fr a w ≤ x := by
  rw [← fr_mul a w] at h
  exact Rat.le_of_mul_le_mul_right h (rp2_pos w)
theorem fr_up (a w s : Nat) : fr (a * 2 ^ s) (w + s) = fr a w := by
  have h1 := fr_mul (a * 2 ^ s) (w + s)
  have h2 := fr_mul a w
  rw [rp_add, Rat.natCast_mul, ← rp2_nat, ← h2] at h1
  have h3 : fr (a * 2 ^ s) (w + s) * (rp 2 w * rp 2 s) = fr a w * (rp 2 w * rp 2 s) := by rw [h1]; grind
  have h4 : fr (a * 2 ^ s) (w + s) ≤ fr a w := Rat.le_of_mul_le_mul_right (show _ ≤ _ by rw [h3]; exact Rat.le_refl) (Rat.mul_pos (rp2_pos w) (rp2_pos s))
  have h5 : fr a w ≤ fr (a * 2 ^ s) (w + s) := Rat.le_of_mul_le_mul_right (show _ ≤ _ by rw [h3]; exact Rat.le_refl) (Rat.mul_pos (rp2_pos w) (rp2_pos s))
  exact Rat.le_antisymm h4 h5
theorem fr_add (a b w : Nat) : fr (a + b) w = fr a w + fr b w := by
  unfold fr
  rw [Rat.natCast_add, Rat.add_mul]
theorem fr_zero (w : Nat) : fr 0 w = 0 := by
  unfold fr
  rw [show ((0 : Nat) : Rat) = 0 from rfl, Rat.zero_mul]
theorem quo_le (a : Nat) {d : Nat} (hd : 0 < d) : ((a / d : Nat) : Rat) * ((d : Nat) : Rat) ≤ ((a : Nat) : Rat) := by
  rw [← Rat.natCast_mul, Rat.natCast_le_natCast]; exact Nat.div_mul_le_self a d
theorem lt_quo (a : Nat) {d : Nat} (hd : 0 < d) : ((a : Nat) : Rat) ≤ ((a / d + 1 : Nat) : Rat) * ((d : Nat) : Rat) := by
  rw [← Rat.natCast_mul, Rat.natCast_le_natCast]
  have := Nat.div_add_mod a d
  have := Nat.mod_lt a hd
  rw [Nat.add_mul, Nat.mul_comm (a / d) d]
  omega
abbrev Sp : Type := Nat × Nat
def spOne (w : Nat) : Sp := (2 ^ w, 2 ^ w + 1)
def spOf (n d w : Nat) : Sp := (n * 2 ^ w / d, n * 2 ^ w / d + 1)
def spMul (a b : Sp) (w : Nat) : Sp := (a.1 * b.1 / 2 ^ w, a.2 * b.2 / 2 ^ w + 1)
def spTimes (a : Sp) (n d : Nat) : Sp := (a.1 * n / d, a.2 * n / d + 1)
def spAdd (a b : Sp) : Sp := (a.1 + b.1, a.2 + b.2)
def spInv (a : Sp) (w : Nat) : Sp := (2 ^ (2 * w) / a.2, 2 ^ (2 * w) / a.1 + 1)
def spWider (a : Sp) (k : Nat) : Sp := (a.1, a.2 + k)
/-- the number r is in a, of w digits -/
def Cn (w : Nat) (a : Sp) (r : Rat) : Prop := ((a.1 : Nat) : Rat) ≤ r * rp 2 w ∧ r * rp 2 w ≤ ((a.2 : Nat) : Rat)
theorem Cn.nn {w : Nat} {a : Sp} {r : Rat} (h : Cn w a r) : 0 ≤ r := by
  have h1 := Rat.le_trans (nat_nn a.1) h.1
  have h2 : 0 * rp 2 w ≤ r * rp 2 w := by rw [Rat.zero_mul]; exact h1
  exact Rat.le_of_mul_le_mul_right h2 (rp2_pos w)
theorem Cn.le {w : Nat} {a : Sp} {r : Rat} (h : Cn w a r) : fr a.1 w ≤ r ∧ r ≤ fr a.2 w := ⟨fr_le' h.1, le_fr h.2⟩
theorem Cn.sp {w : Nat} {a : Sp} {r : Rat} (h : Cn w a r) : a.1 ≤ a.2 := Rat.natCast_le_natCast.1 (Rat.le_trans h.1 h.2)
theorem cn_one (w : Nat) : Cn w (spOne w) 1 := by
  refine ⟨?_, ?_⟩ <;> (rw [Rat.one_mul, rp2_nat, Rat.natCast_le_natCast]; simp only [spOne]; omega)
theorem pow_pos2 (w : Nat) : 0 < 2 ^ w := Nat.pow_pos (by omega)
theorem cn_of {n d : Nat} (hd : 0 < d) {r : Rat} (hr : r * ((d : Nat) : Rat) = ((n : Nat) : Rat)) (w : Nat) : Cn w (spOf n d w) r := by
  have hdp := nat_pos hd
  have h1 := quo_le (n * 2 ^ w) hd
  have h2 := lt_quo (n * 2 ^ w) hd
  rw [Rat.natCast_mul, ← rp2_nat, ← hr] at h1 h2
  refine ⟨Rat.le_of_mul_le_mul_right ?_ hdp, Rat.le_of_mul_le_mul_right ?_ hdp⟩
  · simp only [spOf]; grind
  · simp only [spOf]; grind
theorem cn_mul {w : Nat} {a b : Sp} {r s : Rat} (h : Cn w a r) (k : Cn w b s) : Cn w (spMul a b w) (r * s) := by
  have hr := h.nn
  have hs := k.nn
  have hp := rp2_pos w
  have h1 := quo_le (a.1 * b.1) (pow_pos2 w)
  have h2 := lt_quo (a.2 * b.2) (pow_pos2 w)
  have h3 := rmul_le h.1 k.1 (nat_nn _) (Rat.mul_nonneg hr (Rat.le_of_lt hp))
  have h4 := rmul_le h.2 k.2 (Rat.mul_nonneg hs (Rat.le_of_lt hp)) (nat_nn _)
  rw [Rat.natCast_mul, ← rp2_nat] at h1 h2
  refine ⟨Rat.le_of_mul_le_mul_right (c := rp 2 w) ?_ hp, Rat.le_of_mul_le_mul_right (c := rp 2 w) ?_ hp⟩
  · simp only [spMul]; grind
  · simp only [spMul]; grind
theorem cn_times {w n d : Nat} {a : Sp} {r s : Rat} (hd : 0 < d) (h : Cn w a r) (hs : s * ((d : Nat) : Rat) = r * ((n : Nat) : Rat)) : Cn w (spTimes a n d) s := by
  have hdp := nat_pos hd
  have h1 := quo_le (a.1 * n) hd
  have h2 := lt_quo (a.2 * n) hd
  have h3 := Rat.mul_le_mul_of_nonneg_right h.1 (nat_nn n)
  have h4 := Rat.mul_le_mul_of_nonneg_right h.2 (nat_nn n)
  rw [Rat.natCast_mul] at h1 h2
  have e : s * rp 2 w * ((d : Nat) : Rat) = r * rp 2 w * ((n : Nat) : Rat) := by grind
  refine ⟨Rat.le_of_mul_le_mul_right ?_ hdp, Rat.le_of_mul_le_mul_right ?_ hdp⟩
  · simp only [spTimes]; grind
  · simp only [spTimes]; grind
theorem cn_add {w : Nat} {a b : Sp} {r s : Rat} (h : Cn w a r) (k : Cn w b s) : Cn w (spAdd a b) (r + s) := by
  obtain ⟨h1, h2⟩ := h
  obtain ⟨k1, k2⟩ := k
  simp only [Cn, spAdd, Rat.natCast_add]
  constructor <;> grind
theorem rp_lt {m n : Nat} (h : m < n) : rp 2 m < rp 2 n := by
  have h1 := rp_mono (show (1 : Rat) ≤ 2 by decide) (show m + 1 ≤ n from h)
  rw [rp2_succ] at h1
  have := rp2_pos m
  grind
/-- the product of a number with itself: how large, how wide -/
theorem sq_size {w c D : Nat} {a : Sp} (h2 : a.2 ≤ 2 ^ (w + c)) (hs : a.1 ≤ a.2) (hd : a.2 ≤ a.1 + 2 ^ D) : (spMul a a w).2 ≤ 2 ^ (w + (2 * c + 1)) ∧ (spMul a a w).1 ≤ (spMul a a w).2 ∧ (spMul a a w).2 ≤ (spMul a a w).1 + 2 ^ (D + c + 2) := by
  have hw := pow_pos2 w
  have e1 : 2 ^ (w + c) * 2 ^ (w + c) = 2 ^ w * 2 ^ (w + 2 * c) := by
    rw [← Nat.pow_add, ← Nat.pow_add]; congr 1; omega
  have h3 : a.2 * a.2 ≤ 2 ^ w * 2 ^ (w + 2 * c) := by rw [← e1]; exact Nat.mul_le_mul h2 h2
  have h4 : a.1 * a.1 ≤ a.2 * a.2 := Nat.mul_le_mul hs hs
  simp only [spMul]
  refine ⟨?_, ?_, ?_⟩
  · have h5 : a.2 * a.2 / 2 ^ w ≤ 2 ^ (w + 2 * c) := by
      have := Nat.div_le_div_right (c := 2 ^ w) h3
      rwa [Nat.mul_div_cancel_left _ hw] at this
    have h6 := pow_pos2 (w + 2 * c)
    rw [show w + (2 * c + 1) = w + 2 * c + 1 by omega, Nat.pow_succ]
    omega
  · have := Nat.div_le_div_right (c := 2 ^ w) h4
    omega
  · have e2 : 2 ^ D * 2 ^ (w + c + 1) = 2 ^ w * 2 ^ (D + c + 1) := by
      rw [← Nat.pow_add, ← Nat.pow_add]; congr 1; omega
    have h5 : a.2 * a.2 ≤ a.1 * a.1 + 2 ^ w * 2 ^ (D + c + 1) := by
      have h6 : a.2 * a.2 ≤ a.1 * a.1 + 2 ^ D * (a.1 + a.2) := by
        obtain ⟨t, ht⟩ := Nat.le.dest hs
        have ht2 : t ≤ 2 ^ D := by omega
        have h7 : t * (a.1 + a.2) ≤ 2 ^ D * (a.1 + a.2) := Nat.mul_le_mul_right _ ht2
        have e3 : a.2 * a.2 = a.1 * a.1 + t * (a.1 + a.2) := by
          rw [← ht]
          simp only [Nat.mul_add, Nat.add_mul]
          have := Nat.mul_comm a.1 t
          omega
        omega
      have h8 : a.1 + a.2 ≤ 2 ^ (w + c + 1) := by rw [Nat.pow_succ]; omega
      have h9 := Nat.mul_le_mul_left (2 ^ D) h8
      omega
    have h10 := Nat.div_le_div_right (c := 2 ^ w) h5
    rw [Nat.add_mul_div_left _ _ hw] at h10
    have h11 := pow_pos2 (D + c + 1)
    rw [show D + c + 2 = D + c + 1 + 1 by omega, Nat.pow_succ]
    omega
/-- the first number of which p is so, from j on, among f ones -/
def fst (p : Nat → Bool) : Nat → Nat → Nat
  | 0, j => j
  | f + 1, j => if p j = true then j else fst p f (j + 1)
theorem fst_spec (p : Nat → Bool) : ∀ (f j k : Nat), p k = true → j ≤ k → k ≤ j + f → p (fst p f j) = true ∧ (∀ i, j ≤ i → i < fst p f j → p i = false) ∧ fst p f j ≤ k ∧ j ≤ fst p f j
  | 0, j, k, hk, h1, h2 => by
    obtain rfl : k = j := by omega
    exact ⟨hk, fun i h3 h4 => by simp only [fst] at h4; omega, Nat.le_refl _, Nat.le_refl _⟩
  | f + 1, j, k, hk, h1, h2 => by
    simp only [fst]
    split
    · rename_i h
      exact ⟨h, fun i h3 h4 => by omega, h1, Nat.le_refl _⟩
    · rename_i h
      have hne : k ≠ j := fun e => h (by rw [← e]; exact hk)
      obtain ⟨a, b, c, d⟩ := fst_spec p f (j + 1) k hk (by omega) (by omega)
      refine ⟨a, fun i h3 h4 => ?_, c, by omega⟩
      by_cases e : i = j
      · subst e; simpa using h
      · exact b i (by omega) h4
def xT (y : Sp) (w : Nat) : Nat → Sp
  | 0 => spOne w
  | j + 1 => spTimes (spMul (xT y w j) y w) 1 (j + 1)
def xA (y : Sp) (w : Nat) : Nat → Sp
  | 0 => spOne w
  | j + 1 => spAdd (xA y w j) (xT y w (j + 1))
theorem rt_next (x : Rat) (i : Nat) : rt x (i + 1) * ((i + 1 : Nat) : Rat) = rt x i * x * ((1 : Nat) : Rat) := by
  have h := one_div_mul (nat_pos (show 0 < i + 1 by omega))
  show rt x i * (1 / ((i + 1 : Nat) : Rat) * x) * ((i + 1 : Nat) : Rat) = _
  rw [show ((1 : Nat) : Rat) = 1 from rfl]
  grind
theorem cn_xT {w : Nat} {y : Sp} {r : Rat} (h : Cn w y r) : ∀ j, Cn w (xT y w j) (rt r j)
  | 0 => cn_one w
  | j + 1 => cn_times (by omega) (cn_mul (cn_xT h j) h) (rt_next r j)
theorem RE_succ (x : Rat) (n : Nat) : RE x (n + 1) = RE x n + rt x n := rfl
theorem cn_xA {w : Nat} {y : Sp} {r : Rat} (h : Cn w y r) : ∀ j, Cn w (xA y w j) (RE r (j + 1))
  | 0 => by
    have e : RE r (0 + 1) = 1 := by show 0 + (1 : Rat) = 1; grind
    rw [e]; exact cn_one w
  | j + 1 => by
    rw [RE_succ]
    exact cn_add (cn_xA h j) (cn_xT h (j + 1))
theorem xT_le {w : Nat} {y : Sp} (hy : 4 * y.2 ≤ 2 ^ w) (hs : y.1 ≤ y.2) : ∀ j, (xT y w j).1 ≤ 2 ^ w
  | 0 => Nat.le_refl _
  | j + 1 => by
    have ih := xT_le hy hs j
    have hw := pow_pos2 w
    simp only [xT, spTimes, spMul, Nat.mul_one]
    refine Nat.le_trans (Nat.div_le_self _ _) ?_
    refine Nat.le_trans ?_ ih
    rw [Nat.div_le_iff_le_mul_add_pred hw]
    have h1 : (xT y w j).1 * y.1 ≤ (xT y w j).1 * 2 ^ w := Nat.mul_le_mul_left _ (by omega)
    rw [Nat.mul_comm] at h1 ⊢
    have := Nat.mul_comm (xT y w j).1 (2 ^ w)
    rw [Nat.mul_comm y.1] at h1
    rw [Nat.mul_comm y.1]
    omega
theorem xT_width {w : Nat} {y : Sp} (hy : 4 * y.2 ≤ 2 ^ w) (hs : y.2 = y.1 + 1) : ∀ j, (xT y w j).1 ≤ (xT y w j).2 ∧ (xT y w j).2 ≤ (xT y w j).1 + 5
  | 0 => by simp only [xT, spOne]; omega
  | j + 1 => by
    obtain ⟨h1, h2⟩ := xT_width hy hs j
    have h3 := xT_le hy (by omega) j
    have hw := pow_pos2 w
    simp only [xT, spTimes, spMul, Nat.mul_one]
    generalize xT y w j = t at *
    have hm : t.2 * y.2 ≤ t.1 * y.1 + 3 * 2 ^ w := by
      have a1 : t.2 * y.2 ≤ (t.1 + 5) * y.2 := Nat.mul_le_mul_right _ h2
      have a2 : t.1 * y.2 = t.1 * y.1 + t.1 := by rw [hs, Nat.mul_add, Nat.mul_one]
      rw [Nat.add_mul, a2] at a1
      omega
    have hq : t.2 * y.2 / 2 ^ w ≤ t.1 * y.1 / 2 ^ w + 3 := by
      have := Nat.div_le_div_right (c := 2 ^ w) hm
      rwa [Nat.add_mul_div_right _ _ hw] at this
    have hq0 : t.1 * y.1 / 2 ^ w ≤ t.2 * y.2 / 2 ^ w := Nat.div_le_div_right (Nat.mul_le_mul h1 (by omega))
    generalize t.1 * y.1 / 2 ^ w = u at *
    generalize t.2 * y.2 / 2 ^ w = v at *
    have b1 : u / (j + 1) ≤ (v + 1) / (j + 1) := Nat.div_le_div_right (by omega)
    have b2 : (v + 1) / (j + 1) ≤ u / (j + 1) + 4 := by
      have : v + 1 ≤ u + 4 * (j + 1) := by omega
      have := Nat.div_le_div_right (c := j + 1) this
      rwa [Nat.add_mul_div_right _ _ (by omega)] at this
    omega
theorem xT_falls {w : Nat} {y : Sp} (hy : 4 * y.2 ≤ 2 ^ w) : ∀ j, j ≤ w + 1 → (xT y w j).2 ≤ 2 ^ (w + 1 - j) + 4
  | 0, _ => by
    simp only [xT, spOne, Nat.sub_zero, Nat.pow_succ]
    have := pow_pos2 w
    omega
  | j + 1, h => by
    have ih := xT_falls hy j (by omega)
    have hw := pow_pos2 w
    simp only [xT, spTimes, spMul, Nat.mul_one]
    generalize xT y w j = t at *
    have h1 : t.2 * y.2 / 2 ^ w ≤ t.2 / 4 := by
      rw [Nat.le_div_iff_mul_le (by omega)]
      have a1 : t.2 * y.2 / 2 ^ w * 2 ^ w ≤ t.2 * y.2 := Nat.div_mul_le_self _ _
      have a2 : t.2 * y.2 * 4 ≤ t.2 * 2 ^ w := by rw [Nat.mul_assoc]; exact Nat.mul_le_mul_left _ (by omega)
      refine Nat.le_of_mul_le_mul_right (c := 2 ^ w) ?_ hw
      rw [Nat.mul_right_comm]
      omega
    have h2 : (t.2 * y.2 / 2 ^ w + 1) / (j + 1) ≤ t.2 * y.2 / 2 ^ w + 1 := Nat.div_le_self _ _
    rw [show w + 1 - j = w + 1 - (j + 1) + 1 by omega, Nat.pow_succ] at ih
    omega
theorem xT_ends {w : Nat} {y : Sp} (hy : 4 * y.2 ≤ 2 ^ w) (hw2 : 1 ≤ w) : (xT y w (w + 2)).2 ≤ 1 := by
  have h := xT_falls hy (w + 1) (Nat.le_refl _)
  have hw := pow_pos2 w
  rw [Nat.sub_self, Nat.pow_zero] at h
  simp only [xT, spTimes, spMul, Nat.mul_one] at h ⊢
  generalize xT y w w = t0 at *
  generalize (t0.2 * y.2 / 2 ^ w + 1) / (w + 1) + 1 = t at *
  have h1 : t * y.2 / 2 ^ w ≤ 1 := by
    have a1 : t * y.2 ≤ 5 * y.2 := Nat.mul_le_mul_right _ h
    have a2 : t * y.2 / 2 ^ w < 2 := (Nat.div_lt_iff_lt_mul hw).2 (by omega)
    omega
  have h2 : (t * y.2 / 2 ^ w + 1) / (w + 1 + 1) = 0 := Nat.div_eq_of_lt (by omega)
  omega
/-- how many terms the row takes -/
def xJ (y : Sp) (w : Nat) : Nat := fst (fun j => decide ((xT y w j).2 ≤ 1)) (w + 2) 0
theorem xJ_spec {w : Nat} {y : Sp} (hy : 4 * y.2 ≤ 2 ^ w) (hw2 : 1 ≤ w) : (xT y w (xJ y w)).2 ≤ 1 ∧ (∀ i, i < xJ y w → 1 < (xT y w i).2) ∧ xJ y w ≤ w + 2 := by
  obtain ⟨a, b, c, _⟩ := fst_spec (fun j => decide ((xT y w j).2 ≤ 1)) (w + 2) 0 (w + 2) (by simpa using xT_ends hy hw2) (by omega) (by omega)
  refine ⟨of_decide_eq_true a, fun i hi => ?_, c⟩
  have := b i (by omega) hi
  simp only [decide_eq_false_iff_not] at this
  omega
/-- the row's end -/
def xR (y : Sp) (w : Nat) : Sp := spWider (xA y w (xJ y w)) 1
theorem xA_width {w : Nat} {y : Sp} (hy : 4 * y.2 ≤ 2 ^ w) (hs : y.2 = y.1 + 1) : ∀ j, (xA y w j).2 ≤ (xA y w j).1 + 5 * (j + 1) ∧ 2 ^ w ≤ (xA y w j).1
  | 0 => by simp only [xA, spOne]; omega
  | j + 1 => by
    have ih := xA_width hy hs j
    have h := (xT_width hy hs (j + 1)).2
    simp only [xA, spAdd]
    generalize xA y w j = a at *
    generalize xT y w (j + 1) = b at *
    omega
theorem fr_two (w : Nat) (a : Nat) : fr (2 ^ w * a) w = ((a : Nat) : Rat) := by
  have h := fr_up a 0 w
  rw [Nat.zero_add, Nat.mul_comm] at h
  rw [h]
  unfold fr
  rw [show 1 / rp 2 0 = 1 by decide +kernel, Rat.mul_one]
theorem xR_in {w : Nat} {y : Sp} {r : Rat} (h : Cn w y r) (hr : r + r ≤ 1) (hy : 4 * y.2 ≤ 2 ^ w) (hs : y.2 = y.1 + 1) (hw2 : 1 ≤ w) :
    EG r (fr (xR y w).1 w) ∧ EL r (fr (xR y w).2 w) ∧ 2 ^ w ≤ (xR y w).1 ∧ (xR y w).1 ≤ (xR y w).2 ∧ (xR y w).2 ≤ (xR y w).1 + (5 * (w + 3) + 1) ∧ (xR y w).2 ≤ 2 ^ w * 3 + (5 * (w + 3) + 1) := by
  obtain ⟨h1, _, h3⟩ := xJ_spec hy hw2
  have hr0 := h.nn
  have hA := cn_xA h (xJ y w)
  have hT := cn_xT h (xJ y w)
  obtain ⟨h4, h5⟩ := xA_width hy hs (xJ y w)
  have h6 := hA.sp
  simp only [xR, spWider]
  generalize xJ y w = j at *
  have hle : (xA y w j).1 ≤ 2 ^ w * 3 := by
    have a1 := RE_rest hr0 (n := 1) (by rw [show ((1 + 1 : Nat) : Rat) = 2 by decide +kernel]; grind) j
    rw [show 1 + j = j + 1 by omega] at a1
    have a2 := rt_nn hr0 (j + 1)
    have a3 : RE r 1 + (rt r 1 + rt r 1) = 1 + (r + r) := by
      show (0 + (1 : Rat)) + (1 * (1 / ((0 + 1 : Nat) : Rat) * r) + 1 * (1 / ((0 + 1 : Nat) : Rat) * r)) = _
      rw [show (1 : Rat) / ((0 + 1 : Nat) : Rat) = 1 by decide +kernel]; grind
    have a4 : RE r (j + 1) ≤ 3 := by grind
    have a5 := Rat.mul_le_mul_of_nonneg_right a4 (Rat.le_of_lt (rp2_pos w))
    have a6 := Rat.le_trans hA.1 a5
    rw [rp2_nat, show (3 : Rat) = ((3 : Nat) : Rat) from rfl, ← Rat.natCast_mul, Rat.natCast_le_natCast] at a6
    omega
  refine ⟨(EG.sum hr0 (j + 1)).le hA.le.1, ?_, h5, by omega, by omega, by omega⟩
  have b1 := EL.sum hr0 (m := j + 1) (by
    have : ((1 : Nat) : Rat) ≤ ((j + 1 + 1 : Nat) : Rat) := Rat.natCast_le_natCast.2 (by omega)
    rw [show ((1 : Nat) : Rat) = 1 from rfl] at this
    grind)
  refine b1.le ?_
  rw [fr_add]
  have b2 : rt r (j + 1) + rt r (j + 1) ≤ rt r j := by
    have c1 := rt_next r j
    have c2 := rt_nn hr0 j
    have c3 := rt_nn hr0 (j + 1)
    have c4 : ((1 : Nat) : Rat) ≤ ((j + 1 : Nat) : Rat) := Rat.natCast_le_natCast.2 (by omega)
    have c5 := Rat.mul_le_mul_of_nonneg_left c4 c3
    have c6 := Rat.mul_le_mul_of_nonneg_left hr c2
    rw [show ((1 : Nat) : Rat) = 1 from rfl] at c1 c5
    grind
  have b3 := hT.le.2
  have b4 := fr_le h1 w
  have b5 := hA.le.2
  grind
def sqs (a : Sp) (w : Nat) : Nat → Sp
  | 0 => a
  | i + 1 => spMul (sqs a w i) (sqs a w i) w
def cS : Nat → Nat
  | 0 => 2
  | i + 1 => 2 * cS i + 1
def dS (D : Nat) : Nat → Nat
  | 0 => D
  | i + 1 => dS D i + cS i + 2
theorem sqs_in {w : Nat} {a : Sp} {r : Rat} (h1 : EG r (fr a.1 w)) (h2 : EL r (fr a.2 w)) : ∀ i, EG (((2 ^ i : Nat) : Rat) * r) (fr (sqs a w i).1 w) ∧ EL (((2 ^ i : Nat) : Rat) * r) (fr (sqs a w i).2 w)
  | 0 => by
    have e : ((2 ^ 0 : Nat) : Rat) * r = r := by rw [show ((2 ^ 0 : Nat) : Rat) = 1 from rfl, Rat.one_mul]
    rw [e]; exact ⟨h1, h2⟩
  | i + 1 => by
    obtain ⟨k1, k2⟩ := sqs_in h1 h2 i
    have e : ((2 ^ (i + 1) : Nat) : Rat) * r = ((2 ^ i : Nat) : Rat) * r + ((2 ^ i : Nat) : Rat) * r := by
      rw [Nat.pow_succ, Rat.natCast_mul, show ((2 : Nat) : Rat) = 2 from rfl]; grind
    have hp := rp2_pos w
    rw [e]
    generalize ((2 ^ i : Nat) : Rat) * r = x at *
    simp only [sqs, spMul]
    generalize sqs a w i = b at *
    have e1 := fr_mul b.1 w
    have e2 := fr_mul b.2 w
    refine ⟨(EG.add (fr_nn _ _) k1 k1).le (fr_le' ?_), (EL.add k2 k2).le (le_fr ?_)⟩
    · have := quo_le (b.1 * b.1) (pow_pos2 w)
      rw [← rp2_nat, Rat.natCast_mul, ← e1] at this
      refine Rat.le_of_mul_le_mul_right (c := rp 2 w) ?_ hp
      grind
    · have := lt_quo (b.2 * b.2) (pow_pos2 w)
      rw [← rp2_nat, Rat.natCast_mul, ← e2] at this
      refine Rat.le_of_mul_le_mul_right (c := rp 2 w) ?_ hp
      grind
theorem sqs_size {w D : Nat} {a : Sp} (h2 : a.2 ≤ 2 ^ (w + 2)) (hs : a.1 ≤ a.2) (hd : a.2 ≤ a.1 + 2 ^ D) (h1 : 2 ^ w ≤ a.1) : ∀ i, (sqs a w i).2 ≤ 2 ^ (w + cS i) ∧ (sqs a w i).1 ≤ (sqs a w i).2 ∧ (sqs a w i).2 ≤ (sqs a w i).1 + 2 ^ (dS D i) ∧ 2 ^ w ≤ (sqs a w i).1
  | 0 => ⟨h2, hs, hd, h1⟩
  | i + 1 => by
    obtain ⟨k1, k2, k3, k4⟩ := sqs_size h2 hs hd h1 i
    obtain ⟨j1, j2, j3⟩ := sq_size k1 k2 k3
    refine ⟨j1, j2, j3, ?_⟩
    simp only [sqs, spMul]
    rw [Nat.le_div_iff_mul_le (pow_pos2 w)]
    exact Nat.mul_le_mul k4 k4
theorem inv_in {w : Nat} {a : Sp} {r : Rat} (h1 : EG r (fr a.1 w)) (h2 : EL r (fr a.2 w)) (hp : 0 < a.1) (hs : a.1 ≤ a.2) : EG (-r) (fr (spInv a w).1 w) ∧ EL (-r) (fr (spInv a w).2 w) := by
  have hpw := rp2_pos w
  have e1 := fr_mul a.1 w
  have e2 := fr_mul a.2 w
  have p1 := nat_pos hp
  have p2 := nat_pos (show 0 < a.2 by omega)
  have e3 : ((2 ^ (2 * w) : Nat) : Rat) = rp 2 w * rp 2 w := by rw [← rp2_nat, show 2 * w = w + w by omega, rp_add]
  have f1 : 0 < fr a.1 w := Rat.mul_pos p1 (inv2_pos w)
  have f2 : 0 < fr a.2 w := Rat.mul_pos p2 (inv2_pos w)
  simp only [spInv]
  constructor
  · refine h2.neg f2 ?_
    have := quo_le (2 ^ (2 * w)) (show 0 < a.2 by omega)
    rw [e3, ← e2, ← fr_mul (2 ^ (2 * w) / a.2) w] at this
    have k : fr a.2 w * fr (2 ^ (2 * w) / a.2) w * (rp 2 w * rp 2 w) ≤ 1 * (rp 2 w * rp 2 w) := by
      generalize fr (2 ^ (2 * w) / a.2) w = u at *
      generalize fr a.2 w = v at *
      generalize rp 2 w = z at *
      clear e1 e2 e3
      grind
    exact Rat.le_of_mul_le_mul_right k (Rat.mul_pos hpw hpw)
  · refine h1.neg f1 ?_
    have := lt_quo (2 ^ (2 * w)) hp
    rw [e3, ← e1, ← fr_mul (2 ^ (2 * w) / a.1 + 1) w] at this
    have k : 1 * (rp 2 w * rp 2 w) ≤ fr a.1 w * fr (2 ^ (2 * w) / a.1 + 1) w * (rp 2 w * rp 2 w) := by
      generalize fr (2 ^ (2 * w) / a.1 + 1) w = u at *
      generalize fr a.1 w = v at *
      generalize rp 2 w = z at *
      clear e1 e2 e3
      grind
    exact Rat.le_of_mul_le_mul_right k (Rat.mul_pos hpw hpw)
theorem inv_size {w D : Nat} {a : Sp} (hs : a.1 ≤ a.2) (hd : a.2 ≤ a.1 + 2 ^ D) (h1 : 2 ^ w ≤ a.1) : (spInv a w).2 ≤ 2 ^ w + 1 ∧ (spInv a w).1 ≤ (spInv a w).2 ∧ (spInv a w).2 ≤ (spInv a w).1 + 2 ^ (D + 2) := by
  have hw := pow_pos2 w
  have e : 2 ^ (2 * w) = 2 ^ w * 2 ^ w := by rw [← Nat.pow_add]; congr 1; omega
  simp only [spInv]
  have h2 : 2 ^ (2 * w) / a.1 ≤ 2 ^ w := by
    rw [e]
    refine Nat.le_trans (Nat.div_le_div_left h1 hw) ?_
    rw [Nat.mul_div_cancel _ hw]; exact Nat.le_refl _
  have h3 : 2 ^ (2 * w) / a.2 ≤ 2 ^ (2 * w) / a.1 := Nat.div_le_div_left hs (by omega)
  refine ⟨by omega, by omega, ?_⟩
  have h4 : 2 ^ (2 * w) / a.1 ≤ 2 ^ (2 * w) / a.2 + 2 * 2 ^ D := by
    obtain ⟨t, ht⟩ := Nat.le.dest hs
    have ht2 : t ≤ 2 ^ D := by omega
    have h5 : 2 ^ (2 * w) < a.1 * (2 ^ (2 * w) / a.2 + 2 * 2 ^ D + 1) := by
      have h6 := Nat.lt_mul_div_succ (2 ^ (2 * w)) (show 0 < a.2 by omega)
      generalize 2 ^ (2 * w) / a.2 = q at *
      generalize 2 ^ (2 * w) / a.1 = q1 at *
      have h7 : t * (q + 1) ≤ a.1 * (2 * 2 ^ D) := by
        refine Nat.le_trans (Nat.mul_le_mul ht2 (show q + 1 ≤ 2 * a.1 by omega)) ?_
        rw [Nat.mul_comm, Nat.mul_comm 2 a.1, Nat.mul_assoc]
        exact Nat.le_refl _
      rw [← ht, Nat.add_mul] at h6
      rw [show q + 2 * 2 ^ D + 1 = (q + 1) + 2 * 2 ^ D by omega, Nat.mul_add]
      omega
    have := (Nat.div_lt_iff_lt_mul (x := 2 ^ (2 * w)) (y := 2 ^ (2 * w) / a.2 + 2 * 2 ^ D + 1) (show 0 < a.1 by omega)).2 (Nat.lt_of_lt_of_eq h5 (Nat.mul_comm _ _))
    omega
  rw [show D + 2 = D + 1 + 1 by omega, Nat.pow_succ, Nat.pow_succ]
  have := pow_pos2 D
  omega
def xNear (neg : Bool) (n d w : Nat) : Sp :=
  let e := sqs (xR (spOf n (d * 2 ^ 14) w) w) w 14
  if neg = true then spInv e w else e
/-- a power, of its sign -/
def sg (neg : Bool) (r : Rat) : Rat := if neg = true then -r else r
theorem xNear_in {n d w : Nat} (neg : Bool) (hd : 0 < d) (hn : n ≤ 64 * d) (hw : 160 ≤ w) {r : Rat} (hr : r * ((d : Nat) : Rat) = ((n : Nat) : Rat)) :
    EG (sg neg r) (fr (xNear neg n d w).1 w) ∧ EL (sg neg r) (fr (xNear neg n d w).2 w) ∧ (xNear neg n d w).1 ≤ (xNear neg n d w).2 ∧ (xNear neg n d w).2 ≤ 2 ^ (w + cS 14) ∧ (w < 2 ^ 36 → (xNear neg n d w).2 ≤ (xNear neg n d w).1 + 2 ^ (dS 40 14 + 2)) := by
  have hdp : 0 < d * 2 ^ 14 := Nat.mul_pos hd (by decide)
  have hdq := nat_pos hd
  have hp := pow_pos2 w
  let y := spOf n (d * 2 ^ 14) w
  let s : Rat := r * (1 / 16384)
  have hs : s * ((d * 2 ^ 14 : Nat) : Rat) = ((n : Nat) : Rat) := by
    rw [Rat.natCast_mul, ← hr, show ((2 ^ 14 : Nat) : Rat) = 16384 by decide +kernel]
    show r * (1 / 16384) * (((d : Nat) : Rat) * 16384) = _
    grind
  have hc : Cn w y s := cn_of hdp hs w
  have hys : y.2 = y.1 + 1 := rfl
  have hy : 4 * y.2 ≤ 2 ^ w := by
    have h1 : n * 2 ^ w / (d * 2 ^ 14) ≤ 2 ^ (w - 8) := by
      refine Nat.le_of_lt_succ ((Nat.div_lt_iff_lt_mul hdp).2 ?_)
      have h2 : n * 2 ^ w ≤ 64 * d * 2 ^ w := Nat.mul_le_mul_right _ hn
      have h3 : 2 ^ w = 2 ^ (w - 8) * 2 ^ 8 := by rw [← Nat.pow_add]; congr 1; omega
      have h4 : 64 * d * 2 ^ w = 2 ^ (w - 8) * (d * 2 ^ 14) := by
        rw [h3, show (2 : Nat) ^ 14 = 64 * 2 ^ 8 by decide]
        generalize 2 ^ (w - 8) = u
        generalize (2 : Nat) ^ 8 = v
        simp only [Nat.mul_assoc, Nat.mul_comm, Nat.mul_left_comm]
      rw [Nat.succ_mul]
      omega
    have h5 : 2 ^ w = 2 ^ (w - 8) * 256 := by rw [show (256 : Nat) = 2 ^ 8 by decide, ← Nat.pow_add]; congr 1; omega
    have h6 := pow_pos2 (w - 8)
    have h7 : 2 ^ 3 ≤ 2 ^ (w - 8) := Nat.pow_le_pow_right (by omega) (by omega)
    show 4 * (n * 2 ^ w / (d * 2 ^ 14) + 1) ≤ 2 ^ w
    omega
  have hs1 : s + s ≤ 1 := by
    have h1 : r * ((d : Nat) : Rat) ≤ 64 * ((d : Nat) : Rat) := by
      rw [hr, show (64 : Rat) = ((64 : Nat) : Rat) from rfl, ← Rat.natCast_mul, Rat.natCast_le_natCast]; exact hn
    have h2 := Rat.le_of_mul_le_mul_right h1 hdq
    show r * (1 / 16384) + r * (1 / 16384) ≤ 1
    grind
  obtain ⟨q1, q2, q3, q4, q5, q6⟩ := xR_in hc hs1 hy hys (by omega)
  have e : ((2 ^ 14 : Nat) : Rat) * s = r := by
    rw [show ((2 ^ 14 : Nat) : Rat) = 16384 by decide +kernel]
    show 16384 * (r * (1 / 16384)) = r
    grind
  obtain ⟨i1, i2⟩ := sqs_in q1 q2 14
  rw [e] at i1 i2
  have hlt : w < 2 ^ w := Nat.lt_two_pow_self
  have hbig : 5 * (w + 3) + 1 ≤ 2 ^ w := by
    have h3 : 2 ^ w = 2 ^ (w - 8) * 256 := by rw [show (256 : Nat) = 2 ^ 8 by decide, ← Nat.pow_add]; congr 1; omega
    have h4 : w - 8 < 2 ^ (w - 8) := Nat.lt_two_pow_self
    omega
  have hR2 : (xR y w).2 ≤ 2 ^ (w + 2) := by rw [Nat.pow_add]; omega
  have hgo : ∀ D, (xR y w).2 ≤ (xR y w).1 + 2 ^ D → (xNear neg n d w).1 ≤ (xNear neg n d w).2 ∧ (xNear neg n d w).2 ≤ 2 ^ (w + cS 14) ∧ (xNear neg n d w).2 ≤ (xNear neg n d w).1 + 2 ^ (dS D 14 + 2) := by
    intro D hD
    obtain ⟨k1, k2, k3, k4⟩ := sqs_size hR2 q4 hD q3 14
    simp only [xNear]
    split
    · obtain ⟨j1, j2, j3⟩ := inv_size k2 k3 k4
      refine ⟨j2, Nat.le_trans j1 ?_, j3⟩
      have h5 : 2 ^ (w + 1) ≤ 2 ^ (w + cS 14) := Nat.pow_le_pow_right (by omega) (Nat.add_le_add_left (by decide +kernel) w)
      rw [Nat.pow_succ] at h5
      omega
    · refine ⟨k2, k1, Nat.le_trans k3 (Nat.add_le_add_left (Nat.pow_le_pow_right (by omega) (by omega)) _)⟩
  have g0 := hgo w (by omega)
  refine ⟨?_, ?_, g0.1, g0.2.1, fun hw3 => (hgo 40 ?_).2.2⟩
  · obtain ⟨k1, k2, k3, k4⟩ := sqs_size (D := w) hR2 q4 (by omega) q3 14
    simp only [xNear, sg]
    split
    · exact (inv_in i1 i2 (by omega) k2).1
    · exact i1
  · obtain ⟨k1, k2, k3, k4⟩ := sqs_size (D := w) hR2 q4 (by omega) q3 14
    simp only [xNear, sg]
    split
    · exact (inv_in i1 i2 (by omega) k2).2
    · exact i2
  · have : (2 : Nat) ^ 40 = 2 ^ 36 * 16 := by decide
    omega
/-- is the whole number below certain? -/
def okF (a : Sp) (w p : Nat) : Prop := a.1 / 2 ^ (w - p) = (a.2 - 1) / 2 ^ (w - p)
instance (a : Sp) (w p : Nat) : Decidable (okF a w p) := inferInstanceAs (Decidable (_ = _))
theorem fr_up' {p w : Nat} (h : p ≤ w) (m : Nat) : fr (m * 2 ^ (w - p)) w = fr m p := by
  have := fr_up m p (w - p)
  rwa [show p + (w - p) = w by omega] at this
theorem ok_between {a : Sp} {w p : Nat} (hp : p ≤ w) (hs : 0 < a.2) (h : okF a w p) : fr (a.1 / 2 ^ (w - p)) p ≤ fr a.1 w ∧ fr a.2 w ≤ fr (a.1 / 2 ^ (w - p) + 1) p := by
  have hq := pow_pos2 (w - p)
  rw [← fr_up' hp, ← fr_up' hp]
  refine ⟨fr_le (Nat.div_mul_le_self _ _) w, fr_le ?_ w⟩
  have h1 := Nat.lt_mul_div_succ (a.2 - 1) hq
  rw [← show a.1 / 2 ^ (w - p) = (a.2 - 1) / 2 ^ (w - p) from h, Nat.mul_comm] at h1
  omega
theorem not_ok_mid {a : Sp} {w p : Nat} (hp : p ≤ w) (hs : a.1 ≤ a.2) (h : ¬ okF a w p) : ∃ m, fr a.1 w ≤ fr m p ∧ fr m p ≤ fr a.2 w := by
  have hq := pow_pos2 (w - p)
  have key : ∃ m, a.1 ≤ m * 2 ^ (w - p) ∧ m * 2 ^ (w - p) ≤ a.2 := by
    unfold okF at h
    generalize 2 ^ (w - p) = s at *
    by_cases e : a.1 = a.2
    · refine ⟨a.1 / s, ?_, Nat.le_trans (Nat.div_mul_le_self _ _) hs⟩
      have h1 := Nat.div_add_mod a.1 s
      by_cases hr : a.1 % s = 0
      · rw [Nat.mul_comm]; omega
      · exfalso
        apply h
        rw [← e]
        have hlt := Nat.mod_lt a.1 hq
        have h2 : a.1 - 1 = s * (a.1 / s) + (a.1 % s - 1) := by omega
        rw [h2, Nat.mul_add_div hq, Nat.div_eq_of_lt (show a.1 % s - 1 < s by omega), Nat.add_zero]
    · refine ⟨(a.2 - 1) / s, ?_, Nat.le_trans (Nat.div_mul_le_self _ _) (by omega)⟩
      have h1 : a.1 / s ≤ (a.2 - 1) / s := Nat.div_le_div_right (by omega)
      have := (Nat.div_lt_iff_lt_mul hq).1 (Nat.lt_of_le_of_ne h1 h)
      omega
  obtain ⟨m, h1, h2⟩ := key
  refine ⟨m, ?_, ?_⟩ <;> rw [← fr_up' hp] <;> exact fr_le (by assumption) w
/-- e to the power x, by 2 to the power p, is between f and f + 1 -/
def IsE (x : Rat) (p f : Nat) : Prop := EG x (fr f p) ∧ EL x (fr (f + 1) p)
/-- a power that is not too large, of few digits -/
def Sm (x : Rat) : Prop := ab x ≤ 128 ∧ ∃ (b : Nat) (u : Int), 0 < b ∧ b ≤ 2 ^ 200 ∧ ((b : Nat) : Rat) * x = (u : Rat)
def KE : Nat := 2147483648
theorem Wh.of {b : Nat} {x : Rat} {u : Int} (h : ((b : Nat) : Rat) * x = (u : Rat)) : Wh (P.gn b * q x) := ⟨u, 0, by
  apply GQ.ext'
  · simp only [mul_re, P.gn, q_re, q_im]; rw [Rat.zero_mul, h]; grind
  · simp only [mul_im, P.gn, q_re, q_im]; grind⟩
/-- e to a power is not near a rational -/
theorem E_far' {K k C : Nat} {x c δ : Rat} {z : Int} (hx0 : x ≠ 0) (hx : Sm x) (hk0 : 0 < k) (hk : k ≤ 2 ^ C) (hC : C ≤ 512) (hc : ((k : Nat) : Rat) * c = (z : Rat)) (hK : KE ≤ K) (h1 : EL x (c + δ)) (h2 : EG x (c - δ)) : 1 ≤ rp 2 K * δ := by
  obtain ⟨hx1, b, u, hb0, hb, hbx⟩ := hx
  have hp := rp2_pos K
  have hm := measure (K := K) (z := q x) (x := q c) (fun e => hx0 (show (q x).re = 0 by rw [e]; rfl)) (by rw [nr_q]; exact hx1) hb0 hb (Nat.le_refl _) (Wh.of hbx) hk0 hk hC (Wh.of hc) hK
  refine le_eps fun ε he => ?_
  obtain ⟨d, hd, hd2⟩ := eps he (B := rp 2 K) (Rat.le_of_lt hp)
  obtain ⟨n, ⟨h3, h4⟩, h5⟩ := (((h1 d hd).and (h2 d hd)).and hm).ex
  rw [En_q, ← q_sub, nr_q] at h5
  have h6 : ab (RE x n - c) ≤ δ + d := ab_le.2 (by constructor <;> grind)
  have h7 := Rat.mul_le_mul_of_nonneg_left h6 (Rat.le_of_lt hp)
  grind
theorem fr_whole (m p : Nat) : ((2 ^ p : Nat) : Rat) * fr m p = (((m : Nat) : Int) : Rat) := by
  rw [Rat.mul_comm, ← rp2_nat, fr_mul]; rfl
/-- what is narrow enough is certain -/
theorem ok_far {x : Rat} {a : Sp} {w p D : Nat} (hx0 : x ≠ 0) (hx : Sm x) (hp : p ≤ 512) (hpw : p ≤ w) (h1 : EG x (fr a.1 w)) (h2 : EL x (fr a.2 w)) (hs : a.1 ≤ a.2) (hd : a.2 ≤ a.1 + 2 ^ D) (hw : KE + D < w) : okF a w p := by
  rcases Decidable.em (okF a w p) with h | h
  · exact h
  · exfalso
    obtain ⟨m, h3, h4⟩ := not_ok_mid hpw hs h
    have h5 : fr a.2 w ≤ fr a.1 w + fr (2 ^ D) w := by rw [← fr_add]; exact fr_le hd w
    have h6 := E_far' (K := KE) (δ := fr (2 ^ D) w) hx0 hx (pow_pos2 p) (Nat.le_refl _) hp (fr_whole m p) (Nat.le_refl _) (h2.le (by grind)) (h1.le (by grind))
    have h7 := Rat.mul_le_mul_of_nonneg_right h6 (Rat.le_of_lt (rp2_pos w))
    rw [Rat.mul_assoc, fr_mul, ← rp2_nat, ← rp_add, Rat.one_mul] at h7
    have := rp_lt hw
    grind
def eW (p i : Nat) : Nat := (p + 160) * 2 ^ i
def eI (neg : Bool) (n d p : Nat) : Nat := fst (fun i => decide (okF (xNear neg n d (eW p i)) (eW p i) p)) 25 0
def eF (neg : Bool) (n d p : Nat) : Nat := (xNear neg n d (eW p (eI neg n d p))).1 / 2 ^ (eW p (eI neg n d p) - p)
theorem dS14 : dS 40 14 + 2 = 49205 := by decide +kernel
theorem eW_le {p i : Nat} (hp : p ≤ 512) (hi : i ≤ 25) : 160 ≤ eW p i ∧ p ≤ eW p i ∧ eW p i < 2 ^ 36 := by
  have h1 := pow_pos2 i
  have h2 : 2 ^ i ≤ 2 ^ 25 := Nat.pow_le_pow_right (by omega) hi
  have h3 : (p + 160) * 2 ^ i ≤ 672 * 2 ^ 25 := Nat.mul_le_mul (by omega) h2
  have h4 : (p + 160) * 1 ≤ (p + 160) * 2 ^ i := Nat.mul_le_mul_left _ h1
  have h5 : 672 * 2 ^ 25 < 2 ^ 36 := by decide
  unfold eW
  omega
theorem e_ends {neg : Bool} {n d p : Nat} {r : Rat} (hd : 0 < d) (hn0 : 0 < n) (hn : n ≤ 64 * d) (hd2 : d ≤ 2 ^ 200) (hp : p ≤ 512) (hr : r * ((d : Nat) : Rat) = ((n : Nat) : Rat)) :
    eI neg n d p ≤ 25 ∧ okF (xNear neg n d (eW p (eI neg n d p))) (eW p (eI neg n d p)) p ∧ (∀ i, i < eI neg n d p → ¬ okF (xNear neg n d (eW p i)) (eW p i) p) ∧ sg neg r ≠ 0 ∧ Sm (sg neg r) ∧ IsE (sg neg r) p (eF neg n d p) := by
  have hdq := nat_pos hd
  have hnq := nat_pos hn0
  have hr0 : 0 < r := by
    have h1 : 0 * ((d : Nat) : Rat) < r * ((d : Nat) : Rat) := by rw [hr, Rat.zero_mul]; exact hnq
    exact Rat.lt_of_mul_lt_mul_right h1 (Rat.le_of_lt hdq)
  have hr64 : r ≤ 64 := by
    have h1 : r * ((d : Nat) : Rat) ≤ 64 * ((d : Nat) : Rat) := by
      rw [hr, show (64 : Rat) = ((64 : Nat) : Rat) from rfl, ← Rat.natCast_mul, Rat.natCast_le_natCast]; exact hn
    exact Rat.le_of_mul_le_mul_right h1 hdq
  have hne : sg neg r ≠ 0 := by unfold sg; split <;> grind
  have hSm : Sm (sg neg r) := by
    unfold sg
    split
    · exact ⟨ab_le.2 (by constructor <;> grind), d, -(n : Int), hd, hd2, by
        rw [Rat.intCast_neg, show (((n : Nat) : Int) : Rat) = ((n : Nat) : Rat) from rfl, ← hr]; grind⟩
    · exact ⟨ab_le.2 (by constructor <;> grind), d, (n : Int), hd, hd2, by
        rw [show (((n : Nat) : Int) : Rat) = ((n : Nat) : Rat) from rfl, ← hr]; grind⟩
  have h25 := eW_le hp (Nat.le_refl 25)
  have hok : okF (xNear neg n d (eW p 25)) (eW p 25) p := by
    obtain ⟨a1, a2, a3, _, a5⟩ := xNear_in neg hd hn h25.1 hr
    refine ok_far hne hSm hp h25.2.1 a1 a2 a3 (a5 h25.2.2) ?_
    rw [dS14]
    have h7 : 160 * 2 ^ 25 ≤ eW p 25 := Nat.mul_le_mul_right _ (by omega)
    have h6 : KE + 49205 < 160 * 2 ^ 25 := by decide
    exact Nat.lt_of_lt_of_le h6 h7
  obtain ⟨b1, b2, b3, _⟩ := fst_spec (fun i => decide (okF (xNear neg n d (eW p i)) (eW p i) p)) 25 0 25 (decide_eq_true hok) (by omega) (by omega)
  have c1 : okF (xNear neg n d (eW p (eI neg n d p))) (eW p (eI neg n d p)) p := of_decide_eq_true b1
  have hI := eW_le hp (show eI neg n d p ≤ 25 from b3)
  refine ⟨b3, c1, fun i hi => of_decide_eq_false (b2 i (by omega) hi), hne, hSm, ?_⟩
  obtain ⟨a1, a2, a3, _, _⟩ := xNear_in neg hd hn hI.1 hr
  have hpos : 0 < (xNear neg n d (eW p (eI neg n d p))).2 := by
    have := a2.pos
    rcases Nat.eq_zero_or_pos (xNear neg n d (eW p (eI neg n d p))).2 with e | e
    · rw [e, fr_zero] at this; exact absurd this (by decide)
    · exact e
  obtain ⟨d1, d2⟩ := ok_between hI.2.1 hpos c1
  exact ⟨a1.le d1, a2.le d2⟩
theorem EL64 {x : Rat} (hx : x ≤ 64) : EL x (rp 3 64) := by
  have h : EL ((64 : Nat) : Rat) (rp 3 64) := fun ε he => Ev.all fun n => by have := RE_nat n 64; grind
  exact h.mono (by rw [show ((64 : Nat) : Rat) = 64 from rfl]; exact hx)
theorem IsE.small {x : Rat} {p f : Nat} (hx : x ≤ 64) (h : IsE x p f) : f < 2 ^ (p + 128) := by
  have h1 := (EL64 hx).ge h.1
  have h2 := Rat.mul_le_mul_of_nonneg_right h1 (Rat.le_of_lt (rp2_pos p))
  have h3 : rp 3 64 < rp 2 128 := by decide +kernel
  have h4 := rp2_pos p
  rw [fr_mul] at h2
  have h5 : ((f : Nat) : Rat) < rp 2 (p + 128) := by
    rw [rp_add, Rat.mul_comm (rp 2 p)]
    have h6 := Rat.mul_lt_mul_of_pos_right h3 h4
    grind
  rw [rp2_nat, Rat.natCast_lt_natCast] at h5
  exact h5
/-- e to a power and to the other one -/
theorem IsE.turn {x : Rat} {p f g : Nat} (h : IsE x p f) (k : IsE (-x) p g) : fr f p * fr g p ≤ 1 ∧ 1 ≤ fr (f + 1) p * fr (g + 1) p := by
  have h1 := EG.add (fr_nn _ _) h.1 k.1
  have h2 := h.2.add k.2
  rw [Rat.add_neg_cancel] at h1 h2
  exact ⟨EL.zero.ge h1, h2.ge EG.of_zero⟩
end Go.Proofs.YtnjgliojkoeneaaGreat.P
set_option linter.unusedSimpArgs false
set_option linter.unusedVariables false
namespace Go.Proofs.YtnjgliojkoeneaaGreat.P
open GQ
theorem cn_low {w : Nat} {y : Sp} (hs : y.1 ≤ y.2) : Cn w y (fr y.1 w) := by
  refine ⟨?_, ?_⟩ <;> rw [fr_mul, Rat.natCast_le_natCast]
  · exact Nat.le_refl _
  · exact hs
theorem xA_size {w : Nat} {y : Sp} (hy : 4 * y.2 ≤ 2 ^ w) (hs : y.2 = y.1 + 1) (j : Nat) : (xA y w j).1 ≤ 2 ^ w * 3 ∧ (xA y w j).2 ≤ 2 ^ w * 3 + 5 * (j + 1) := by
  have hc := cn_low (w := w) (show y.1 ≤ y.2 by omega)
  have hA := cn_xA hc j
  have hr0 := hc.nn
  have hr : fr y.1 w + fr y.1 w ≤ 1 := by
    have h1 : (y.1 + y.1) ≤ 2 ^ w := by omega
    have h2 := fr_le h1 w
    rw [fr_add] at h2
    have h3 := fr_two w 1
    rw [Nat.mul_one] at h3
    rw [h3] at h2
    exact h2
  have a1 := RE_rest hr0 (n := 1) (by rw [show ((1 + 1 : Nat) : Rat) = 2 by decide +kernel]; grind) j
  rw [show 1 + j = j + 1 by omega] at a1
  have a2 := rt_nn hr0 (j + 1)
  generalize fr y.1 w = r at *
  have a3 : RE r 1 + (rt r 1 + rt r 1) = 1 + (r + r) := by
    show (0 + (1 : Rat)) + (1 * (1 / ((0 + 1 : Nat) : Rat) * r) + 1 * (1 / ((0 + 1 : Nat) : Rat) * r)) = _
    rw [show (1 : Rat) / ((0 + 1 : Nat) : Rat) = 1 by decide +kernel]; grind
  have a4 : RE r (j + 1) ≤ 3 := by grind
  have a5 := Rat.mul_le_mul_of_nonneg_right a4 (Rat.le_of_lt (rp2_pos w))
  have a6 := Rat.le_trans hA.1 a5
  rw [rp2_nat, show (3 : Rat) = ((3 : Nat) : Rat) from rfl, ← Rat.natCast_mul, Rat.natCast_le_natCast] at a6
  have := (xA_width hy hs j).1
  omega
theorem big8 {w : Nat} (hw : 160 ≤ w) : 5 * (w + 3) + 1 ≤ 2 ^ w := by
  have h3 : 2 ^ w = 2 ^ (w - 8) * 256 := by rw [show (256 : Nat) = 2 ^ 8 by decide, ← Nat.pow_add]; congr 1; omega
  have h4 : w - 8 < 2 ^ (w - 8) := Nat.lt_two_pow_self
  omega
/-- every sum on the way is short -/
theorem xA_short {w : Nat} {y : Sp} (hy : 4 * y.2 ≤ 2 ^ w) (hs : y.2 = y.1 + 1) (hw : 160 ≤ w) {j : Nat} (hj : j ≤ w + 2) : (xA y w j).1 < 2 ^ (w + 3) ∧ (xA y w j).2 < 2 ^ (w + 3) ∧ (xT y w j).1 < 2 ^ (w + 3) ∧ (xT y w j).2 < 2 ^ (w + 3) := by
  obtain ⟨h1, h2⟩ := xA_size hy hs j
  have h3 := xT_le hy (show y.1 ≤ y.2 by omega) j
  have h4 := (xT_width hy hs j).2
  have h5 := big8 hw
  rw [Nat.pow_add]
  omega
theorem xR_size {w : Nat} {y : Sp} (hy : 4 * y.2 ≤ 2 ^ w) (hs : y.2 = y.1 + 1) (hw : 160 ≤ w) : 2 ^ w ≤ (xR y w).1 ∧ (xR y w).1 ≤ (xR y w).2 ∧ (xR y w).2 ≤ 2 ^ (w + 2) := by
  obtain ⟨_, _, hJ⟩ := xJ_spec hy (show 1 ≤ w by omega)
  have h1 := xA_size hy hs (xJ y w)
  have h2 := xA_width hy hs (xJ y w)
  have h3 := (cn_xA (cn_low (w := w) (show y.1 ≤ y.2 by omega)) (xJ y w)).sp
  have h5 := big8 hw
  simp only [xR, spWider]
  rw [Nat.pow_add]
  omega
theorem xY_ok {n d w : Nat} (hd : 0 < d) (hn : n ≤ 64 * d) (hw : 160 ≤ w) : 4 * (spOf n (d * 2 ^ 14) w).2 ≤ 2 ^ w := by
  have hdp : 0 < d * 2 ^ 14 := Nat.mul_pos hd (by decide)
  have h1 : n * 2 ^ w / (d * 2 ^ 14) ≤ 2 ^ (w - 8) := by
    refine Nat.le_of_lt_succ ((Nat.div_lt_iff_lt_mul hdp).2 ?_)
    have h2 : n * 2 ^ w ≤ 64 * d * 2 ^ w := Nat.mul_le_mul_right _ hn
    have h3 : 2 ^ w = 2 ^ (w - 8) * 2 ^ 8 := by rw [← Nat.pow_add]; congr 1; omega
    have h4 : 64 * d * 2 ^ w = 2 ^ (w - 8) * (d * 2 ^ 14) := by
      rw [h3, show (2 : Nat) ^ 14 = 64 * 2 ^ 8 by decide]
      generalize 2 ^ (w - 8) = u
      generalize (2 : Nat) ^ 8 = v
      simp only [Nat.mul_assoc, Nat.mul_comm, Nat.mul_left_comm]
    rw [Nat.succ_mul]
    omega
  have h5 : 2 ^ w = 2 ^ (w - 8) * 256 := by rw [show (256 : Nat) = 2 ^ 8 by decide, ← Nat.pow_add]; congr 1; omega
  have h7 : 2 ^ 3 ≤ 2 ^ (w - 8) := Nat.pow_le_pow_right (by omega) (by omega)
  show 4 * (n * 2 ^ w / (d * 2 ^ 14) + 1) ≤ 2 ^ w
  omega
theorem pw_lt (a : Nat) : 2 ^ a < 2 ^ (a + 1) := by rw [Nat.pow_succ]; have := pow_pos2 a; omega
theorem cS_le : ∀ {i : Nat}, i ≤ 14 → cS i ≤ 49151
  | 0, _ | 1, _ | 2, _ | 3, _ | 4, _ | 5, _ | 6, _ | 7, _ | 8, _ | 9, _ | 10, _ | 11, _ | 12, _ | 13, _ | 14, _ => by decide +kernel
  | n + 15, h => by omega
theorem sqs_short {w : Nat} {y : Sp} (hy : 4 * y.2 ≤ 2 ^ w) (hs : y.2 = y.1 + 1) (hw : 160 ≤ w) {i : Nat} (hi : i ≤ 14) : (sqs (xR y w) w i).1 < 2 ^ (w + 49152) ∧ (sqs (xR y w) w i).2 < 2 ^ (w + 49152) ∧ 2 ^ w ≤ (sqs (xR y w) w i).1 := by
  obtain ⟨h1, h2, h3⟩ := xR_size hy hs hw
  obtain ⟨k1, k2, k3, k4⟩ := sqs_size (D := w + 2) h3 h2 (by omega) h1 i
  have h4 : 2 ^ (w + cS i) ≤ 2 ^ (w + 49151) := Nat.pow_le_pow_right (by omega) (Nat.add_le_add_left (cS_le hi) w)
  have h5 : 2 ^ (w + 49151) < 2 ^ (w + 49152) := pw_lt (w + 49151)
  have h6 := Nat.lt_of_le_of_lt (Nat.le_trans k1 h4) h5
  exact ⟨Nat.lt_of_le_of_lt k2 h6, h6, k4⟩
theorem xNear_short {neg : Bool} {n d w : Nat} (hd : 0 < d) (hn : n ≤ 64 * d) (hw : 160 ≤ w) : (xNear neg n d w).1 < 2 ^ (w + 49152) ∧ (xNear neg n d w).2 < 2 ^ (w + 49152) := by
  obtain ⟨_, _, h3, h4, _⟩ := xNear_in neg hd hn hw (r := ((n : Nat) : Rat) * (1 / ((d : Nat) : Rat))) (by rw [Rat.mul_assoc, one_div_mul (nat_pos hd), Rat.mul_one])
  have h5 : 2 ^ (w + cS 14) ≤ 2 ^ (w + 49151) := Nat.pow_le_pow_right (by omega) (Nat.add_le_add_left (cS_le (Nat.le_refl _)) w)
  have h6 := Nat.lt_of_le_of_lt (Nat.le_trans h4 h5) (pw_lt (w + 49151))
  exact ⟨Nat.lt_of_le_of_lt h3 h6, h6⟩
end Go.Proofs.YtnjgliojkoeneaaGreat.P
