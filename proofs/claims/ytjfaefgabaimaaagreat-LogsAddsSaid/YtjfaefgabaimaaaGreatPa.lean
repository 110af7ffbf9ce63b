/- Numbers with two rational parts, their sums and powers. No condition. Sequences that follow from their nodes, rows of coefficients, and that few of them vanish. No condition. Few sequences of powers vanish far; rows of which there are more than places hang together. No condition. The sequence of many nodes that vanishes longest, its rows, and that its neighbours do not vanish together. No condition. The neighbours of the longest vanishing sequence, at a number that is not 0, do not vanish together at any other number. No condition. -/
import Derived.Test.YtjfaefgabaimaaaGreatRows
set_option linter.unusedSimpArgs false
set_option linter.unusedVariables false
namespace Go.Proofs.YtjfaefgabaimaaaGreat.P
def ab (x : Rat) : Rat := if 0 ≤ x then x else -x
theorem ab_nn (x : Rat) : 0 ≤ ab x := by unfold ab; split <;> grind
theorem ab_le {x y : Rat} : ab x ≤ y ↔ x ≤ y ∧ -y ≤ x := by unfold ab; split <;> grind
theorem le_ab (x : Rat) : x ≤ ab x := by unfold ab; split <;> grind
theorem neg_le_ab (x : Rat) : -x ≤ ab x := by unfold ab; split <;> grind
theorem ab_add (x y : Rat) : ab (x + y) ≤ ab x + ab y := by unfold ab; split <;> split <;> split <;> grind
theorem ab_neg (x : Rat) : ab (-x) = ab x := by unfold ab; split <;> split <;> grind
theorem ab_sub (x y : Rat) : ab (x - y) ≤ ab x + ab y := by unfold ab; split <;> split <;> split <;> grind
theorem ab_of {x : Rat} (h : 0 ≤ x) : ab x = x := by unfold ab; rw [if_pos h]
theorem ab_zero : ab 0 = 0 := rfl
theorem ab_mul (x y : Rat) : ab (x * y) = ab x * ab y := by
  rcases Rat.le_total (a := 0) (b := x) with hx | hx <;> rcases Rat.le_total (a := 0) (b := y) with hy | hy
  · rw [ab_of hx, ab_of hy, ab_of (Rat.mul_nonneg hx hy)]
  · have h := Rat.mul_nonneg hx (show 0 ≤ -y by grind)
    rw [ab_of hx, ← ab_neg y, ab_of (show 0 ≤ -y by grind), ← ab_neg (x * y), ab_of (by grind)]; grind
  · have h := Rat.mul_nonneg (show 0 ≤ -x by grind) hy
    rw [ab_of hy, ← ab_neg x, ab_of (show 0 ≤ -x by grind), ← ab_neg (x * y), ab_of (by grind)]; grind
  · have h := Rat.mul_nonneg (show 0 ≤ -x by grind) (show 0 ≤ -y by grind)
    rw [← ab_neg x, ← ab_neg y, ab_of (show 0 ≤ -x by grind), ab_of (show 0 ≤ -y by grind), ab_of (by grind)]; grind
theorem rmul_le {a b c d : Rat} (h1 : a ≤ b) (h2 : c ≤ d) (h3 : 0 ≤ c) (h4 : 0 ≤ b) : a * c ≤ b * d := by
  have x := Rat.mul_le_mul_of_nonneg_right h1 h3
  have y := Rat.mul_le_mul_of_nonneg_left h2 h4
  exact Rat.le_trans x y
structure GQ where
  re : Rat
  im : Rat
namespace GQ
theorem ext' {a b : GQ} (h : a.re = b.re) (k : a.im = b.im) : a = b := by
  cases a; cases b; cases h; cases k; rfl
instance : Add GQ := ⟨fun a b => ⟨a.re + b.re, a.im + b.im⟩⟩
instance : Sub GQ := ⟨fun a b => ⟨a.re - b.re, a.im - b.im⟩⟩
instance : Neg GQ := ⟨fun a => ⟨-a.re, -a.im⟩⟩
instance : Mul GQ := ⟨fun a b => ⟨a.re * b.re - a.im * b.im, a.re * b.im + a.im * b.re⟩⟩
instance : Zero GQ := ⟨⟨0, 0⟩⟩
instance : One GQ := ⟨⟨1, 0⟩⟩
theorem add_re (a b : GQ) : (a + b).re = a.re + b.re := rfl
theorem add_im (a b : GQ) : (a + b).im = a.im + b.im := rfl
theorem sub_re (a b : GQ) : (a - b).re = a.re - b.re := rfl
theorem sub_im (a b : GQ) : (a - b).im = a.im - b.im := rfl
theorem neg_re (a : GQ) : (-a).re = -a.re := rfl
theorem neg_im (a : GQ) : (-a).im = -a.im := rfl
theorem mul_re (a b : GQ) : (a * b).re = a.re * b.re - a.im * b.im := rfl
theorem mul_im (a b : GQ) : (a * b).im = a.re * b.im + a.im * b.re := rfl
theorem zero_re : (0 : GQ).re = 0 := rfl
theorem zero_im : (0 : GQ).im = 0 := rfl
theorem one_re : (1 : GQ).re = 1 := rfl
theorem one_im : (1 : GQ).im = 0 := rfl
/-- a rational -/
def q (x : Rat) : GQ := ⟨x, 0⟩
theorem q_re (x : Rat) : (q x).re = x := rfl
theorem q_im (x : Rat) : (q x).im = 0 := rfl
/-- the other number -/
def inv (a : GQ) : GQ := ⟨a.re / (a.re * a.re + a.im * a.im), -a.im / (a.re * a.re + a.im * a.im)⟩
def nr (a : GQ) : Rat := ab a.re + ab a.im
end GQ
open GQ
theorem gadd_comm (a b : GQ) : a + b = b + a := by apply GQ.ext' <;> simp only [add_re, add_im] <;> grind
theorem gadd_assoc (a b c : GQ) : a + b + c = a + (b + c) := by apply GQ.ext' <;> simp only [add_re, add_im] <;> grind
theorem gadd_left_comm (a b c : GQ) : a + (b + c) = b + (a + c) := by apply GQ.ext' <;> simp only [add_re, add_im] <;> grind
theorem gmul_comm (a b : GQ) : a * b = b * a := by apply GQ.ext' <;> simp only [mul_re, mul_im] <;> grind
theorem gmul_assoc (a b c : GQ) : a * b * c = a * (b * c) := by apply GQ.ext' <;> simp only [mul_re, mul_im] <;> grind
theorem gmul_left_comm (a b c : GQ) : a * (b * c) = b * (a * c) := by apply GQ.ext' <;> simp only [mul_re, mul_im] <;> grind
theorem gmul_add (a b c : GQ) : a * (b + c) = a * b + a * c := by apply GQ.ext' <;> simp only [mul_re, mul_im, add_re, add_im] <;> grind
theorem gadd_mul (a b c : GQ) : (a + b) * c = a * c + b * c := by apply GQ.ext' <;> simp only [mul_re, mul_im, add_re, add_im] <;> grind
theorem gmul_sub (a b c : GQ) : a * (b - c) = a * b - a * c := by apply GQ.ext' <;> simp only [mul_re, mul_im, sub_re, sub_im] <;> grind
theorem gsub_mul (a b c : GQ) : (a - b) * c = a * c - b * c := by apply GQ.ext' <;> simp only [mul_re, mul_im, sub_re, sub_im] <;> grind
theorem gadd_zero (a : GQ) : a + 0 = a := by apply GQ.ext' <;> simp only [add_re, add_im, zero_re, zero_im] <;> grind
theorem gzero_add (a : GQ) : 0 + a = a := by apply GQ.ext' <;> simp only [add_re, add_im, zero_re, zero_im] <;> grind
theorem gmul_zero (a : GQ) : a * 0 = 0 := by apply GQ.ext' <;> simp only [mul_re, mul_im, zero_re, zero_im] <;> grind
theorem gzero_mul (a : GQ) : 0 * a = 0 := by apply GQ.ext' <;> simp only [mul_re, mul_im, zero_re, zero_im] <;> grind
theorem gmul_one (a : GQ) : a * 1 = a := by apply GQ.ext' <;> simp only [mul_re, mul_im, one_re, one_im] <;> grind
theorem gone_mul (a : GQ) : 1 * a = a := by apply GQ.ext' <;> simp only [mul_re, mul_im, one_re, one_im] <;> grind
theorem gsub_self (a : GQ) : a - a = 0 := by apply GQ.ext' <;> simp only [sub_re, sub_im, zero_re, zero_im] <;> grind
theorem gsub_zero (a : GQ) : a - 0 = a := by apply GQ.ext' <;> simp only [sub_re, sub_im, zero_re, zero_im] <;> grind
theorem gsub_eq {a b : GQ} : a - b = 0 ↔ a = b := by
  constructor
  · intro h
    have h1 : (a - b).re = 0 := by rw [h]; rfl
    have h2 : (a - b).im = 0 := by rw [h]; rfl
    apply GQ.ext' <;> simp only [sub_re, sub_im] at h1 h2 <;> grind
  · rintro rfl; exact gsub_self _
theorem gneg_eq (a : GQ) : -a = 0 - a := by apply GQ.ext' <;> simp only [neg_re, neg_im, sub_re, sub_im, zero_re, zero_im] <;> grind
theorem gsub_def (a b : GQ) : a - b = a + -b := by apply GQ.ext' <;> simp only [neg_re, neg_im, sub_re, sub_im, add_re, add_im] <;> grind
theorem gneg_mul (a b : GQ) : -a * b = -(a * b) := by apply GQ.ext' <;> simp only [neg_re, neg_im, mul_re, mul_im] <;> grind
theorem gadd_sub_cancel (a b : GQ) : a + b - b = a := by apply GQ.ext' <;> simp only [sub_re, sub_im, add_re, add_im] <;> grind
theorem gsub_add_cancel (a b : GQ) : a - b + b = a := by apply GQ.ext' <;> simp only [sub_re, sub_im, add_re, add_im] <;> grind
theorem sq_nn (x : Rat) : 0 ≤ x * x := by
  rcases Rat.le_total (a := 0) (b := x) with h | h
  · exact Rat.mul_nonneg h h
  · have := Rat.mul_nonneg (show 0 ≤ -x by grind) (show 0 ≤ -x by grind); grind
theorem sq_pos {x : Rat} (h : x ≠ 0) : 0 < x * x := by
  have := sq_nn x
  rcases Classical.em (x * x = 0) with h1 | h1
  · rcases Rat.mul_eq_zero.1 h1 with h2 | h2 <;> exact absurd h2 h
  · grind
theorem gnorm_pos {a : GQ} (h : a ≠ 0) : 0 < a.re * a.re + a.im * a.im := by
  have h1 := sq_nn a.re
  have h2 := sq_nn a.im
  by_cases hr : a.re = 0
  · have hi : a.im ≠ 0 := fun e => h (GQ.ext' hr e)
    have := sq_pos hi; grind
  · have := sq_pos hr; grind
theorem ginv_mul {a : GQ} (h : a ≠ 0) : a.inv * a = 1 := by
  have hn := gnorm_pos h
  have hn' : a.re * a.re + a.im * a.im ≠ 0 := by intro e; rw [e] at hn; exact absurd hn (by decide)
  have e := Rat.mul_inv_cancel _ hn'
  apply GQ.ext' <;> simp only [mul_re, mul_im, one_re, one_im, inv, Rat.div_def]
  · grind
  · grind
theorem gmul_eq_zero {a b : GQ} (h : a * b = 0) : a = 0 ∨ b = 0 := by
  rcases Classical.em (a = 0) with ha | ha
  · exact .inl ha
  · right
    have : a.inv * (a * b) = a.inv * 0 := congrArg (a.inv * ·) h
    rwa [← gmul_assoc, ginv_mul ha, gone_mul, gmul_zero] at this
theorem gmul_cancel {a b c : GQ} (ha : a ≠ 0) (h : a * b = a * c) : b = c := by
  have : a.inv * (a * b) = a.inv * (a * c) := congrArg (a.inv * ·) h
  rwa [← gmul_assoc, ← gmul_assoc, ginv_mul ha, gone_mul, gone_mul] at this
theorem gone_ne : (1 : GQ) ≠ 0 := fun h => by
  have : (1 : GQ).re = 0 := by rw [h]; rfl
  exact absurd this (by decide)
theorem nr_nn (a : GQ) : 0 ≤ nr a := by have := ab_nn a.re; have := ab_nn a.im; unfold nr; grind
theorem nr_add (a b : GQ) : nr (a + b) ≤ nr a + nr b := by
  have := ab_add a.re b.re; have := ab_add a.im b.im; unfold nr; simp only [add_re, add_im]; grind
theorem nr_sub (a b : GQ) : nr (a - b) ≤ nr a + nr b := by
  have := ab_sub a.re b.re; have := ab_sub a.im b.im; unfold nr; simp only [sub_re, sub_im]; grind
theorem nr_neg (a : GQ) : nr (-a) = nr a := by unfold nr; simp only [neg_re, neg_im, ab_neg]
theorem nr_mul (a b : GQ) : nr (a * b) ≤ nr a * nr b := by
  unfold nr; simp only [mul_re, mul_im]
  have h1 := ab_sub (a.re * b.re) (a.im * b.im)
  have h2 := ab_add (a.re * b.im) (a.im * b.re)
  simp only [ab_mul] at h1 h2
  grind
theorem nr_zero : nr 0 = 0 := by decide +kernel
theorem nr_one : nr 1 = 1 := by decide +kernel
theorem nr_q (x : Rat) : nr (q x) = ab x := by unfold nr q; simp only [ab_zero]; grind
def pw (a : GQ) : Nat → GQ
  | 0 => 1
  | n + 1 => pw a n * a
theorem pw_zero (a : GQ) : pw a 0 = 1 := rfl
theorem pw_succ (a : GQ) (n : Nat) : pw a (n + 1) = pw a n * a := rfl
theorem pw_add (a : GQ) (m : Nat) : ∀ n, pw a (m + n) = pw a m * pw a n
  | 0 => by rw [pw_zero, gmul_one]; rfl
  | n + 1 => by rw [← Nat.add_assoc, pw_succ, pw_add a m n, pw_succ, gmul_assoc]
theorem pw_mul (a b : GQ) : ∀ n, pw (a * b) n = pw a n * pw b n
  | 0 => by rw [pw_zero, pw_zero, pw_zero, gmul_one]
  | n + 1 => by rw [pw_succ, pw_mul a b n, pw_succ, pw_succ, gmul_assoc, gmul_assoc, gmul_left_comm (pw b n)]
def rp (a : Rat) : Nat → Rat
  | 0 => 1
  | n + 1 => rp a n * a
theorem rp_nn {a : Rat} (h : 0 ≤ a) : ∀ n, 0 ≤ rp a n
  | 0 => by show (0 : Rat) ≤ 1; decide
  | n + 1 => Rat.mul_nonneg (rp_nn h n) h
theorem nr_pw (a : GQ) : ∀ n, nr (pw a n) ≤ rp (nr a) n
  | 0 => by show nr 1 ≤ 1; rw [nr_one]; exact Rat.le_refl
  | n + 1 => Rat.le_trans (nr_mul _ _) (Rat.mul_le_mul_of_nonneg_right (nr_pw a n) (nr_nn a))
def sm (f : Nat → GQ) : Nat → GQ
  | 0 => 0
  | n + 1 => sm f n + f n
def rsm (f : Nat → Rat) : Nat → Rat
  | 0 => 0
  | n + 1 => rsm f n + f n
theorem sm_succ (f : Nat → GQ) (n : Nat) : sm f (n + 1) = sm f n + f n := rfl
theorem rsm_succ (f : Nat → Rat) (n : Nat) : rsm f (n + 1) = rsm f n + f n := rfl
theorem sm_congr {f g : Nat → GQ} : ∀ {n : Nat}, (∀ i, i < n → f i = g i) → sm f n = sm g n
  | 0, _ => rfl
  | n + 1, h => by rw [sm_succ, sm_succ, sm_congr fun i hi => h i (by omega), h n (by omega)]
theorem sm_zero : ∀ n, sm (fun _ => 0) n = 0
  | 0 => rfl
  | n + 1 => by rw [sm_succ, sm_zero n, gadd_zero]
theorem sm_all0 {f : Nat → GQ} {n : Nat} (h : ∀ i, i < n → f i = 0) : sm f n = 0 := by rw [sm_congr h, sm_zero]
theorem sm_add (f g : Nat → GQ) : ∀ n, sm (fun i => f i + g i) n = sm f n + sm g n
  | 0 => by show (0 : GQ) = 0 + 0; rw [gadd_zero]
  | n + 1 => by rw [sm_succ, sm_add f g n, sm_succ, sm_succ, gadd_assoc, gadd_assoc, gadd_left_comm (sm g n)]
theorem sm_mul (c : GQ) (f : Nat → GQ) : ∀ n, sm (fun i => c * f i) n = c * sm f n
  | 0 => by show (0 : GQ) = c * 0; rw [gmul_zero]
  | n + 1 => by rw [sm_succ, sm_mul c f n, sm_succ, gmul_add]
theorem sm_mul_right (c : GQ) (f : Nat → GQ) (n : Nat) : sm (fun i => f i * c) n = sm f n * c := by
  rw [gmul_comm, ← sm_mul]; exact sm_congr fun i _ => gmul_comm _ _
theorem sm_shift (f : Nat → GQ) : ∀ n, sm f (n + 1) = f 0 + sm (fun i => f (i + 1)) n
  | 0 => by show 0 + f 0 = f 0 + 0; rw [gzero_add, gadd_zero]
  | n + 1 => by rw [sm_succ, sm_shift f n, sm_succ, gadd_assoc]
theorem sm_swap (f : Nat → Nat → GQ) (m : Nat) : ∀ n, sm (fun i => sm (f i) m) n = sm (fun j => sm (fun i => f i j) n) m
  | 0 => by rw [show sm (fun i => sm (f i) m) 0 = 0 from rfl, show (fun j => sm (fun i => f i j) 0) = fun _ => 0 from rfl, sm_zero]
  | n + 1 => by rw [sm_succ, sm_swap f m n, ← sm_add]; rfl
theorem nr_sm (f : Nat → GQ) : ∀ n, nr (sm f n) ≤ rsm (fun i => nr (f i)) n
  | 0 => by show nr 0 ≤ 0; rw [nr_zero]; exact Rat.le_refl
  | n + 1 => by
    have h1 := nr_add (sm f n) (f n)
    have h2 := nr_sm f n
    rw [sm_succ, rsm_succ]; grind
theorem rsm_le {f g : Nat → Rat} : ∀ {n : Nat}, (∀ i, i < n → f i ≤ g i) → rsm f n ≤ rsm g n
  | 0, _ => Rat.le_refl
  | n + 1, h => by
    have h1 := rsm_le (n := n) fun i hi => h i (by omega)
    have h2 := h n (by omega)
    rw [rsm_succ, rsm_succ]; grind
theorem rsm_nn {f : Nat → Rat} {n : Nat} (h : ∀ i, i < n → 0 ≤ f i) : 0 ≤ rsm f n := by
  induction n with
  | zero => exact Rat.le_refl
  | succ n ih =>
    have := ih fun i hi => h i (by omega)
    have := h n (by omega)
    rw [rsm_succ]; grind
theorem rsm_const (c : Rat) : ∀ n : Nat, rsm (fun _ => c) n = (n : Rat) * c
  | 0 => by show (0 : Rat) = ((0 : Nat) : Rat) * c; rw [show ((0 : Nat) : Rat) = 0 from rfl, Rat.zero_mul]
  | n + 1 => by rw [rsm_succ, rsm_const c n, Rat.natCast_add, show ((1 : Nat) : Rat) = 1 from rfl, Rat.add_mul, Rat.one_mul]
theorem rsm_mul (c : Rat) (f : Nat → Rat) : ∀ n, rsm (fun i => c * f i) n = c * rsm f n
  | 0 => by show (0 : Rat) = c * 0; rw [Rat.mul_zero]
  | n + 1 => by rw [rsm_succ, rsm_mul c f n, rsm_succ, Rat.mul_add]
def gn (n : Nat) : GQ := q (n : Rat)
theorem gn_add (a b : Nat) : gn (a + b) = gn a + gn b := by
  unfold gn; apply GQ.ext' <;> simp only [add_re, add_im, q_re, q_im, Rat.natCast_add] <;> grind
theorem gn_mul (a b : Nat) : gn (a * b) = gn a * gn b := by
  unfold gn; apply GQ.ext' <;> simp only [mul_re, mul_im, q_re, q_im, Rat.natCast_mul] <;> grind
theorem gn_zero : gn 0 = 0 := rfl
theorem gn_one : gn 1 = 1 := rfl
theorem gn_inj {a b : Nat} (h : gn a = gn b) : a = b := by
  have : (gn a).re = (gn b).re := by rw [h]
  exact Rat.natCast_inj.1 this
theorem gn_ne {a : Nat} (h : a ≠ 0) : gn a ≠ 0 := fun e => h (gn_inj (e.trans gn_zero.symm))
/-- one node taken out -/
def del (c : GQ) (u : Nat → GQ) : Nat → GQ := fun j => u (j + 1) - c * u j
/-- the powers of a node, and what is one taken out of the next -/
def ee (c : GQ) : Nat → Nat → GQ
  | 0, j => pw c j
  | _ + 1, 0 => 0
  | i + 1, j + 1 => c * ee c (i + 1) j + ee c i j
theorem del_ee0 (c : GQ) : ∀ j, del c (ee c 0) j = 0 := fun j => by
  show ee c 0 (j + 1) - c * ee c 0 j = 0
  rw [show ee c 0 (j + 1) = pw c j * c by unfold ee; rfl, show ee c 0 j = pw c j by unfold ee; rfl, gmul_comm, gsub_self]
theorem del_ee (c : GQ) (i : Nat) : ∀ j, del c (ee c (i + 1)) j = ee c i j := fun j => by
  show ee c (i + 1) (j + 1) - c * ee c (i + 1) j = ee c i j
  rw [show ee c (i + 1) (j + 1) = c * ee c (i + 1) j + ee c i j by rw [ee], gadd_comm, gadd_sub_cancel]
theorem ee_zero (c : GQ) : ee c 0 0 = 1 := by rw [ee]; rfl
theorem ee_succ (c : GQ) (i : Nat) : ee c (i + 1) 0 = 0 := by rw [ee]
theorem del_del (c d : GQ) (u : Nat → GQ) (j : Nat) : del c u j = del d u j + (d - c) * u j := by
  unfold del
  apply GQ.ext' <;> simp only [add_re, add_im, sub_re, sub_im, mul_re, mul_im] <;> grind
def dR (d : GQ) (r : Nat → GQ) : Nat → GQ := fun i => d * r i + r (i + 1)
def dC (l : Nat) (c : Nat → Nat → GQ) : Nat → Nat → GQ := fun k => dR (gn k - gn l) (c k)
/-- the sequence of one row -/
def rw1 (k n : Nat) (r : Nat → GQ) : Nat → GQ := fun j => sm (fun i => r i * ee (gn k) i j) n
/-- the sequence of rows 0 to m -/
def rep (m n : Nat) (c : Nat → Nat → GQ) : Nat → GQ := fun j => sm (fun k => rw1 k n (c k) j) (m + 1)
theorem del_rw1 (l : GQ) (k n : Nat) (r : Nat → GQ) (h : r n = 0) (j : Nat) : del l (rw1 k n r) j = rw1 k n (dR (gn k - l) r) j := by
  have e1 : del l (rw1 k n r) j = sm (fun i => r i * del l (ee (gn k) i) j) n := by
    show sm (fun i => r i * ee (gn k) i (j + 1)) n - l * sm (fun i => r i * ee (gn k) i j) n = _
    rw [← sm_mul, gsub_def, gneg_eq, ← gsub_self (sm (fun i => l * (r i * ee (gn k) i j)) n)]
    have : sm (fun i => r i * ee (gn k) i (j + 1)) n = sm (fun i => r i * del l (ee (gn k) i) j) n + sm (fun i => l * (r i * ee (gn k) i j)) n := by
      rw [← sm_add]
      refine sm_congr fun i _ => ?_
      unfold del
      apply GQ.ext' <;> simp only [add_re, add_im, sub_re, sub_im, mul_re, mul_im] <;> grind
    rw [this]
    apply GQ.ext' <;> simp only [add_re, add_im, sub_re, sub_im] <;> grind
  rw [e1]
  show _ = sm (fun i => ((gn k - l) * r i + r (i + 1)) * ee (gn k) i j) n
  have e2 : sm (fun i => r i * del l (ee (gn k) i) j) n = sm (fun i => r i * del (gn k) (ee (gn k) i) j) n + sm (fun i => (gn k - l) * r i * ee (gn k) i j) n := by
    rw [← sm_add]
    refine sm_congr fun i _ => ?_
    rw [del_del l (gn k), gmul_add, gmul_comm (gn k - l) (r i), gmul_assoc]
  have e3 : ∀ n, r n = 0 → sm (fun i => r i * del (gn k) (ee (gn k) i) j) n = sm (fun i => r (i + 1) * ee (gn k) i j) n := by
    intro n hn
    cases n with
    | zero => rfl
    | succ n =>
      rw [sm_shift, del_ee0, gmul_zero, gzero_add, sm_succ, hn, gzero_mul, gadd_zero]
      exact sm_congr fun i _ => by rw [del_ee]
  rw [e2, e3 n h, ← sm_add]
  refine sm_congr fun i _ => ?_
  rw [gadd_mul, gadd_comm]
theorem del_rep (m n l : Nat) (c : Nat → Nat → GQ) (h : ∀ k, c k n = 0) (j : Nat) : del (gn l) (rep m n c) j = rep m n (dC l c) j := by
  have : del (gn l) (rep m n c) j = sm (fun k => del (gn l) (rw1 k n (c k)) j) (m + 1) := by
    show sm (fun k => rw1 k n (c k) (j + 1)) (m + 1) - gn l * sm (fun k => rw1 k n (c k) j) (m + 1) = _
    have e : sm (fun k => rw1 k n (c k) (j + 1)) (m + 1) = sm (fun k => del (gn l) (rw1 k n (c k)) j) (m + 1) + sm (fun k => gn l * rw1 k n (c k) j) (m + 1) := by
      rw [← sm_add]
      refine sm_congr fun k _ => ?_
      unfold del; rw [gsub_add_cancel]
    rw [e, sm_mul, gadd_sub_cancel]
  rw [this]
  exact sm_congr fun k _ => del_rw1 _ _ _ _ (h k) j
/-- coefficients only below n -/
def Sup (n : Nat) (r : Nat → GQ) : Prop := ∀ i, n ≤ i → r i = 0
theorem Sup.dR {n : Nat} {r : Nat → GQ} (h : Sup n r) (d : GQ) : Sup n (dR d r) := fun i hi => by
  show d * r i + r (i + 1) = 0
  rw [h i hi, h (i + 1) (by omega), gmul_zero, gadd_zero]
theorem Sup.mono {n k : Nat} {r : Nat → GQ} (h : Sup n r) (hk : n ≤ k) : Sup k r := fun i hi => h i (by omega)
theorem Sup.dR0 {n : Nat} {r : Nat → GQ} (h : Sup (n + 1) r) : Sup n (P.dR 0 r) := fun i hi => by
  show 0 * r i + r (i + 1) = 0
  rw [h (i + 1) (by omega), gzero_mul, gadd_zero]
theorem dR_top {n : Nat} {r : Nat → GQ} (h : Sup (n + 1) r) (d : GQ) : dR d r n = d * r n := by
  show d * r n + r (n + 1) = _
  rw [h (n + 1) (by omega), gadd_zero]
def dels : List Nat → (Nat → GQ) → Nat → GQ
  | [], u => u
  | l :: ls, u => dels ls (del (gn l) u)
def dCs : List Nat → (Nat → Nat → GQ) → Nat → Nat → GQ
  | [], c => c
  | l :: ls, c => dCs ls (dC l c)
theorem dels_congr : ∀ (ls : List Nat) {u v : Nat → GQ}, (∀ j, u j = v j) → ∀ j, dels ls u j = dels ls v j
  | [], _, _, h, j => h j
  | l :: ls, u, v, h, j => dels_congr ls (fun i => by unfold del; rw [h, h]) j
theorem dCs_sup {n : Nat} : ∀ (ls : List Nat) {c : Nat → Nat → GQ}, (∀ k, Sup n (c k)) → ∀ k, Sup n (dCs ls c k)
  | [], _, h => h
  | l :: ls, c, h => dCs_sup ls fun k => (h k).dR _
theorem dels_rep (m n : Nat) : ∀ (ls : List Nat) (c : Nat → Nat → GQ), (∀ k, Sup n (c k)) → ∀ j, dels ls (rep m n c) j = rep m n (dCs ls c) j
  | [], _, _, _ => rfl
  | l :: ls, c, h, j => by
    show dels ls (del (gn l) (rep m n c)) j = rep m n (dCs ls (dC l c)) j
    rw [dels_congr ls (del_rep m n l c fun k => h k n (by omega))]
    exact dels_rep m n ls _ (fun k => (h k).dR _) j
/-- nothing below J: nothing below J less the nodes that are taken out -/
theorem dels_zero : ∀ (ls : List Nat) {u : Nat → GQ} {J : Nat}, (∀ j, j < J → u j = 0) → ∀ j, j + ls.length < J → dels ls u j = 0
  | [], _, _, h, j, hj => h j hj
  | l :: ls, u, J, h, j, hj => by
    refine dels_zero ls (u := del (gn l) u) (J := J - 1) (fun i hi => ?_) j (by simp only [List.length_cons] at hj; omega)
    unfold del
    rw [h i (by omega), h (i + 1) (by omega), gmul_zero, gsub_zero]
theorem dels_lead : ∀ (ls : List Nat) {u : Nat → GQ} {J : Nat} {x : GQ}, (∀ j, j < J → u j = 0) → u J = x → ∀ j, j + ls.length = J → dels ls u j = x
  | [], _, _, _, _, e, j, hj => by
    simp only [List.length_nil, Nat.add_zero] at hj
    subst hj
    exact e
  | l :: ls, u, J, x, h, e, j, hj => by
    simp only [List.length_cons] at hj
    refine dels_lead ls (u := del (gn l) u) (J := J - 1) (x := x) (fun i hi => ?_) ?_ j (by omega)
    · unfold del
      rw [h i (by omega), h (i + 1) (by omega), gmul_zero, gsub_zero]
    · unfold del
      rw [show J - 1 + 1 = J by omega, e, h (J - 1) (by omega), gmul_zero, gsub_zero]
/-- row k behind all that is taken out -/
def rowd (k : Nat) : List Nat → (Nat → GQ) → Nat → GQ
  | [], r => r
  | l :: ls, r => rowd k ls (dR (gn k - gn l) r)
theorem dCs_row (k : Nat) : ∀ (ls : List Nat) (c : Nat → Nat → GQ), dCs ls c k = rowd k ls (c k)
  | [], _ => rfl
  | l :: ls, c => dCs_row k ls (dC l c)
/-- its own node, taken out so often -/
theorem rowd_own (k : Nat) : ∀ (ls : List Nat) {n : Nat} {r : Nat → GQ}, Sup n r → Sup (n - ls.count k) (rowd k ls r)
  | [], _, _, h => h
  | l :: ls, n, r, h => by
    show Sup _ (rowd k ls (dR (gn k - gn l) r))
    by_cases e : l = k
    · subst e
      rw [gsub_self, List.count_cons_self]
      cases n with
      | zero => exact (rowd_own l ls (n := 0) (h.dR _)).mono (by omega)
      | succ n =>
        have := rowd_own l ls h.dR0
        exact this.mono (by omega)
    · rw [List.count_cons_of_ne e]
      exact rowd_own k ls (h.dR _)
/-- the factor by which others' nodes turn the highest coefficient -/
def fac (k : Nat) : List Nat → GQ
  | [] => 1
  | l :: ls => (gn k - gn l) * fac k ls
theorem fac_ne (k : Nat) : ∀ (ls : List Nat), k ∉ ls → fac k ls ≠ 0
  | [], _ => gone_ne
  | l :: ls, h => fun e => by
    rcases gmul_eq_zero e with e | e
    · exact h (by rw [gn_inj (gsub_eq.1 e)]; exact List.mem_cons_self)
    · exact fac_ne k ls (fun hm => h (List.mem_cons_of_mem _ hm)) e
theorem rowd_top (k : Nat) : ∀ (ls : List Nat) {n : Nat} {r : Nat → GQ}, Sup (n + 1) r → rowd k ls r n = fac k ls * r n
  | [], _, _, _ => by show _ = 1 * _; rw [gone_mul]; rfl
  | l :: ls, n, r, h => by
    show rowd k ls (dR (gn k - gn l) r) n = (gn k - gn l) * fac k ls * r n
    rw [rowd_top k ls (h.dR _), dR_top h, ← gmul_assoc, gmul_comm (fac k ls)]
/-- all nodes but k up to m, each n times -/
def oth (m n k : Nat) : List Nat := ((List.range (m + 1)).filter (· != k)).flatMap fun l => List.replicate n l
theorem oth_count {m n k l : Nat} (h : l ≤ m) (hk : l ≠ k) : n ≤ (oth m n k).count l := by
  unfold oth
  rw [List.count_flatMap]
  have hm : l ∈ (List.range (m + 1)).filter (· != k) := by
    rw [List.mem_filter]; exact ⟨List.mem_range.2 (by omega), by simp [hk]⟩
  obtain ⟨a, b, e⟩ := List.append_of_mem hm
  rw [e]
  simp
  omega
theorem oth_not (m n k : Nat) : k ∉ oth m n k := by
  unfold oth
  intro h
  rw [List.mem_flatMap] at h
  obtain ⟨l, h1, h2⟩ := h
  rw [List.mem_filter] at h1
  have := (List.mem_replicate.1 h2).2
  subst this
  simp at h1
theorem oth_length {m n k : Nat} (h : k ≤ m) : (oth m n k).length = m * n := by
  unfold oth
  rw [List.length_flatMap]
  have : ((List.range (m + 1)).filter (· != k)).length = m := by
    rw [← List.countP_eq_length_filter]
    have h1 := List.length_eq_countP_add_countP (l := List.range (m + 1)) (p := fun x => x != k)
    have h2 : List.countP (fun x => decide ¬(x != k) = true) (List.range (m + 1)) = List.count k (List.range (m + 1)) := by
      unfold List.count
      refine List.countP_congr fun x _ => ?_
      simp
    have h3 : List.count k (List.range (m + 1)) = 1 := by
      have a1 := List.nodup_iff_count.1 (List.nodup_range (n := m + 1)) k
      have a2 : 0 < List.count k (List.range (m + 1)) := List.count_pos_iff.2 (List.mem_range.2 (by omega))
      omega
    rw [h2, h3, List.length_range] at h1
    omega
  have e : ((List.range (m + 1)).filter (· != k)).map (fun l => (List.replicate n l).length) = List.replicate m n := by
    rw [List.eq_replicate_iff]
    refine ⟨by rw [List.length_map, this], fun b hb => ?_⟩
    obtain ⟨x, _, rfl⟩ := List.mem_map.1 hb
    rw [List.length_replicate]
  rw [e]
  simp
theorem rowd_append (k : Nat) : ∀ (a b : List Nat) (r : Nat → GQ), rowd k (a ++ b) r = rowd k b (rowd k a r)
  | [], _, _ => rfl
  | l :: a, b, r => rowd_append k a b _
theorem rowd_rep (k : Nat) : ∀ (i : Nat) (r : Nat → GQ) (j : Nat), rowd k (List.replicate i k) r j = r (j + i)
  | 0, _, _ => rfl
  | i + 1, r, j => by
    show rowd k (List.replicate i k) (dR (gn k - gn k) r) j = _
    rw [rowd_rep k i]
    show (gn k - gn k) * r (j + i) + r (j + i + 1) = _
    rw [gsub_self, gzero_mul, gzero_add]; rfl
theorem ee_below (c : GQ) : ∀ (i j : Nat), j < i → ee c i j = 0
  | 0, _, h => by omega
  | i + 1, 0, _ => ee_succ c i
  | i + 1, j + 1, h => by rw [ee, ee_below c (i + 1) j (by omega), ee_below c i j (by omega), gmul_zero, gadd_zero]
theorem ee_same (c : GQ) : ∀ i, ee c i i = 1
  | 0 => ee_zero c
  | i + 1 => by rw [ee, ee_below c (i + 1) i (by omega), ee_same c i, gmul_zero, gzero_add]
theorem sm_one {f : Nat → GQ} {n p : Nat} (hp : p < n) (h : ∀ i, i < n → i ≠ p → f i = 0) : sm f n = f p := by
  induction n with
  | zero => omega
  | succ n ih =>
    rw [sm_succ]
    by_cases e : p = n
    · subst e
      rw [sm_all0 (fun i hi => h i (by omega) (by omega)), gzero_add]
    · rw [ih (by omega) (fun i hi => h i (by omega)), h n (by omega) (by omega), gadd_zero]
theorem rw1_zero {k n : Nat} {r : Nat → GQ} (h : ∀ i, i < n → r i = 0) (j : Nat) : rw1 k n r j = 0 := sm_all0 fun i hi => by rw [h i hi, gzero_mul]
theorem rw1_at0 {k n : Nat} {r : Nat → GQ} (h : 0 < n) : rw1 k n r 0 = r 0 := by
  unfold rw1
  rw [sm_one (p := 0) h (fun i hi h0 => by rw [ee_below _ i 0 (by omega), gmul_zero]), ee_zero, gmul_one]
theorem zero_row {n k : Nat} {ls : List Nat} {c : Nat → Nat → GQ} (hs : Sup n (c k)) (h : n ≤ ls.count k) : ∀ i, dCs ls c k i = 0 := fun i => by
  rw [dCs_row]
  exact rowd_own k ls hs i (by omega)
/-- so few rows can't vanish so far -/
theorem indep {m n : Nat} {c : Nat → Nat → GQ} (hs : ∀ k, Sup n (c k)) (h : ∀ j, j < (m + 1) * n → rep m n c j = 0) {k : Nat} (hk : k ≤ m) : ∀ i, c k i = 0 := by
  have key : ∀ d, d ≤ n → Sup (n - d) (c k) := by
    intro d
    induction d with
    | zero => intro _; exact hs k
    | succ d ih =>
      intro hd
      have h0 := ih (by omega)
      obtain ⟨i, hi⟩ : ∃ i, n - d = i + 1 := ⟨n - d - 1, by omega⟩
      rw [hi] at h0
      rw [show n - (d + 1) = i by omega]
      have hlen : (oth m n k ++ List.replicate i k).length = m * n + i := by rw [List.length_append, oth_length hk, List.length_replicate]
      have hz : dels (oth m n k ++ List.replicate i k) (rep m n c) 0 = 0 := dels_zero _ h 0 (by rw [hlen, Nat.add_mul]; omega)
      rw [dels_rep m n _ c hs] at hz
      have hrow : rep m n (dCs (oth m n k ++ List.replicate i k) c) 0 = fac k (oth m n k) * c k i := by
        unfold rep
        rw [sm_one (p := k) (by omega) (fun l hl hne => rw1_zero (fun i' _ => by
          refine zero_row (hs l) ?_ i'
          rw [List.count_append]
          have := oth_count (m := m) (n := n) (k := k) (l := l) (by omega) hne
          omega) 0), rw1_at0 (by omega), dCs_row, rowd_append, rowd_rep, Nat.zero_add, rowd_top k _ h0]
      rw [hrow] at hz
      have hc : c k i = 0 := by
        rcases gmul_eq_zero hz with e | e
        · exact absurd e (fac_ne k _ (oth_not m n k))
        · exact e
      intro i' hi'
      by_cases e : i' = i
      · rw [e]; exact hc
      · exact h0 i' (by omega)
  intro i
  have := key n (Nat.le_refl _)
  exact this i (by omega)
theorem sm_put {f : Nat → GQ} {x : GQ} {p : Nat} : ∀ {n : Nat}, p < n → sm (fun s => if s = p then x else f s) n + f p = sm f n + x
  | 0, h => by omega
  | n + 1, h => by
    rw [sm_succ, sm_succ]
    by_cases e : p = n
    · subst e
      rw [if_pos rfl, sm_congr (g := f) (fun i hi => if_neg (by omega)), gadd_assoc, gadd_assoc, gadd_comm x]
    · rw [if_neg (by omega), gadd_assoc, gadd_comm (f n), ← gadd_assoc, sm_put (by omega), gadd_assoc, gadd_assoc, gadd_comm x]
theorem dep : ∀ (m : Nat) (r : Nat → Nat → GQ), ∃ w : Nat → GQ, (∃ s, s ≤ m ∧ w s ≠ 0) ∧ ∀ k, k < m → sm (fun s => w s * r s k) (m + 1) = 0
  | 0, _ => ⟨fun _ => 1, ⟨0, Nat.le_refl _, gone_ne⟩, fun k hk => by omega⟩
  | m + 1, r => by
    by_cases hA : ∀ s, s ≤ m → r s m = 0
    · obtain ⟨w, ⟨s, hs, hw⟩, h⟩ := dep m r
      refine ⟨fun s => if s = m + 1 then 0 else w s, ⟨s, by omega, by show (if s = m + 1 then 0 else w s) ≠ 0; rw [if_neg (by omega)]; exact hw⟩, fun k hk => ?_⟩
      have e0 : (fun s => if s = m + 1 then 0 else w s) (m + 1) = 0 := if_pos rfl
      rw [sm_succ, e0, gzero_mul, gadd_zero, sm_congr (g := fun s => w s * r s k) fun i hi => by
        show (if i = m + 1 then 0 else w i) * _ = _
        rw [if_neg (by omega)]]
      by_cases e : k = m
      · subst e
        exact sm_all0 fun i hi => by rw [hA i (by omega), gmul_zero]
      · exact h k (by omega)
    · have hA : ∃ p, p ≤ m ∧ r p m ≠ 0 := by
        refine Classical.byContradiction fun hn => hA fun s hs => Classical.byContradiction fun h0 => hn ⟨s, hs, h0⟩
      obtain ⟨p, hp, hne⟩ := hA
      let σ : Nat → Nat := fun s => if s = p then m + 1 else s
      let t : Nat → GQ := fun s => (r p m).inv * r (σ s) m
      obtain ⟨w, ⟨s, hs, hw⟩, h⟩ := dep m fun s k => r (σ s) k - t s * r p k
      let x := sm (fun s => w s * t s) (m + 1)
      let W : Nat → GQ := fun s => if s = p then -x else if s = m + 1 then w p else w s
      have hsum : ∀ k, sm (fun s => W s * r s k) (m + 1 + 1) = sm (fun s => w s * (r (σ s) k - t s * r p k)) (m + 1) := by
        intro k
        have e1 : W p * r p k = -(x * r p k) := by
          show (if p = p then -x else _) * _ = _
          rw [if_pos rfl, gneg_mul]
        have e2 : W (m + 1) = w p := by
          show (if m + 1 = p then -x else if m + 1 = m + 1 then w p else w (m + 1)) = _
          rw [if_neg (by omega), if_pos rfl]
        have e3 : sm (fun s => w s * (r (σ s) k - t s * r p k)) (m + 1) = sm (fun s => w s * r (σ s) k) (m + 1) + -(x * r p k) := by
          rw [← gsub_def]
          have : sm (fun s => w s * r (σ s) k) (m + 1) = sm (fun s => w s * (r (σ s) k - t s * r p k)) (m + 1) + x * r p k := by
            show _ = _ + sm (fun s => w s * t s) (m + 1) * _
            rw [← sm_mul_right, ← sm_add]
            refine sm_congr fun i _ => ?_
            rw [gmul_sub, ← gmul_assoc (w i) (t i), gsub_add_cancel]
          rw [this, gadd_sub_cancel]
        have e4 := sm_put (f := fun s => W s * r s k) (x := W (m + 1) * r (m + 1) k) (p := p) (n := m + 1) (by omega)
        rw [sm_succ, ← e4]
        show _ + W p * r p k = _
        rw [e1, e3]
        congr 1
        refine sm_congr fun i hi => ?_
        by_cases e : i = p
        · subst e
          rw [if_pos rfl, e2]
          show _ = w i * r (if i = i then m + 1 else i) k
          rw [if_pos rfl]
        · rw [if_neg e]
          show (if i = p then -x else if i = m + 1 then w p else w i) * r i k = w i * r (if i = p then m + 1 else i) k
          rw [if_neg e, if_neg (by omega), if_neg e]
      refine ⟨W, ?_, fun k hk => ?_⟩
      · by_cases e : s = p
        · refine ⟨m + 1, Nat.le_refl _, ?_⟩
          show (if m + 1 = p then -x else if m + 1 = m + 1 then w p else w (m + 1)) ≠ 0
          rw [if_neg (by omega), if_pos rfl, ← e]; exact hw
        · refine ⟨s, by omega, ?_⟩
          show (if s = p then -x else if s = m + 1 then w p else w s) ≠ 0
          rw [if_neg e, if_neg (by omega)]; exact hw
      · rw [hsum]
        by_cases e : k = m
        · subst e
          refine sm_all0 fun i hi => ?_
          show w i * (r (σ i) k - (r p k).inv * r (σ i) k * r p k) = 0
          rw [gmul_comm ((r p k).inv * r (σ i) k), gmul_left_comm, ← gmul_assoc, ginv_mul hne, gone_mul]
          rw [gsub_self, gmul_zero]
        · exact h k (by omega)
def tk (c : Nat) (v : Nat → Nat) : Nat → Nat
  | 0 => 0
  | j + 1 => c * tk c v j + v j
def hn (c0 : Nat) : List Nat → Nat → Nat
  | [], j => c0 ^ j
  | c :: cs, j => tk c (hn c0 cs) j
def hs (c0 : Nat) (cs : List Nat) (j : Nat) : GQ := gn (hn c0 cs j)
theorem hn_zero (c0 : Nat) : ∀ (cs : List Nat) (j : Nat), j < cs.length → hn c0 cs j = 0
  | [], _, h => by simp at h
  | c :: cs, 0, _ => rfl
  | c :: cs, j + 1, h => by
    show c * hn c0 (c :: cs) j + hn c0 cs j = 0
    rw [hn_zero c0 (c :: cs) j (by omega), hn_zero c0 cs j (by simp at h; omega)]; simp
theorem hn_lead (c0 : Nat) : ∀ (cs : List Nat), hn c0 cs cs.length = 1
  | [] => rfl
  | c :: cs => by
    show c * hn c0 (c :: cs) cs.length + hn c0 cs cs.length = 1
    rw [hn_zero c0 (c :: cs) _ (by simp), hn_lead c0 cs, Nat.mul_zero]
theorem hn_bound {m : Nat} (hm : 0 < m) (c0 : Nat) (h0 : c0 ≤ m) : ∀ (cs : List Nat), (∀ c ∈ cs, c ≤ m) → ∀ j, hn c0 cs j * m ^ cs.length ≤ (2 * m) ^ j
  | [], _, j => by
    show c0 ^ j * 1 ≤ _
    rw [Nat.mul_one]
    exact Nat.pow_le_pow_left (by omega) j
  | c :: cs, h, 0 => by show 0 * _ ≤ _; simp
  | c :: cs, h, j + 1 => by
    have h1 := hn_bound hm c0 h0 (c :: cs) h j
    have h2 := hn_bound hm c0 h0 cs (fun x hx => h x (List.mem_cons_of_mem _ hx)) j
    have h3 : c ≤ m := h c List.mem_cons_self
    show (c * hn c0 (c :: cs) j + hn c0 cs j) * m ^ (cs.length + 1) ≤ (2 * m) ^ (j + 1)
    have e1 : c * hn c0 (c :: cs) j * m ^ (cs.length + 1) ≤ m * (2 * m) ^ j := by
      rw [Nat.mul_assoc]
      exact Nat.mul_le_mul h3 h1
    have e2 : hn c0 cs j * m ^ (cs.length + 1) ≤ m * (2 * m) ^ j := by
      rw [Nat.pow_succ, ← Nat.mul_assoc, Nat.mul_comm m]
      exact Nat.mul_le_mul_right _ h2
    rw [Nat.add_mul, Nat.pow_succ (2 * m)]
    have e3 : (2 * m) ^ j * (2 * m) = m * (2 * m) ^ j + m * (2 * m) ^ j := by
      rw [← Nat.mul_assoc, Nat.mul_comm _ 2, Nat.mul_assoc, Nat.mul_comm _ m]; omega
    omega
theorem del_hs (c0 c : Nat) (cs : List Nat) (j : Nat) : del (gn c) (hs c0 (c :: cs)) j = hs c0 cs j := by
  show gn (c * hn c0 (c :: cs) j + hn c0 cs j) - gn c * gn (hn c0 (c :: cs) j) = gn (hn c0 cs j)
  rw [gn_add, gn_mul, gadd_comm, gadd_sub_cancel]
theorem dels_hs (c0 : Nat) : ∀ (a b : List Nat) (j : Nat), dels a (hs c0 (a ++ b)) j = hs c0 b j
  | [], _, _ => rfl
  | c :: a, b, j => by
    show dels a (del (gn c) (hs c0 (c :: (a ++ b)))) j = _
    rw [dels_congr a (del_hs c0 c (a ++ b))]
    exact dels_hs c0 a b j
theorem pw_gn (c : Nat) : ∀ j, pw (gn c) j = gn (c ^ j)
  | 0 => rfl
  | j + 1 => by rw [pw_succ, pw_gn c j, Nat.pow_succ, gn_mul]
theorem row_div {d : GQ} (hd : d ≠ 0) : ∀ (n : Nat) {r : Nat → GQ}, Sup n r → ∃ t : Nat → GQ, Sup n t ∧ ∀ i, dR d t i = r i
  | 0, r, h => ⟨fun _ => 0, fun _ _ => rfl, fun i => by
    show d * 0 + 0 = r i
    rw [gmul_zero, gadd_zero, h i (by omega)]⟩
  | n + 1, r, h => by
    obtain ⟨t, ht, e⟩ := row_div hd n (r := fun i => r (i + 1)) fun i hi => h (i + 1) (by omega)
    refine ⟨fun i => match i with | 0 => d.inv * (r 0 - t 0) | i + 1 => t i, fun i hi => ?_, fun i => ?_⟩
    · cases i with
      | zero => omega
      | succ i => exact ht i (by omega)
    · cases i with
      | zero =>
        show d * (d.inv * (r 0 - t 0)) + t 0 = r 0
        rw [← gmul_assoc, gmul_comm d, ginv_mul hd, gone_mul, gsub_add_cancel]
      | succ i => exact e i
theorem rep_at0 {m n : Nat} (hn : 0 < n) (c : Nat → Nat → GQ) : rep m n c 0 = sm (fun k => c k 0) (m + 1) := sm_congr fun k _ => rw1_at0 hn
theorem rows (m n c0 : Nat) (h0 : c0 ≤ m) : ∀ (cs : List Nat), (∀ c ∈ cs, c ≤ m) → (∀ k, (c0 :: cs).count k ≤ n) → ∃ c : Nat → Nat → GQ, (∀ k, Sup ((c0 :: cs).count k) (c k)) ∧ ∀ j, rep m n c j = hs c0 cs j
  | [], _, hc => by
    have hn0 : 0 < n := by
      have := hc c0
      rw [List.count_cons_self] at this; omega
    refine ⟨fun k i => if k = c0 ∧ i = 0 then 1 else 0, fun k i hi => ?_, fun j => ?_⟩
    · show (if k = c0 ∧ i = 0 then (1 : GQ) else 0) = 0
      refine if_neg fun ⟨e, ei⟩ => ?_
      subst e; subst ei
      rw [List.count_cons_self] at hi; omega
    · unfold rep
      rw [sm_one (p := c0) (by omega) fun k _ hne => rw1_zero (fun i _ => if_neg fun h => hne h.1) j]
      unfold rw1
      rw [sm_one (p := 0) hn0 fun i _ hne => by
        show (if c0 = c0 ∧ i = 0 then (1 : GQ) else 0) * _ = 0
        rw [if_neg fun h => hne h.2, gzero_mul]]
      show (if c0 = c0 ∧ 0 = 0 then (1 : GQ) else 0) * ee (gn c0) 0 j = gn (c0 ^ j)
      rw [if_pos ⟨rfl, rfl⟩, gone_mul, ee, pw_gn]
  | l :: cs, hm, hc => by
    have hcnt : ∀ k, (c0 :: cs).count k ≤ (c0 :: l :: cs).count k := fun k => by
      simp only [List.count_cons]; omega
    have hl : (c0 :: l :: cs).count l = (c0 :: cs).count l + 1 := by
      simp only [List.count_cons, beq_self_eq_true, if_true]; omega
    obtain ⟨c, h1, h2⟩ := rows m n c0 h0 cs (fun x hx => hm x (List.mem_cons_of_mem _ hx)) fun k => Nat.le_trans (hcnt k) (hc k)
    have hlm : l ≤ m := hm l List.mem_cons_self
    have hn0 : 0 < n := by
      have := hc l
      omega
    have hrow : ∀ k, ∃ t : Nat → GQ, k ≠ l → Sup ((c0 :: cs).count k) t ∧ ∀ i, dR (gn k - gn l) t i = c k i := fun k => by
      by_cases e : k = l
      · exact ⟨fun _ => 0, fun h => absurd e h⟩
      · obtain ⟨t, a, b⟩ := row_div (d := gn k - gn l) (fun h => e (gn_inj (gsub_eq.1 h))) _ (h1 k)
        exact ⟨t, fun _ => ⟨a, b⟩⟩
    let t : Nat → Nat → GQ := fun k => Classical.choose (hrow k)
    have ht : ∀ k, k ≠ l → Sup ((c0 :: cs).count k) (t k) ∧ ∀ i, dR (gn k - gn l) (t k) i = c k i := fun k => Classical.choose_spec (hrow k)
    let x : GQ := -(sm (fun k => if k = l then 0 else t k 0) (m + 1))
    let C : Nat → Nat → GQ := fun k => if k = l then (fun i => match i with | 0 => x | i + 1 => c l i) else t k
    have hCl : C l = fun i => match i with | 0 => x | i + 1 => c l i := if_pos rfl
    have hCk : ∀ k, k ≠ l → C k = t k := fun k h => if_neg h
    have hsup : ∀ k, Sup ((c0 :: l :: cs).count k) (C k) := fun k => by
      by_cases e : k = l
      · subst e
        rw [hCl, hl]
        intro i hi
        cases i with
        | zero => omega
        | succ i => exact h1 k i (by omega)
      · rw [hCk k e]
        exact (ht k e).1.mono (hcnt k)
    refine ⟨C, hsup, fun j => ?_⟩
    have hz : rep m n C 0 = 0 := by
      rw [rep_at0 hn0]
      have e := sm_put (f := fun k => if k = l then 0 else t k 0) (x := x) (p := l) (n := m + 1) (by omega)
      have e2 : sm (fun s => if s = l then x else (fun k => if k = l then 0 else t k 0) s) (m + 1) = sm (fun k => C k 0) (m + 1) := sm_congr fun i _ => by
        by_cases h : i = l
        · subst h
          rw [if_pos rfl, hCl]
        · rw [if_neg h, hCk i h]
          exact if_neg h
      rw [e2] at e
      rw [show (if l = l then (0 : GQ) else t l 0) = 0 from if_pos rfl, gadd_zero] at e
      rw [e]
      show _ + -_ = 0
      rw [← gsub_def, gsub_self]
    have hd : ∀ j, del (gn l) (rep m n C) j = hs c0 cs j := fun j => by
      rw [del_rep m n l C (fun k => hsup k n (hc k)), ← h2]
      refine sm_congr fun k _ => sm_congr fun i _ => ?_
      congr 1
      by_cases e : k = l
      · subst e
        show (gn k - gn k) * C k i + C k (i + 1) = c k i
        rw [hCl, gsub_self, gzero_mul, gzero_add]
      · show dR (gn k - gn l) (C k) i = c k i
        rw [hCk k e]
        exact (ht k e).2 i
    induction j with
    | zero => exact hz
    | succ j ih =>
      have e : rep m n C (j + 1) = del (gn l) (rep m n C) j + gn l * rep m n C j := by unfold del; rw [gsub_add_cancel]
      rw [e, hd, ih]
      show gn (hn c0 cs j) + gn l * gn (hn c0 (l :: cs) j) = gn (l * hn c0 (l :: cs) j + hn c0 cs j)
      rw [gn_add, gn_mul, gadd_comm]
def lap (m : Nat) : Nat → List Nat
  | 0 => []
  | n + 1 => List.range (m + 1) ++ lap m n
def nodes (m n : Nat) : List Nat := List.range m ++ lap m n
theorem range_count (m k : Nat) : (List.range m).count k = if k < m then 1 else 0 := by
  have a1 := List.nodup_iff_count.1 (List.nodup_range (n := m)) k
  split
  · rename_i h
    have a2 : 0 < List.count k (List.range m) := List.count_pos_iff.2 (List.mem_range.2 h)
    omega
  · rename_i h
    exact List.count_eq_zero.2 fun hm => h (List.mem_range.1 hm)
theorem lap_count (m k : Nat) : ∀ n, (lap m n).count k = if k ≤ m then n else 0
  | 0 => by show List.count k [] = _; simp
  | n + 1 => by
    show (List.range (m + 1) ++ lap m n).count k = _
    rw [List.count_append, range_count, lap_count m k n]
    by_cases h : k ≤ m
    · rw [if_pos (by omega), if_pos h, if_pos h]; omega
    · rw [if_neg (by omega), if_neg h, if_neg h]
theorem lap_length (m : Nat) : ∀ n, (lap m n).length = (m + 1) * n
  | 0 => rfl
  | n + 1 => by
    show (List.range (m + 1) ++ lap m n).length = _
    rw [List.length_append, List.length_range, lap_length m n, Nat.mul_add]; omega
theorem nodes_length (m n : Nat) : (nodes m n).length + 1 = (m + 1) * (n + 1) := by
  unfold nodes
  rw [List.length_append, List.length_range, lap_length, Nat.mul_add]; omega
theorem nodes_count (m n k : Nat) : (m :: nodes m n).count k ≤ n + 1 := by
  unfold nodes
  rw [List.count_cons, List.count_append, range_count, lap_count]
  by_cases h : k < m
  · rw [if_pos h, if_pos (by omega), if_neg (by simp; omega)]; omega
  · rw [if_neg h]
    split <;> split <;> omega
theorem nodes_le (m n : Nat) : ∀ c ∈ nodes m n, c ≤ m := by
  intro c hc
  have h := List.count_pos_iff.2 hc
  unfold nodes at h
  rw [List.count_append, range_count, lap_count] at h
  split at h <;> split at h <;> omega
/-- the rows of the sequence that vanishes longest -/
structure Far (m n : Nat) (a : Nat → Nat → GQ) : Prop where
  sup : ∀ k, Sup (n + 1) (a k)
  far : ∀ j, rep m (n + 1) a j = hs m (nodes m n) j
theorem far_ex (m n : Nat) : ∃ a, Far m n a := by
  obtain ⟨a, h1, h2⟩ := rows m (n + 1) m (Nat.le_refl _) (nodes m n) (nodes_le m n) (nodes_count m n)
  exact ⟨a, fun k => (h1 k).mono (nodes_count m n k), h2⟩
theorem rw1_low {k n : Nat} {r : Nat → GQ} {j : Nat} (hj : j < n) (h : ∀ i, i < j → r i = 0) : rw1 k n r j = r j := by
  unfold rw1
  rw [sm_one (p := j) hj fun i hi hne => ?_, ee_same, gmul_one]
  rcases Nat.lt_or_ge i j with hlt | hge
  · rw [h i hlt, gzero_mul]
  · rw [ee_below _ i j (by omega), gmul_zero]
/-- all other nodes taken out of a row, 1 is left, at the highest place -/
theorem Far.unit {m n : Nat} {a : Nat → Nat → GQ} (h : Far m n a) {k : Nat} (hk : k ≤ m) : (∀ i, i < n → rowd k (oth m (n + 1) k) (a k) i = 0) ∧ rowd k (oth m (n + 1) k) (a k) n = 1 := by
  have hlen := nodes_length m n
  have hol : (oth m (n + 1) k).length = m * (n + 1) := oth_length hk
  have hM : (m + 1) * (n + 1) = m * (n + 1) + n + 1 := by rw [Nat.add_mul]; omega
  have hz : ∀ j, j < (nodes m n).length → rep m (n + 1) a j = 0 := fun j hj => by
    rw [h.far]
    unfold hs
    rw [hn_zero _ _ _ hj, gn_zero]
  have h1 : rep m (n + 1) a (nodes m n).length = 1 := by
    rw [h.far]
    unfold hs
    rw [hn_lead, gn_one]
  have hy : ∀ j, dels (oth m (n + 1) k) (rep m (n + 1) a) j = rw1 k (n + 1) (rowd k (oth m (n + 1) k) (a k)) j := fun j => by
    rw [dels_rep m (n + 1) _ a h.sup]
    unfold rep
    rw [sm_one (p := k) (by omega) fun l hl hne => rw1_zero (fun i _ => zero_row (h.sup l) (oth_count (by omega) hne) i) j, dCs_row]
  have lo : ∀ i, i < n → rowd k (oth m (n + 1) k) (a k) i = 0 := by
    intro i
    induction i using Nat.strongRecOn with
    | _ i ih =>
      intro hi
      have e := hy i
      rw [dels_zero _ hz i (by omega), rw1_low (by omega) fun i' hi' => ih i' hi' (by omega)] at e
      exact e.symm
  refine ⟨lo, ?_⟩
  have e := hy n
  rw [dels_lead _ hz h1 n (by omega), rw1_low (by omega) lo] at e
  exact e.symm
theorem Far.top {m n : Nat} {a : Nat → Nat → GQ} (h : Far m n a) {k : Nat} (hk : k ≤ m) : a k n ≠ 0 := by
  have e := rowd_top k (oth m (n + 1) k) (h.sup k)
  rw [(h.unit hk).2] at e
  intro h0
  rw [h0, gmul_zero] at e
  exact gone_ne e
/-- with the first s nodes taken out -/
theorem Far.low {m n : Nat} {a : Nat → Nat → GQ} (h : Far m n a) {s : Nat} (hsm : s ≤ m) : ∃ cs : List Nat, cs.length + s + 1 = (m + 1) * (n + 1) ∧ (∀ c ∈ cs, c ≤ m) ∧ ∀ j, rep m (n + 1) (dCs (List.range s) a) j = hs m cs j := by
  obtain ⟨d, rfl⟩ : ∃ d, m = s + d := ⟨m - s, by omega⟩
  refine ⟨(List.range d).map (s + ·) ++ lap (s + d) n, ?_, ?_, fun j => ?_⟩
  · have := nodes_length (s + d) n
    unfold nodes at this
    rw [List.length_append, List.length_range] at this
    rw [List.length_append, List.length_map, List.length_range]; omega
  · intro c hc
    refine nodes_le (s + d) n c ?_
    unfold nodes
    rw [List.range_add, List.append_assoc]
    exact List.mem_append_right _ hc
  · rw [← dels_rep _ _ _ a h.sup, dels_congr _ h.far]
    have e : nodes (s + d) n = List.range s ++ ((List.range d).map (s + ·) ++ lap (s + d) n) := by
      unfold nodes
      rw [List.range_add, List.append_assoc]
    rw [e]
    exact dels_hs _ _ _ j
/-- the terms of e to a power -/
def et (z : GQ) : Nat → GQ
  | 0 => 1
  | i + 1 => et z i * (q (1 / ((i + 1 : Nat) : Rat)) * z)
theorem nat_ne {n : Nat} (h : 0 < n) : ((n : Nat) : Rat) ≠ 0 := by
  intro e
  rw [show (0 : Rat) = ((0 : Nat) : Rat) from rfl, Rat.natCast_inj] at e
  omega
theorem gn_q (n : Nat) (h : 0 < n) : gn n * q (1 / (n : Rat)) = 1 := by
  have h2 := Rat.mul_inv_cancel _ (nat_ne h)
  unfold gn
  apply GQ.ext' <;> simp only [mul_re, mul_im, q_re, q_im, one_re, one_im, Rat.div_def]
  · grind
  · grind
theorem et_next (z : GQ) (i : Nat) : gn (i + 1) * et z (i + 1) = et z i * z := by
  show gn (i + 1) * (et z i * (q (1 / ((i + 1 : Nat) : Rat)) * z)) = _
  rw [gmul_left_comm, ← gmul_assoc (gn (i + 1)), gn_q _ (by omega), gone_mul]
theorem et_ne {z : GQ} (h : z ≠ 0) : ∀ i, et z i ≠ 0
  | 0 => gone_ne
  | i + 1 => fun e => by
    have h1 := et_next z i
    rw [e, gmul_zero] at h1
    rcases gmul_eq_zero h1.symm with e | e
    · exact et_ne h i e
    · exact h e
/-- a row that vanishes at a number is a row times what is that number away -/
def quo (b : GQ) (r : Nat → GQ) : Nat → GQ
  | 0 => -(b.inv * r 0)
  | i + 1 => b.inv * (gn (i + 1) * quo b r i - r (i + 1))
theorem quo_zero {b : GQ} (hb : b ≠ 0) (r : Nat → GQ) : r 0 = -(b * quo b r 0) := by
  show r 0 = -(b * -(b.inv * r 0))
  have : b * -(b.inv * r 0) = -(b.inv * b * r 0) := by
    apply GQ.ext' <;> simp only [neg_re, neg_im, mul_re, mul_im] <;> grind
  rw [this, ginv_mul hb, gone_mul]
  apply GQ.ext' <;> simp only [neg_re, neg_im] <;> grind
theorem quo_next {b : GQ} (hb : b ≠ 0) (r : Nat → GQ) (i : Nat) : r (i + 1) = gn (i + 1) * quo b r i - b * quo b r (i + 1) := by
  show _ = _ - b * (b.inv * (gn (i + 1) * quo b r i - r (i + 1)))
  rw [← gmul_assoc, gmul_comm b, ginv_mul hb, gone_mul]
  apply GQ.ext' <;> simp only [sub_re, sub_im] <;> grind
theorem quo_sum {b : GQ} (hb : b ≠ 0) (r : Nat → GQ) : ∀ i, et b i * b * quo b r i + sm (fun i => r i * et b i) (i + 1) = 0
  | 0 => by
    show 1 * b * quo b r 0 + (0 + r 0 * 1) = 0
    rw [gzero_add, gmul_one, gone_mul, quo_zero hb r]
    show _ + -_ = (0 : GQ)
    have e : b * quo b r 0 = b * quo b r 0 := rfl
    rw [← gsub_def, gsub_self]
  | i + 1 => by
    have h := quo_sum hb r i
    have e1 : et b (i + 1) * b * quo b r (i + 1) = et b i * b * quo b r i - r (i + 1) * et b (i + 1) := by
      rw [gmul_assoc]
      have e2 : b * quo b r (i + 1) = gn (i + 1) * quo b r i - r (i + 1) := by
        rw [quo_next hb r i]
        apply GQ.ext' <;> simp only [sub_re, sub_im] <;> grind
      rw [e2, gmul_sub, ← gmul_assoc, gmul_comm (et b (i + 1)), et_next, gmul_comm (et b (i + 1))]
    rw [sm_succ, e1]
    rw [← h]
    apply GQ.ext' <;> simp only [sub_re, sub_im, add_re, add_im] <;> grind
theorem quo_sup {b : GQ} (hb : b ≠ 0) {r : Nat → GQ} {n : Nat} (hr : Sup (n + 1) r) (h : sm (fun i => r i * et b i) (n + 1) = 0) : Sup n (quo b r) := by
  have hz : ∀ d, sm (fun i => r i * et b i) (n + 1 + d) = 0 := by
    intro d
    induction d with
    | zero => exact h
    | succ d ih => rw [← Nat.add_assoc, sm_succ, ih, hr _ (by omega), gzero_mul, gadd_zero]
  intro i hi
  have h1 := quo_sum hb r i
  rw [show i + 1 = n + 1 + (i - n) by omega, hz, gadd_zero] at h1
  rcases gmul_eq_zero h1 with e | e
  · rcases gmul_eq_zero e with e | e
    · exact absurd e (et_ne hb i)
    · exact absurd e hb
  · exact e
theorem ee_rec (c : GQ) (i j : Nat) : ee c (i + 1) (j + 1) = c * ee c (i + 1) j + ee c i j := by rw [ee]
theorem ee_mul (c : GQ) : ∀ (j i : Nat), gn (i + 1) * ee c (i + 1) (j + 1) = gn (j + 1) * ee c i j
  | 0, 0 => by rw [ee_same, ee_same]
  | 0, i + 1 => by rw [ee_below c (i + 1 + 1) (0 + 1) (by omega), ee_below c (i + 1) 0 (by omega), gmul_zero, gmul_zero]
  | j + 1, 0 => by
    have h := ee_mul c j 0
    rw [ee_rec, gmul_add, gmul_left_comm, h]
    rw [show ee c 0 (j + 1) = c * ee c 0 j by rw [ee, ee, pw_succ, gmul_comm], gn_add (j + 1) 1, show gn (0 + 1) = 1 from rfl, gone_mul, gmul_left_comm, gadd_mul, gone_mul]
  | j + 1, i + 1 => by
    have h := ee_mul c j (i + 1)
    have h2 := ee_mul c j i
    rw [ee_rec, gmul_add, gmul_left_comm, h, gn_add (j + 1) 1, show gn 1 = 1 from rfl, gadd_mul, gone_mul, gn_add (i + 1) 1, gadd_mul, h2, show gn 1 = 1 from rfl, gone_mul]
    have e3 : ee c (i + 1) (j + 1) = c * ee c (i + 1) j + ee c i j := by rw [ee]
    rw [e3, gmul_add, gmul_left_comm]
    apply GQ.ext' <;> simp only [add_re, add_im] <;> grind
theorem rw1_quo {b : GQ} (hb : b ≠ 0) {k n : Nat} {r : Nat → GQ} (hd : Sup n (quo b r)) (j : Nat) : rw1 k (n + 1) r j + b * rw1 k n (quo b r) j = sm (fun i => quo b r i * (gn (i + 1) * ee (gn k) (i + 1) j)) n := by
  have e1 : rw1 k n (quo b r) j = rw1 k (n + 1) (quo b r) j := by
    unfold rw1
    rw [sm_succ, hd n (by omega), gzero_mul, gadd_zero]
  rw [e1]
  unfold rw1
  rw [← sm_mul, ← sm_add, sm_shift]
  have e0 : r 0 * ee (gn k) 0 j + b * (quo b r 0 * ee (gn k) 0 j) = 0 := by
    have h0 := quo_zero hb r
    generalize quo b r 0 = x at h0
    rw [h0]
    apply GQ.ext' <;> simp only [neg_re, neg_im, add_re, add_im, mul_re, mul_im, zero_re, zero_im] <;> grind
  rw [e0, gzero_add]
  refine sm_congr fun i _ => ?_
  have h1 := quo_next hb r i
  generalize quo b r (i + 1) = x at h1 ⊢
  generalize quo b r i = y at h1 ⊢
  rw [h1]
  apply GQ.ext' <;> simp only [sub_re, sub_im, add_re, add_im, mul_re, mul_im] <;> grind
theorem rep_quo {b : GQ} (hb : b ≠ 0) {m n : Nat} {c : Nat → Nat → GQ} (hd : ∀ k, k ≤ m → Sup n (quo b (c k))) {d : Nat → Nat → GQ} (e : ∀ k, k ≤ m → d k = quo b (c k)) {J : Nat} (h : ∀ j, j < J → rep m (n + 1) c j = 0) : ∀ j, j < J → rep m n d j = 0 := by
  have hr : ∀ j, rep m (n + 1) c j + b * rep m n d j = sm (fun k => sm (fun i => d k i * (gn (i + 1) * ee (gn k) (i + 1) j)) n) (m + 1) := by
    intro j
    unfold rep
    rw [← sm_mul, ← sm_add]
    refine sm_congr fun k hk => ?_
    rw [e k (by omega)]
    exact rw1_quo hb (hd k (by omega)) j
  intro j
  induction j with
  | zero =>
    intro hj
    have h1 := hr 0
    rw [h 0 hj, gzero_add, sm_all0 fun k _ => sm_all0 fun i _ => by rw [ee_below _ (i + 1) 0 (by omega), gmul_zero, gmul_zero]] at h1
    rcases gmul_eq_zero h1 with e | e
    · exact absurd e hb
    · exact e
  | succ j ih =>
    intro hj
    have h1 := hr (j + 1)
    have e2 : sm (fun k => sm (fun i => d k i * (gn (i + 1) * ee (gn k) (i + 1) (j + 1))) n) (m + 1) = gn (j + 1) * rep m n d j := by
      unfold rep
      rw [← sm_mul]
      refine sm_congr fun k _ => ?_
      unfold rw1
      rw [← sm_mul]
      refine sm_congr fun i _ => ?_
      rw [ee_mul, gmul_left_comm]
    rw [h _ hj, gzero_add, e2, ih (by omega), gmul_zero] at h1
    rcases gmul_eq_zero h1 with e | e
    · exact absurd e hb
    · exact e
theorem fac_zero (k : Nat) : ∀ (ls : List Nat), k ∈ ls → fac k ls = 0
  | [], h => by simp at h
  | l :: ls, h => by
    show (gn k - gn l) * fac k ls = 0
    rcases List.mem_cons.1 h with e | e
    · rw [e, gsub_self, gzero_mul]
    · rw [fac_zero k ls e, gmul_zero]
/-- what the neighbours are at b, if e to the power b were a -/
def val (m n : Nat) (a : Nat → Nat → GQ) (s : Nat) (b x : GQ) : GQ := sm (fun k => sm (fun i => dCs (List.range s) a k i * et b i) (n + 1) * pw x k) (m + 1)
theorem not_all {m n : Nat} {a : Nat → Nat → GQ} (F : Far m n a) {b x : GQ} (hb : b ≠ 0) : ∃ s, s ≤ m ∧ val m n a s b x ≠ 0 := by
  refine Classical.byContradiction fun hno => ?_
  have hN : ∀ s, s ≤ m → val m n a s b x = 0 := fun s hs => Classical.byContradiction fun h => hno ⟨s, hs, h⟩
  let N : Nat → Nat → GQ := fun s k => sm (fun i => dCs (List.range s) a k i * et b i) (n + 1)
  obtain ⟨w, ⟨s0, hs0, hw0⟩, hw⟩ := dep m fun s k => N s (k + 1)
  have hcol : ∀ k, k ≤ m → sm (fun s => w s * N s k) (m + 1) = 0 := by
    intro k hk
    cases k with
    | succ k => exact hw k (by omega)
    | zero =>
      have h1 : sm (fun s => w s * val m n a s b x) (m + 1) = 0 := sm_all0 fun s hs => by rw [hN s (by omega), gmul_zero]
      have h2 : sm (fun s => w s * val m n a s b x) (m + 1) = sm (fun k => sm (fun s => w s * N s k) (m + 1) * pw x k) (m + 1) := by
        rw [sm_congr (g := fun s => sm (fun k => w s * (N s k * pw x k)) (m + 1)) fun s _ => by rw [sm_mul]; rfl, sm_swap]
        refine sm_congr fun k _ => ?_
        rw [← sm_mul_right]
        exact sm_congr fun s _ => (gmul_assoc _ _ _).symm
      rw [h1, sm_shift, sm_all0 (f := fun k => sm (fun s => w s * N s (k + 1)) (m + 1) * pw x (k + 1)) fun k hk => by rw [hw k hk, gzero_mul], gadd_zero, pw_zero, gmul_one] at h2
      exact h2.symm
  let c : Nat → Nat → GQ := fun k i => sm (fun s => w s * dCs (List.range s) a k i) (m + 1)
  have hsup : ∀ k, Sup (n + 1) (c k) := fun k i hi => sm_all0 fun s _ => by rw [dCs_sup (List.range s) F.sup k i hi, gmul_zero]
  have hvan : ∀ k, k ≤ m → sm (fun i => c k i * et b i) (n + 1) = 0 := by
    intro k hk
    rw [← hcol k hk]
    show sm (fun i => sm (fun s => w s * dCs (List.range s) a k i) (m + 1) * et b i) (n + 1) = sm (fun s => w s * sm (fun i => dCs (List.range s) a k i * et b i) (n + 1)) (m + 1)
    rw [sm_congr (g := fun i => sm (fun s => w s * (dCs (List.range s) a k i * et b i)) (m + 1)) fun i _ => by
      rw [← sm_mul_right]; exact sm_congr fun s _ => gmul_assoc _ _ _, sm_swap]
    exact sm_congr fun s _ => sm_mul _ _ _
  have hrep : ∀ j, j < (m + 1) * n → rep m (n + 1) c j = 0 := by
    intro j hj
    have e : rep m (n + 1) c j = sm (fun s => w s * rep m (n + 1) (dCs (List.range s) a) j) (m + 1) := by
      have e1 : sm (fun s => w s * rep m (n + 1) (dCs (List.range s) a) j) (m + 1) = sm (fun s => sm (fun k => sm (fun i => w s * (dCs (List.range s) a k i * ee (gn k) i j)) (n + 1)) (m + 1)) (m + 1) := sm_congr fun s _ => by
        unfold rep rw1
        rw [← sm_mul]; exact sm_congr fun k _ => (sm_mul _ _ _).symm
      rw [e1, sm_swap]
      unfold rep rw1
      refine sm_congr fun k _ => ?_
      rw [sm_swap]
      refine sm_congr fun i _ => ?_
      show sm (fun s => w s * dCs (List.range s) a k i) (m + 1) * _ = _
      rw [← sm_mul_right]
      exact sm_congr fun s _ => gmul_assoc _ _ _
    rw [e]
    refine sm_all0 fun s hsm => ?_
    obtain ⟨cs, h1, h2, h3⟩ := F.low (s := s) (by omega)
    rw [h3]
    have hM : (m + 1) * (n + 1) = (m + 1) * n + (m + 1) := Nat.mul_succ _ _
    show w s * gn (hn m cs j) = 0
    rw [hn_zero m cs j (by omega), gn_zero, gmul_zero]
  let d : Nat → Nat → GQ := fun k => if k ≤ m then quo b (c k) else fun _ => 0
  have hd : ∀ k, k ≤ m → d k = quo b (c k) := fun k hk => if_pos hk
  have hds : ∀ k, Sup n (d k) := fun k => by
    by_cases hk : k ≤ m
    · rw [hd k hk]; exact quo_sup hb (hsup k) (hvan k hk)
    · intro i _
      show (if k ≤ m then quo b (c k) else fun _ => 0) i = 0
      rw [if_neg hk]
  have hd0 : ∀ k, k ≤ m → ∀ i, d k i = 0 := fun k hk => indep hds (rep_quo hb (fun k hk => quo_sup hb (hsup k) (hvan k hk)) hd hrep) hk
  have hc0 : ∀ k, k ≤ m → c k n = 0 := by
    intro k hk
    have h0 : ∀ i, quo b (c k) i = 0 := fun i => by rw [← hd k hk]; exact hd0 k hk i
    cases n with
    | zero =>
      rw [quo_zero hb (c k), h0, gmul_zero]; rfl
    | succ n =>
      rw [quo_next hb (c k) n, h0, h0, gmul_zero, gmul_zero, gsub_zero]
  have hw1 : ∀ k, k ≤ m → w k = 0 := by
    intro k
    induction k using Nat.strongRecOn with
    | _ k ih =>
      intro hk
      have h1 := hc0 k hk
      have h2 : c k n = w k * (fac k (List.range k) * a k n) := by
        show sm (fun s => w s * dCs (List.range s) a k n) (m + 1) = _
        rw [sm_one (p := k) (by omega) fun s hs hne => ?_, dCs_row, rowd_top k _ (F.sup k)]
        rcases Nat.lt_or_ge s k with h | h
        · rw [ih s h (by omega), gzero_mul]
        · rw [dCs_row, rowd_top k _ (F.sup k), fac_zero k _ (List.mem_range.2 (by omega)), gzero_mul, gmul_zero]
      rw [h2] at h1
      rcases gmul_eq_zero h1 with e | e
      · exact e
      · rcases gmul_eq_zero e with e | e
        · exact absurd e (fac_ne k _ fun hm => by have := List.mem_range.1 hm; omega)
        · exact absurd e (F.top hk)
  exact hw0 (hw1 s0 hs0)
end Go.Proofs.YtjfaefgabaimaaaGreat.P
