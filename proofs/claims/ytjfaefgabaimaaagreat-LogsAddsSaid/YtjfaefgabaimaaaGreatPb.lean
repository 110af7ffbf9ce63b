/- e to a power by its sums: bounds, what is left out, and that powers add. No condition. What tends to 0; the neighbours' values by sums of e to a power. No condition. The neighbours' coefficients: whole numbers by few, and not large. No condition. -/
import Derived.Test.YtjfaefgabaimaaaGreatPa
set_option linter.unusedSimpArgs false
set_option linter.unusedVariables false
namespace Go.Proofs.YtjfaefgabaimaaaGreat.P
open GQ
def rt (x : Rat) : Nat → Rat
  | 0 => 1
  | i + 1 => rt x i * (1 / ((i + 1 : Nat) : Rat) * x)
/-- the sums of e to a power -/
def En (z : GQ) (n : Nat) : GQ := sm (et z) n
def RE (x : Rat) (n : Nat) : Rat := rsm (rt x) n
theorem nat_pos {n : Nat} (h : 0 < n) : (0 : Rat) < ((n : Nat) : Rat) := by
  rw [show (0 : Rat) = ((0 : Nat) : Rat) from rfl, Rat.natCast_lt_natCast]; exact h
theorem nat_nn (n : Nat) : (0 : Rat) ≤ ((n : Nat) : Rat) := by
  rw [show (0 : Rat) = ((0 : Nat) : Rat) from rfl, Rat.natCast_le_natCast]; omega
theorem inv_pos' {x : Rat} (h : 0 < x) : 0 < 1 / x := by
  rw [Rat.div_def, Rat.one_mul]; exact Rat.inv_pos.2 h
theorem one_div_mul {x : Rat} (h : 0 < x) : 1 / x * x = 1 := by
  rw [Rat.div_def, Rat.one_mul]; exact Rat.inv_mul_cancel _ (by intro e; rw [e] at h; exact absurd h (by decide))
theorem rt_nn {x : Rat} (h : 0 ≤ x) : ∀ i, 0 ≤ rt x i
  | 0 => by show (0 : Rat) ≤ 1; decide
  | i + 1 => Rat.mul_nonneg (rt_nn h i) (Rat.mul_nonneg (Rat.le_of_lt (inv_pos' (nat_pos (by omega)))) h)
theorem et_q (x : Rat) : ∀ i, et (q x) i = q (rt x i)
  | 0 => rfl
  | i + 1 => by
    show et (q x) i * (q (1 / ((i + 1 : Nat) : Rat)) * q x) = q (rt x i * (1 / ((i + 1 : Nat) : Rat) * x))
    rw [et_q x i]
    apply GQ.ext' <;> simp only [mul_re, mul_im, q_re, q_im] <;> grind
theorem En_q (x : Rat) : ∀ n, En (q x) n = q (RE x n)
  | 0 => rfl
  | n + 1 => by
    show En (q x) n + et (q x) n = q (RE x n + rt x n)
    rw [En_q x n, et_q]
    apply GQ.ext' <;> simp only [add_re, add_im, q_re, q_im] <;> grind
theorem nr_et {z : GQ} {x : Rat} (h : nr z ≤ x) : ∀ i, nr (et z i) ≤ rt x i
  | 0 => by show nr 1 ≤ 1; rw [nr_one]; exact Rat.le_refl
  | i + 1 => by
    have hx : 0 ≤ x := Rat.le_trans (nr_nn z) h
    have h1 := nr_mul (et z i) (q (1 / ((i + 1 : Nat) : Rat)) * z)
    have h2 := nr_mul (q (1 / ((i + 1 : Nat) : Rat))) z
    have hp := Rat.le_of_lt (inv_pos' (nat_pos (show 0 < i + 1 by omega)))
    rw [nr_q, ab_of hp] at h2
    have h3 := Rat.mul_le_mul_of_nonneg_left h hp
    exact Rat.le_trans h1 (rmul_le (nr_et h i) (Rat.le_trans h2 h3) (nr_nn _) (rt_nn hx i))
theorem nr_En {z : GQ} {x : Rat} (h : nr z ≤ x) (n : Nat) : nr (En z n) ≤ RE x n := Rat.le_trans (nr_sm _ n) (rsm_le fun i _ => nr_et h i)
theorem RE_mono {x : Rat} (hx : 0 ≤ x) (n : Nat) : ∀ r, RE x n ≤ RE x (n + r)
  | 0 => Rat.le_refl
  | r + 1 => by
    have h1 := RE_mono hx n r
    have h2 := rt_nn hx (n + r)
    show RE x n ≤ RE x (n + r) + rt x (n + r)
    grind
theorem RE_nn {x : Rat} (hx : 0 ≤ x) (n : Nat) : 0 ≤ RE x n := rsm_nn fun i _ => rt_nn hx i
/-- a sum's rest is at most twice its first term -/
theorem rt_half {x : Rat} (hx : 0 ≤ x) {n : Nat} (h : x + x ≤ ((n + 1 : Nat) : Rat)) (r : Nat) : rt x (n + r + 1) + rt x (n + r + 1) ≤ rt x (n + r) := by
  have hp := nat_pos (show 0 < n + r + 1 by omega)
  have hi := Rat.le_of_lt (inv_pos' hp)
  have h1 : x + x ≤ ((n + r + 1 : Nat) : Rat) := Rat.le_trans h (by rw [Rat.natCast_le_natCast]; omega)
  have h2 := Rat.mul_le_mul_of_nonneg_left h1 hi
  rw [one_div_mul hp] at h2
  have h3 := Rat.mul_le_mul_of_nonneg_left h2 (rt_nn hx (n + r))
  show rt x (n + r) * (1 / ((n + r + 1 : Nat) : Rat) * x) + rt x (n + r) * (1 / ((n + r + 1 : Nat) : Rat) * x) ≤ _
  grind
theorem RE_rest {x : Rat} (hx : 0 ≤ x) {n : Nat} (h : x + x ≤ ((n + 1 : Nat) : Rat)) : ∀ r, RE x (n + r) + (rt x (n + r) + rt x (n + r)) ≤ RE x n + (rt x n + rt x n)
  | 0 => Rat.le_refl
  | r + 1 => by
    have h1 := RE_rest hx h r
    have h2 := rt_half hx h r
    show RE x (n + r) + rt x (n + r) + (rt x (n + r + 1) + rt x (n + r + 1)) ≤ _
    grind
theorem En_rest {z : GQ} {x : Rat} (hz : nr z ≤ x) {n : Nat} (h : x + x ≤ ((n + 1 : Nat) : Rat)) : ∀ r, nr (En z (n + r) - En z n) + (rt x (n + r) + rt x (n + r)) ≤ rt x n + rt x n
  | 0 => by rw [Nat.add_zero, gsub_self, nr_zero]; grind
  | r + 1 => by
    have h1 := En_rest hz h r
    have h2 := rt_half (Rat.le_trans (nr_nn z) hz) h r
    have h3 := nr_et hz (n + r)
    have e : En z (n + (r + 1)) - En z n = (En z (n + r) - En z n) + et z (n + r) := by
      show En z (n + r) + et z (n + r) - En z n = _
      apply GQ.ext' <;> simp only [add_re, add_im, sub_re, sub_im] <;> grind
    have h4 := nr_add (En z (n + r) - En z n) (et z (n + r))
    rw [e]
    show _ + (rt x (n + r + 1) + rt x (n + r + 1)) ≤ _
    grind
def cv (f g : Nat → GQ) (j : Nat) : GQ := sm (fun a => f a * g (j - a)) (j + 1)
theorem cv_sum (f g : Nat → GQ) : ∀ n, sm (cv f g) n = sm (fun a => f a * sm g (n - a)) n
  | 0 => rfl
  | n + 1 => by
    rw [sm_succ, cv_sum f g n]
    have e : sm (fun a => f a * sm g (n + 1 - a)) (n + 1) = sm (fun a => f a * sm g (n - a) + f a * g (n - a)) (n + 1) := sm_congr fun a ha => by
      rw [show n + 1 - a = n - a + 1 by omega, sm_succ, gmul_add]
    rw [e, sm_add, sm_succ (fun a => f a * sm g (n - a)), Nat.sub_self, show sm g 0 = 0 from rfl, gmul_zero, gadd_zero]
    rfl
theorem cv_et (x y : GQ) : ∀ j, cv (et x) (et y) j = et (x + y) j
  | 0 => by
    show 0 + 1 * 1 = (1 : GQ)
    rw [gzero_add, gmul_one]
  | j + 1 => by
    have ih := cv_et x y j
    have h : gn (j + 1) * cv (et x) (et y) (j + 1) = cv (et x) (et y) j * (x + y) := by
      have e1 : gn (j + 1) * cv (et x) (et y) (j + 1) = sm (fun a => gn a * et x a * et y (j + 1 - a) + et x a * (gn (j + 1 - a) * et y (j + 1 - a))) (j + 2) := by
        unfold cv
        rw [← sm_mul]
        refine sm_congr fun a ha => ?_
        rw [show gn (j + 1) = gn a + gn (j + 1 - a) by rw [← gn_add, show a + (j + 1 - a) = j + 1 by omega], gadd_mul, gmul_assoc, gmul_left_comm (gn (j + 1 - a))]
      have e2 : sm (fun a => gn a * et x a * et y (j + 1 - a)) (j + 2) = cv (et x) (et y) j * x := by
        rw [sm_shift, gn_zero]
        rw [show (0 : GQ) * et x 0 * et y (j + 1 - 0) = 0 by rw [gzero_mul, gzero_mul], gzero_add]
        unfold cv
        rw [← sm_mul_right]
        refine sm_congr fun a ha => ?_
        rw [et_next, show j + 1 - (a + 1) = j - a by omega, gmul_assoc, gmul_assoc, gmul_comm x]
      have e3 : sm (fun a => et x a * (gn (j + 1 - a) * et y (j + 1 - a))) (j + 2) = cv (et x) (et y) j * y := by
        rw [sm_succ, Nat.sub_self, gn_zero, gzero_mul, gmul_zero, gadd_zero]
        unfold cv
        rw [← sm_mul_right]
        refine sm_congr fun a ha => ?_
        rw [show j + 1 - a = j - a + 1 by omega, et_next, gmul_assoc]
      rw [e1, sm_add, e2, e3, gmul_add]
    rw [ih, ← et_next] at h
    exact gmul_cancel (gn_ne (by omega)) h
theorem En_cv (x y : GQ) (n : Nat) : En (x + y) n = sm (fun a => et x a * En y (n - a)) n := by
  rw [show (fun a => et x a * En y (n - a)) = fun a => et x a * sm (et y) (n - a) from rfl, ← cv_sum]
  exact sm_congr fun j _ => (cv_et x y j).symm
theorem q_inj {a b : Rat} (h : q a = q b) : a = b := by
  have : (q a).re = (q b).re := by rw [h]
  exact this
theorem q_sm (f : Nat → Rat) : ∀ n, sm (fun i => q (f i)) n = q (rsm f n)
  | 0 => rfl
  | n + 1 => by
    rw [sm_succ, q_sm f n, rsm_succ]
    apply GQ.ext' <;> simp only [add_re, add_im, q_re, q_im] <;> grind
theorem q_add (a b : Rat) : q (a + b) = q a + q b := by apply GQ.ext' <;> simp only [add_re, add_im, q_re, q_im] <;> grind
theorem q_mul (a b : Rat) : q (a * b) = q a * q b := by apply GQ.ext' <;> simp only [mul_re, mul_im, q_re, q_im] <;> grind
theorem q_sub (a b : Rat) : q (a - b) = q a - q b := by apply GQ.ext' <;> simp only [sub_re, sub_im, q_re, q_im] <;> grind
theorem RE_cv (x y : Rat) (n : Nat) : RE (x + y) n = rsm (fun a => rt x a * RE y (n - a)) n := by
  refine q_inj ?_
  rw [← En_q, q_add, En_cv, ← q_sm]
  exact sm_congr fun a _ => by rw [et_q, En_q, q_mul]
theorem rsm_mono {f : Nat → Rat} {n : Nat} : ∀ r, (∀ i, i < n + r → 0 ≤ f i) → rsm f n ≤ rsm f (n + r)
  | 0, _ => Rat.le_refl
  | r + 1, h => by
    have h1 := rsm_mono (f := f) (n := n) r fun i hi => h i (by omega)
    have h2 := h (n + r) (by omega)
    show rsm f n ≤ rsm f (n + r) + f (n + r)
    grind
theorem RE_mul_le {x y : Rat} (hx : 0 ≤ x) (hy : 0 ≤ y) (n : Nat) : RE x n * RE y n ≤ RE (x + y) (n + n) := by
  have e : RE x n * RE y n = rsm (fun a => rt x a * RE y n) n := by
    unfold RE
    rw [Rat.mul_comm, ← rsm_mul]
    congr 1
    funext a
    exact Rat.mul_comm _ _
  rw [e, RE_cv]
  refine Rat.le_trans (rsm_le (g := fun a => rt x a * RE y (n + n - a)) fun a ha => ?_) (rsm_mono n fun i hi => Rat.mul_nonneg (rt_nn hx i) (RE_nn hy _))
  refine Rat.mul_le_mul_of_nonneg_left ?_ (rt_nn hx a)
  rw [show n + n - a = n + (n - a) by omega]
  exact RE_mono hy n (n - a)
theorem RE_add_le {x y : Rat} (hx : 0 ≤ x) (hy : 0 ≤ y) (n : Nat) : RE (x + y) n ≤ RE x n * RE y n := by
  have e : RE x n * RE y n = rsm (fun a => rt x a * RE y n) n := by
    unfold RE
    rw [Rat.mul_comm, ← rsm_mul]
    congr 1
    funext a
    exact Rat.mul_comm _ _
  rw [e, RE_cv]
  refine rsm_le fun a ha => Rat.mul_le_mul_of_nonneg_left ?_ (rt_nn hx a)
  have := RE_mono hy (n - a) a
  rwa [show n - a + a = n by omega] at this
theorem gsub_eq_of {a b c : GQ} : a - b = c ↔ a = c + b := by
  constructor
  · intro h; rw [← h, gsub_add_cancel]
  · intro h; rw [h, gadd_sub_cancel]
theorem En_add {x y : GQ} {X Y : Rat} (hx : nr x ≤ X) (hy : nr y ≤ Y) {n : Nat} (h : (X + Y) + (X + Y) ≤ ((n + 1 : Nat) : Rat)) : nr (En x n * En y n - En (x + y) n) ≤ rt (X + Y) n + rt (X + Y) n := by
  have hX : 0 ≤ X := Rat.le_trans (nr_nn x) hx
  have hY : 0 ≤ Y := Rat.le_trans (nr_nn y) hy
  have e : En x n * En y n - En (x + y) n = sm (fun a => et x a * (En y n - En y (n - a))) n := by
    rw [En_cv, gsub_eq_of]
    unfold En
    rw [← sm_mul_right, ← sm_add]
    exact sm_congr fun a _ => by rw [← gmul_add, gsub_add_cancel]
  have hd : ∀ a, a < n → nr (En y n - En y (n - a)) ≤ RE Y n - RE Y (n - a) := by
    intro a ha
    have key : ∀ m r, nr (En y (m + r) - En y m) ≤ RE Y (m + r) - RE Y m := by
      intro m r
      induction r with
      | zero => rw [Nat.add_zero, gsub_self, nr_zero]; grind
      | succ r ih =>
        have e : En y (m + (r + 1)) - En y m = (En y (m + r) - En y m) + et y (m + r) := by
          show En y (m + r) + et y (m + r) - En y m = _
          apply GQ.ext' <;> simp only [add_re, add_im, sub_re, sub_im] <;> grind
        have h4 := nr_add (En y (m + r) - En y m) (et y (m + r))
        have h3 := nr_et hy (m + r)
        rw [e]
        show _ ≤ RE Y (m + r) + rt Y (m + r) - RE Y m
        grind
    have := key (n - a) a
    rwa [show n - a + a = n by omega] at this
  have h1 : nr (En x n * En y n - En (x + y) n) ≤ rsm (fun a => rt X a * (RE Y n - RE Y (n - a))) n := by
    rw [e]
    refine Rat.le_trans (nr_sm _ _) (rsm_le fun a ha => ?_)
    exact Rat.le_trans (nr_mul _ _) (rmul_le (nr_et hx a) (hd a ha) (nr_nn _) (rt_nn hX a))
  have h2 : rsm (fun a => rt X a * (RE Y n - RE Y (n - a))) n = RE X n * RE Y n - RE (X + Y) n := by
    refine q_inj ?_
    rw [← q_sm, q_sub, q_mul, ← En_q, ← En_q, ← En_q, q_add, En_cv]
    symm
    rw [gsub_eq_of]
    unfold En
    rw [← sm_mul_right, ← sm_add]
    exact sm_congr fun a _ => by rw [q_mul, ← et_q, q_sub, ← En_q, ← En_q]; show _ * En (q Y) n = _ * (En (q Y) n - En (q Y) (n - a)) + _ * En (q Y) (n - a); rw [← gmul_add, gsub_add_cancel]
  have h3 := RE_mul_le hX hY n
  have h4 := RE_rest (x := X + Y) (by grind) h n
  have h5 := rt_nn (x := X + Y) (by grind) (n + n)
  rw [h2] at h1
  grind
def Nul (f : Nat → GQ) : Prop := ∀ ε : Rat, 0 < ε → ∃ n0 : Nat, ∀ n, n0 ≤ n → nr (f n) ≤ ε
def Bd (f : Nat → GQ) : Prop := ∃ B : Rat, 0 ≤ B ∧ ∀ n, nr (f n) ≤ B
theorem Nul.add {f g : Nat → GQ} (h : Nul f) (k : Nul g) : Nul fun n => f n + g n := fun ε he => by
  obtain ⟨a, ha⟩ := h (ε / 2) (by grind)
  obtain ⟨b, hb⟩ := k (ε / 2) (by grind)
  refine ⟨max a b, fun n hn => ?_⟩
  have h1 := ha n (by omega)
  have h2 := hb n (by omega)
  have h3 := nr_add (f n) (g n)
  grind
theorem Nul.neg {f : Nat → GQ} (h : Nul f) : Nul fun n => -f n := fun ε he => by
  obtain ⟨a, ha⟩ := h ε he
  exact ⟨a, fun n hn => by rw [nr_neg]; exact ha n hn⟩
theorem Nul.congr {f g : Nat → GQ} (h : Nul f) (n0 : Nat) (e : ∀ n, n0 ≤ n → f n = g n) : Nul g := fun ε he => by
  obtain ⟨a, ha⟩ := h ε he
  exact ⟨max a n0, fun n hn => by rw [← e n (by omega)]; exact ha n (by omega)⟩
theorem Nul.mul_bd {f g : Nat → GQ} (h : Nul f) (k : Bd g) : Nul fun n => f n * g n := fun ε he => by
  obtain ⟨B, hB, hb⟩ := k
  have hp : 0 < B + 1 := by grind
  obtain ⟨a, ha⟩ := h (ε * (1 / (B + 1))) (Rat.mul_pos he (inv_pos' hp))
  refine ⟨a, fun n hn => ?_⟩
  have h1 := ha n hn
  have h2 := hb n
  have h3 := nr_mul (f n) (g n)
  have h4 := rmul_le h1 (Rat.le_trans h2 (show B ≤ B + 1 by grind)) (nr_nn _) (Rat.le_trans (nr_nn _) h1)
  have h5 := one_div_mul hp
  have h6 : ε * (1 / (B + 1)) * (B + 1) = ε := by rw [Rat.mul_assoc, h5, Rat.mul_one]
  rw [h6] at h4
  exact Rat.le_trans h3 h4
theorem Bd.const (c : GQ) : Bd fun _ => c := ⟨nr c, nr_nn c, fun _ => Rat.le_refl⟩
theorem Bd.mul {f g : Nat → GQ} (h : Bd f) (k : Bd g) : Bd fun n => f n * g n := by
  obtain ⟨A, hA, ha⟩ := h
  obtain ⟨B, hB, hb⟩ := k
  exact ⟨A * B, Rat.mul_nonneg hA hB, fun n => Rat.le_trans (nr_mul _ _) (rmul_le (ha n) (hb n) (nr_nn _) hA)⟩
theorem Bd.pw {f : Nat → GQ} (h : Bd f) : ∀ k, Bd fun n => pw (f n) k
  | 0 => Bd.const 1
  | k + 1 => (h.pw k).mul h
theorem Nul.zero : Nul fun _ => 0 := fun ε he => ⟨0, fun _ _ => by rw [nr_zero]; exact Rat.le_of_lt he⟩
theorem Nul.sum {f : Nat → Nat → GQ} : ∀ (m : Nat), (∀ k, k < m → Nul fun n => f k n) → Nul fun n => sm (fun k => f k n) m
  | 0, _ => Nul.zero
  | m + 1, h => (Nul.sum m fun k hk => h k (by omega)).add (h m (by omega))
theorem arch (x : Rat) : ∃ n : Nat, x ≤ (n : Rat) := by
  refine ⟨(x.floor + 1).toNat, ?_⟩
  have h := Rat.lt_floor_add_one x
  have h2 : ((x.floor + 1 : Int) : Rat) ≤ (((x.floor + 1).toNat : Int) : Rat) := by
    rw [Rat.intCast_le_intCast]; omega
  rw [Rat.intCast_add, show ((1 : Int) : Rat) = 1 from rfl] at h2
  have h3 : (((x.floor + 1).toNat : Int) : Rat) = (((x.floor + 1).toNat : Nat) : Rat) := Rat.intCast_natCast _
  rw [h3] at h2
  grind
theorem le_rp2 : ∀ n : Nat, ((n : Nat) : Rat) ≤ rp 2 n
  | 0 => by show ((0 : Nat) : Rat) ≤ 1; decide
  | n + 1 => by
    have h := le_rp2 n
    have h2 : (1 : Rat) ≤ rp 2 n := by
      clear h
      induction n with
      | zero => exact Rat.le_refl
      | succ n ih => show (1 : Rat) ≤ rp 2 n * 2; grind
    show ((n + 1 : Nat) : Rat) ≤ rp 2 n * 2
    rw [Rat.natCast_add, show ((1 : Nat) : Rat) = 1 from rfl]
    grind
theorem rp2_pos : ∀ n : Nat, (0 : Rat) < rp 2 n
  | 0 => by show (0 : Rat) < 1; decide
  | n + 1 => Rat.mul_pos (rp2_pos n) (by decide)
theorem rt_small {x : Rat} (hx : 0 ≤ x) {ε : Rat} (he : 0 < ε) : ∃ n0 : Nat, ∀ n, n0 ≤ n → rt x n ≤ ε := by
  obtain ⟨n1, h1⟩ := arch (x + x)
  have hh : x + x ≤ ((n1 + 1 : Nat) : Rat) := Rat.le_trans h1 (by rw [Rat.natCast_le_natCast]; omega)
  have hr : ∀ r, rt x (n1 + r) * rp 2 r ≤ rt x n1 := by
    intro r
    induction r with
    | zero => show rt x n1 * 1 ≤ _; rw [Rat.mul_one]; exact Rat.le_refl
    | succ r ih =>
      have h2 := Rat.mul_le_mul_of_nonneg_right (rt_half hx hh r) (Rat.le_of_lt (rp2_pos r))
      show rt x (n1 + r + 1) * (rp 2 r * 2) ≤ _
      grind
  obtain ⟨r0, h2⟩ := arch (rt x n1 * (1 / ε))
  refine ⟨n1 + r0, fun n hn => ?_⟩
  obtain ⟨r, rfl⟩ : ∃ r, n = n1 + r := ⟨n - n1, by omega⟩
  have h3 := hr r
  have h4 : rt x n1 * (1 / ε) ≤ rp 2 r := Rat.le_trans h2 (Rat.le_trans (by rw [Rat.natCast_le_natCast]; omega) (le_rp2 r))
  have h5 := Rat.mul_le_mul_of_nonneg_right h4 (Rat.le_of_lt he)
  rw [Rat.mul_assoc, one_div_mul he, Rat.mul_one] at h5
  have h6 : rt x (n1 + r) * rp 2 r ≤ ε * rp 2 r := by grind
  exact Rat.le_of_mul_le_mul_right h6 (rp2_pos r)
theorem En_bd (z : GQ) : Bd (En z) := by
  obtain ⟨n1, h1⟩ := arch (nr z + nr z)
  have hh : nr z + nr z ≤ ((n1 + 1 : Nat) : Rat) := Rat.le_trans h1 (by rw [Rat.natCast_le_natCast]; omega)
  have hx := nr_nn z
  refine ⟨RE (nr z) n1 + (rt (nr z) n1 + rt (nr z) n1), ?_, fun n => Rat.le_trans (nr_En Rat.le_refl n) ?_⟩
  · have := RE_nn hx n1; have := rt_nn hx n1; grind
  · rcases Nat.lt_or_ge n n1 with h | h
    · have := RE_mono hx n (n1 - n)
      rw [show n + (n1 - n) = n1 by omega] at this
      have := rt_nn hx n1; grind
    · have := RE_rest hx hh (n - n1)
      rw [show n1 + (n - n1) = n by omega] at this
      have := rt_nn hx n; grind
theorem En_add_nul (x y : GQ) : Nul fun n => En x n * En y n - En (x + y) n := fun ε he => by
  have hs : 0 ≤ nr x + nr y := by have := nr_nn x; have := nr_nn y; grind
  obtain ⟨n0, h0⟩ := rt_small hs (show 0 < ε / 2 by grind)
  obtain ⟨n1, h1⟩ := arch ((nr x + nr y) + (nr x + nr y))
  refine ⟨max n0 n1, fun n hn => ?_⟩
  have h2 := En_add (x := x) (y := y) Rat.le_refl Rat.le_refl (n := n) (Rat.le_trans h1 (by rw [Rat.natCast_le_natCast]; omega))
  have h3 := h0 n (by omega)
  grind
theorem En_shift_nul (z : GQ) (i : Nat) : Nul fun n => En z (n - i) - En z n := fun ε he => by
  have hs := nr_nn z
  obtain ⟨n0, h0⟩ := rt_small hs (show 0 < ε / 2 by grind)
  obtain ⟨n1, h1⟩ := arch (nr z + nr z)
  refine ⟨max n0 n1 + i, fun n hn => ?_⟩
  have h2 := En_rest (z := z) Rat.le_refl (n := n - i) (Rat.le_trans h1 (by rw [Rat.natCast_le_natCast]; omega)) i
  rw [show n - i + i = n by omega] at h2
  have h3 := h0 (n - i) (by omega)
  have h4 := rt_nn hs n
  have e : nr (En z (n - i) - En z n) = nr (En z n - En z (n - i)) := by
    rw [← nr_neg]; congr 1
    apply GQ.ext' <;> simp only [neg_re, neg_im, sub_re, sub_im] <;> grind
  rw [e]; grind
theorem En_pw_nul (z : GQ) : ∀ k, Nul fun n => En (gn k * z) n - pw (En z n) k
  | 0 => by
    have h : ∀ n, 1 ≤ n → (0 : GQ) = En (gn 0 * z) n - pw (En z n) 0 := fun n hn => by
      have e : ∀ r, En (gn 0 * z) (1 + r) = 1 := by
        intro r
        induction r with
        | zero => show (0 : GQ) + 1 = 1; rw [gzero_add]
        | succ r ih =>
          show En (gn 0 * z) (1 + r) + et (gn 0 * z) (1 + r) = 1
          rw [ih, show 1 + r = r + 1 by omega]
          show 1 + et (gn 0 * z) r * (_ * (gn 0 * z)) = (1 : GQ)
          rw [gn_zero, gzero_mul, gmul_zero, gmul_zero, gadd_zero]
      obtain ⟨r, rfl⟩ : ∃ r, n = 1 + r := ⟨n - 1, by omega⟩
      rw [e, pw_zero, gsub_self]
    exact Nul.zero.congr 1 h
  | k + 1 => by
    have h1 := (En_pw_nul z k).mul_bd (En_bd z)
    have h2 := (En_add_nul (gn k * z) z).neg
    refine (h1.add h2).congr 0 fun n _ => ?_
    have e : gn (k + 1) * z = gn k * z + z := by rw [gn_add, gadd_mul, gn_one, gone_mul]
    rw [pw_succ, e]
    apply GQ.ext' <;> simp only [neg_re, neg_im, add_re, add_im, sub_re, sub_im, mul_re, mul_im] <;> grind
theorem et_mul (c z : GQ) : ∀ r, et (c * z) r = pw c r * et z r
  | 0 => by show (1 : GQ) = 1 * 1; rw [gone_mul]
  | r + 1 => by
    show et (c * z) r * (_ * (c * z)) = pw c r * c * (et z r * (_ * z))
    rw [et_mul c z r]
    generalize q (1 / ((r + 1 : Nat) : Rat)) = k
    rw [gmul_assoc (pw c r) c, gmul_assoc (pw c r)]
    congr 1
    rw [gmul_left_comm c, gmul_left_comm c]
theorem ee_et (c z : GQ) : ∀ i r, ee c i (i + r) * et z (i + r) = et z i * et (c * z) r
  | 0, r => by
    rw [Nat.zero_add, et_mul, show ee c 0 r = pw c r by rw [ee]]
    show _ = 1 * _
    rw [gone_mul]
  | i + 1, r => by
    have ih := ee_et c z i r
    refine gmul_cancel (gn_ne (show i + 1 ≠ 0 by omega)) ?_
    rw [← gmul_assoc, ← gmul_assoc, et_next, show i + 1 + r = i + r + 1 by omega, ee_mul, gmul_comm (gn (i + r + 1)), gmul_assoc, et_next, ← gmul_assoc, ih, gmul_assoc, gmul_assoc, gmul_comm z]
theorem ee_sum (c z : GQ) (i : Nat) : ∀ n, sm (fun j => ee c i j * et z j) (i + n) = et z i * En (c * z) n
  | 0 => by
    rw [sm_all0 fun j hj => by rw [ee_below c i j (by omega), gzero_mul]]
    show _ = et z i * 0
    rw [gmul_zero]
  | n + 1 => by
    rw [← Nat.add_assoc, sm_succ, ee_sum c z i n, ee_et, ← gmul_add]
    rfl
/-- the sequence's sums, and the value with e's sum in the power's place -/
theorem val_nul (m n : Nat) (c : Nat → Nat → GQ) (z : GQ) : Nul fun N => sm (fun j => rep m (n + 1) c j * et z j) N - sm (fun k => sm (fun i => c k i * et z i) (n + 1) * pw (En z N) k) (m + 1) := by
  have h1 : Nul fun N => sm (fun k => sm (fun i => (En (gn k * z) (N - i) - pw (En z N) k) * (c k i * et z i)) (n + 1)) (m + 1) := by
    refine Nul.sum (m + 1) fun k _ => Nul.sum (n + 1) fun i _ => ?_
    refine Nul.mul_bd ?_ (Bd.const _)
    refine ((En_shift_nul (gn k * z) i).add (En_pw_nul z k)).congr 0 fun N _ => ?_
    apply GQ.ext' <;> simp only [add_re, add_im, sub_re, sub_im] <;> grind
  refine h1.congr (n + 1) fun N hN => ?_
  have e1 : sm (fun j => rep m (n + 1) c j * et z j) N = sm (fun k => sm (fun i => c k i * (et z i * En (gn k * z) (N - i))) (n + 1)) (m + 1) := by
    unfold rep rw1
    have : sm (fun j => sm (fun k => sm (fun i => c k i * ee (gn k) i j) (n + 1)) (m + 1) * et z j) N = sm (fun j => sm (fun k => sm (fun i => c k i * (ee (gn k) i j * et z j)) (n + 1)) (m + 1)) N := sm_congr fun j _ => by
      rw [← sm_mul_right]
      refine sm_congr fun k _ => ?_
      rw [← sm_mul_right]
      exact sm_congr fun i _ => gmul_assoc _ _ _
    rw [this, sm_swap]
    refine sm_congr fun k _ => ?_
    rw [sm_swap]
    refine sm_congr fun i hi => ?_
    rw [sm_mul]
    congr 1
    have := ee_sum (gn k) z i (N - i)
    rwa [show i + (N - i) = N by omega] at this
  rw [e1]
  symm
  rw [gsub_eq_of, ← sm_add]
  refine sm_congr fun k _ => ?_
  rw [← sm_mul_right, ← sm_add]
  refine sm_congr fun i _ => ?_
  apply GQ.ext' <;> simp only [add_re, add_im, sub_re, sub_im, mul_re, mul_im] <;> grind
def Wh (x : GQ) : Prop := ∃ u v : Int, x = ⟨(u : Rat), (v : Rat)⟩
theorem Wh.add {x y : GQ} (h : Wh x) (k : Wh y) : Wh (x + y) := by
  obtain ⟨a, b, rfl⟩ := h
  obtain ⟨c, d, rfl⟩ := k
  exact ⟨a + c, b + d, by apply GQ.ext' <;> simp only [add_re, add_im, Rat.intCast_add]⟩
theorem Wh.sub {x y : GQ} (h : Wh x) (k : Wh y) : Wh (x - y) := by
  obtain ⟨a, b, rfl⟩ := h
  obtain ⟨c, d, rfl⟩ := k
  exact ⟨a - c, b - d, by apply GQ.ext' <;> simp only [sub_re, sub_im, Rat.intCast_sub]⟩
theorem Wh.mul {x y : GQ} (h : Wh x) (k : Wh y) : Wh (x * y) := by
  obtain ⟨a, b, rfl⟩ := h
  obtain ⟨c, d, rfl⟩ := k
  exact ⟨a * c - b * d, a * d + b * c, by apply GQ.ext' <;> simp only [mul_re, mul_im, Rat.intCast_sub, Rat.intCast_add, Rat.intCast_mul]⟩
theorem Wh.zero : Wh 0 := ⟨0, 0, rfl⟩
theorem Wh.one : Wh 1 := ⟨1, 0, rfl⟩
theorem Wh.gn (n : Nat) : Wh (gn n) := ⟨(n : Int), 0, rfl⟩
theorem Wh.int (z : Int) : Wh (q (z : Rat)) := ⟨z, 0, rfl⟩
theorem Wh.pw {x : GQ} (h : Wh x) : ∀ n, Wh (pw x n)
  | 0 => Wh.one
  | n + 1 => (h.pw n).mul h
theorem Wh.sum {f : Nat → GQ} : ∀ (n : Nat), (∀ i, i < n → Wh (f i)) → Wh (sm f n)
  | 0, _ => Wh.zero
  | n + 1, h => (Wh.sum n fun i hi => h i (by omega)).add (h n (by omega))
theorem Wh.large {x : GQ} (h : Wh x) (h0 : x ≠ 0) : 1 ≤ nr x := by
  obtain ⟨u, v, rfl⟩ := h
  have key : ∀ z : Int, z ≠ 0 → 1 ≤ ab (z : Rat) := fun z hz => by
    rcases Int.lt_or_gt_of_ne hz with h | h
    · rw [← ab_neg, ← Rat.intCast_neg, ab_of (by rw [show (0 : Rat) = ((0 : Int) : Rat) from rfl, Rat.intCast_le_intCast]; omega), show (1 : Rat) = ((1 : Int) : Rat) from rfl, Rat.intCast_le_intCast]; omega
    · rw [ab_of (by rw [show (0 : Rat) = ((0 : Int) : Rat) from rfl, Rat.intCast_le_intCast]; omega), show (1 : Rat) = ((1 : Int) : Rat) from rfl, Rat.intCast_le_intCast]; omega
  unfold nr
  by_cases hu : u = 0
  · have hv : v ≠ 0 := fun e => h0 (by rw [hu, e]; rfl)
    have := key v hv
    have := ab_nn (u : Rat)
    show 1 ≤ ab (u : Rat) + ab (v : Rat)
    grind
  · have := key u hu
    have := ab_nn (v : Rat)
    show 1 ≤ ab (u : Rat) + ab (v : Rat)
    grind
def fc : Nat → Nat
  | 0 => 1
  | n + 1 => (n + 1) * fc n
theorem fc_pos : ∀ n, 0 < fc n
  | 0 => by decide
  | n + 1 => Nat.mul_pos (by omega) (fc_pos n)
theorem fc_dvd : ∀ (n k j : Nat), k + j = n → fc k * fc j ∣ fc n
  | 0, k, j, h => by
    obtain rfl : k = 0 := by omega
    obtain rfl : j = 0 := by omega
    exact Nat.dvd_refl _
  | n + 1, 0, j, h => by
    obtain rfl : j = n + 1 := by omega
    show 1 * _ ∣ _
    rw [Nat.one_mul]; exact Nat.dvd_refl _
  | n + 1, k + 1, 0, h => by
    obtain rfl : k = n := by omega
    show _ * 1 ∣ _
    rw [Nat.mul_one]; exact Nat.dvd_refl _
  | n + 1, k + 1, j + 1, h => by
    have h1 := fc_dvd n k (j + 1) (by omega)
    have h2 := fc_dvd n (k + 1) j (by omega)
    have e : fc (n + 1) = (k + 1) * fc n + (j + 1) * fc n := by
      show (n + 1) * fc n = _
      rw [← Nat.add_mul]; congr 1; omega
    rw [e]
    refine Nat.dvd_add ?_ ?_
    · show (k + 1) * fc k * fc (j + 1) ∣ _
      rw [Nat.mul_assoc]
      exact Nat.mul_dvd_mul (Nat.dvd_refl _) h1
    · show fc (k + 1) * ((j + 1) * fc j) ∣ _
      rw [Nat.mul_left_comm]
      exact Nat.mul_dvd_mul (Nat.dvd_refl _) h2
theorem dvd_fc : ∀ (n d : Nat), 0 < d → d ≤ n → d ∣ fc n
  | 0, d, h, k => by omega
  | n + 1, d, h, k => by
    by_cases e : d = n + 1
    · subst e; exact Nat.dvd_mul_right _ _
    · exact Nat.dvd_trans (dvd_fc n d h (by omega)) (Nat.dvd_mul_left _ _)
theorem fc_le : ∀ n, fc n ≤ n ^ n
  | 0 => by decide
  | n + 1 => by
    show (n + 1) * fc n ≤ (n + 1) ^ (n + 1)
    rw [Nat.pow_succ, Nat.mul_comm]
    exact Nat.mul_le_mul_right _ (Nat.le_trans (fc_le n) (Nat.pow_le_pow_left (by omega) n))
theorem fac_append (k : Nat) : ∀ (a b : List Nat), fac k (a ++ b) = fac k a * fac k b
  | [], b => by show _ = 1 * _; rw [gone_mul]; rfl
  | l :: a, b => by
    show (gn k - gn l) * fac k (a ++ b) = (gn k - gn l) * fac k a * fac k b
    rw [fac_append k a b, gmul_assoc]
theorem fac_rep (k l : Nat) : ∀ n, fac k (List.replicate n l) = pw (gn k - gn l) n
  | 0 => rfl
  | n + 1 => by
    show (gn k - gn l) * fac k (List.replicate n l) = pw (gn k - gn l) n * (gn k - gn l)
    rw [fac_rep k l n, gmul_comm]
theorem fac_flat (k n : Nat) : ∀ (ls : List Nat), fac k (ls.flatMap fun l => List.replicate n l) = pw (fac k ls) n
  | [] => by
    show (1 : GQ) = pw 1 n
    induction n with
    | zero => rfl
    | succ n ih => rw [pw_succ, ← ih, gmul_one]
  | l :: ls => by
    rw [List.flatMap_cons, fac_append, fac_rep, fac_flat k n ls]
    show _ = pw ((gn k - gn l) * fac k ls) n
    rw [pw_mul]
theorem gn_sub {a b : Nat} (h : b ≤ a) : gn a - gn b = gn (a - b) := by
  rw [gsub_eq_of, ← gn_add]; congr 1; omega
theorem fac_low (k : Nat) : ∀ n, n ≤ k → fac k (List.range n) * gn (fc (k - n)) = gn (fc k)
  | 0, _ => by show 1 * _ = _; rw [gone_mul]; rfl
  | n + 1, h => by
    have ih := fac_low k n (by omega)
    rw [List.range_succ, fac_append, ← ih]
    show fac k (List.range n) * ((gn k - gn n) * 1) * _ = _
    rw [gmul_one, gn_sub (by omega), gmul_assoc, ← gn_mul]
    congr 2
    obtain ⟨d, hd⟩ : ∃ d, k - n = d + 1 := ⟨k - n - 1, by omega⟩
    rw [hd, show k - (n + 1) = d by omega]
    rfl
theorem fac_high (k : Nat) : ∀ n, ∃ z : Int, (z = 1 ∨ z = -1) ∧ fac k ((List.range n).map fun i => k + 1 + i) = gn (fc n) * q (z : Rat)
  | 0 => ⟨1, .inl rfl, by show (1 : GQ) = gn 1 * q ((1 : Int) : Rat); rw [gn_one, gone_mul]; rfl⟩
  | n + 1 => by
    obtain ⟨z, hz, e⟩ := fac_high k n
    refine ⟨-z, by omega, ?_⟩
    rw [List.range_succ, List.map_append, fac_append, e]
    show _ * ((gn k - gn (k + 1 + n)) * 1) = gn ((n + 1) * fc n) * _
    have e2 : gn k - gn (k + 1 + n) = -gn (n + 1) := by
      rw [show k + 1 + n = k + (n + 1) by omega, gn_add]
      apply GQ.ext' <;> simp only [neg_re, neg_im, add_re, add_im, sub_re, sub_im] <;> grind
    rw [gmul_one, e2, gn_mul, Rat.intCast_neg]
    generalize gn (fc n) = u
    generalize gn (n + 1) = v
    apply GQ.ext' <;> simp only [neg_re, neg_im, mul_re, mul_im, q_re, q_im] <;> grind
theorem filter_ne {m k : Nat} (h : k ≤ m) : (List.range (m + 1)).filter (· != k) = List.range k ++ (List.range (m - k)).map fun i => k + 1 + i := by
  obtain ⟨d, rfl⟩ : ∃ d, m = k + d := ⟨m - k, by omega⟩
  rw [show k + d + 1 = (k + 1) + d by omega, List.range_add, List.filter_append, List.range_succ, List.filter_append]
  have e1 : (List.range k).filter (· != k) = List.range k := List.filter_eq_self.2 fun x hx => by
    have := List.mem_range.1 hx
    simp; omega
  have e2 : ([k] : List Nat).filter (· != k) = [] := by simp
  have e3 : ((List.range d).map fun x => k + 1 + x).filter (· != k) = (List.range d).map fun x => k + 1 + x := List.filter_eq_self.2 fun x hx => by
    obtain ⟨y, _, rfl⟩ := List.mem_map.1 hx
    simp; omega
  rw [e1, e2, e3, List.append_nil, show k + d - k = d by omega]
theorem fac_oth {m k : Nat} (n : Nat) (h : k ≤ m) : ∃ y, Wh y ∧ pw (gn (fc m)) n = fac k (oth m n k) * y := by
  unfold oth
  rw [fac_flat, filter_ne h, fac_append]
  obtain ⟨z, hz, e⟩ := fac_high k (m - k)
  have e1 := fac_low k k (Nat.le_refl _)
  rw [Nat.sub_self, show fc 0 = 1 from rfl, gn_one, gmul_one] at e1
  rw [e, e1]
  obtain ⟨t, ht⟩ := fc_dvd m k (m - k) (by omega)
  refine ⟨pw (gn t * q (z : Rat)) n, ((Wh.gn t).mul (Wh.int z)).pw n, ?_⟩
  rw [← pw_mul]
  congr 1
  rw [ht, gn_mul, gn_mul]
  have e2 : q (z : Rat) * q (z : Rat) = 1 := by
    rw [← q_mul, ← Rat.intCast_mul]
    rcases hz with rfl | rfl <;> rfl
  rw [gmul_assoc (gn (fc k)), gmul_assoc (gn (fc k)), gmul_assoc (gn (fc (m - k))), gmul_left_comm (q (z : Rat)), e2, gmul_one]
theorem node_dvd {m k l : Nat} (hk : k ≤ m) (hl : l ≤ m) (h : l ≠ k) : ∃ y, Wh y ∧ gn (fc m) = (gn k - gn l) * y := by
  rcases Nat.lt_or_ge l k with hlt | hge
  · obtain ⟨t, ht⟩ := dvd_fc m (k - l) (by omega) (by omega)
    exact ⟨gn t, Wh.gn t, by rw [ht, gn_mul, gn_sub (by omega)]⟩
  · obtain ⟨t, ht⟩ := dvd_fc m (l - k) (by omega) (by omega)
    refine ⟨gn t * q ((-1 : Int) : Rat), (Wh.gn t).mul (Wh.int _), ?_⟩
    rw [ht, gn_mul, ← gn_sub hge, show q ((-1 : Int) : Rat) = -(1 : GQ) by apply GQ.ext' <;> simp only [neg_re, neg_im, q_re, q_im, one_re, one_im] <;> rfl]
    generalize gn l = u
    generalize gn k = v
    generalize gn t = x
    apply GQ.ext' <;> simp only [neg_re, neg_im, mul_re, mul_im, sub_re, sub_im, one_re, one_im] <;> grind
theorem Wh.node (k l : Nat) : Wh (P.gn k - P.gn l) := (Wh.gn k).sub (Wh.gn l)
theorem rowI {L : GQ} {k n : Nat} (hL : Wh L) : ∀ (ls : List Nat), (∀ l ∈ ls, ∃ y, Wh y ∧ L = (gn k - gn l) * y) → ∀ {r : Nat → GQ}, Sup (n + 1) r → (∀ i, i ≤ n → Wh (rowd k ls r i * pw L (n - i))) → ∀ i, i ≤ n → Wh (fac k ls * r i * pw L (n - i))
  | [], _, r, _, h, i, hi => by
    show Wh (1 * r i * _)
    rw [gone_mul]; exact h i hi
  | l :: ls, hls, r, hs, h, i, hi => by
    have ih := rowI hL ls (fun x hx => hls x (List.mem_cons_of_mem _ hx)) (r := dR (gn k - gn l) r) (hs.dR _) h
    obtain ⟨y, hy, hLy⟩ := hls l List.mem_cons_self
    have key : ∀ d i, i + d = n → Wh ((gn k - gn l) * fac k ls * r i * pw L d) := by
      intro d
      induction d with
      | zero =>
        intro i hi
        have h1 := ih i (by omega)
        rw [show n - i = 0 by omega] at h1
        have e : dR (gn k - gn l) r i = (gn k - gn l) * r i := by
          obtain rfl : i = n := by omega
          exact dR_top hs _
        rw [e] at h1
        have : (gn k - gn l) * fac k ls * r i * pw L 0 = fac k ls * ((gn k - gn l) * r i) * pw L 0 := by
          rw [gmul_comm (gn k - gn l) (fac k ls), gmul_assoc (fac k ls)]
        rw [this]; exact h1
      | succ d ihd =>
        intro i hi
        have h1 := ih i (by omega)
        rw [show n - i = d + 1 by omega] at h1
        have h2 := (ihd (i + 1) (by omega)).mul hy
        have e : (gn k - gn l) * fac k ls * r i * pw L (d + 1) = fac k ls * dR (gn k - gn l) r i * pw L (d + 1) - (gn k - gn l) * fac k ls * r (i + 1) * pw L d * y := by
          have e1 : (gn k - gn l) * fac k ls * r (i + 1) * pw L d * y = fac k ls * r (i + 1) * (pw L d * L) := by
            generalize pw L d = w
            rw [hLy]
            generalize gn k - gn l = u
            simp only [gmul_assoc, gmul_comm, gmul_left_comm]
          rw [e1, show pw L (d + 1) = pw L d * L from rfl]
          show _ = fac k ls * ((gn k - gn l) * r i + r (i + 1)) * _ - _
          rw [gmul_add, gadd_mul, gadd_sub_cancel, gmul_comm (gn k - gn l) (fac k ls), gmul_assoc (fac k ls)]
        rw [e]
        exact h1.sub h2
    exact key (n - i) i (by omega)
theorem nr_node_mul {k l : Nat} (h : l ≠ k) (x : GQ) : nr x ≤ nr ((gn k - gn l) * x) := by
  have e : gn k - gn l = q (((k : Nat) : Rat) - ((l : Nat) : Rat)) := (q_sub _ _).symm
  rw [e]
  have e2 : nr (q (((k : Nat) : Rat) - ((l : Nat) : Rat)) * x) = ab (((k : Nat) : Rat) - ((l : Nat) : Rat)) * nr x := by
    unfold nr
    simp only [mul_re, mul_im, q_re, q_im]
    rw [show ∀ a b : Rat, a * b - 0 * x.im = a * b from fun a b => by grind, show ∀ a b : Rat, a * b + 0 * x.re = a * b from fun a b => by grind, ab_mul, ab_mul]
    grind
  rw [e2]
  have h1 : (1 : Rat) ≤ ab (((k : Nat) : Rat) - ((l : Nat) : Rat)) := by
    rcases Nat.lt_or_gt_of_ne h with hlt | hgt
    · have : ((l + 1 : Nat) : Rat) ≤ ((k : Nat) : Rat) := by rw [Rat.natCast_le_natCast]; omega
      rw [Rat.natCast_add, show ((1 : Nat) : Rat) = 1 from rfl] at this
      have := le_ab (((k : Nat) : Rat) - ((l : Nat) : Rat))
      grind
    · have : ((k + 1 : Nat) : Rat) ≤ ((l : Nat) : Rat) := by rw [Rat.natCast_le_natCast]; omega
      rw [Rat.natCast_add, show ((1 : Nat) : Rat) = 1 from rfl] at this
      have := neg_le_ab (((k : Nat) : Rat) - ((l : Nat) : Rat))
      grind
  have := Rat.mul_le_mul_of_nonneg_right h1 (nr_nn x)
  rw [Rat.one_mul] at this
  exact this
theorem rowB {k n : Nat} : ∀ (ls : List Nat), k ∉ ls → ∀ {r : Nat → GQ} {B : Rat}, 0 ≤ B → Sup (n + 1) r → (∀ i, i ≤ n → nr (rowd k ls r i) ≤ B * rp 2 (n - i)) → ∀ i, i ≤ n → nr (r i) ≤ B * rp 2 ls.length * rp 2 (n - i)
  | [], _, r, B, _, _, h, i, hi => by
    show nr (r i) ≤ B * 1 * _
    rw [Rat.mul_one]; exact h i hi
  | l :: ls, hk, r, B, hB, hs, h, i, hi => by
    have hne : l ≠ k := fun e => hk (by rw [e]; exact List.mem_cons_self)
    have ih := rowB ls (fun hm => hk (List.mem_cons_of_mem _ hm)) (r := dR (gn k - gn l) r) hB (hs.dR _) h
    have hC : 0 ≤ B * rp 2 ls.length := Rat.mul_nonneg hB (Rat.le_of_lt (rp2_pos _))
    have e2 : rp 2 (l :: ls).length = rp 2 ls.length * 2 := rfl
    rw [e2, ← Rat.mul_assoc]
    generalize B * rp 2 ls.length = C at ih hC
    have key : ∀ d i, i + d = n → nr (r i) ≤ C * 2 * rp 2 d := by
      intro d
      induction d with
      | zero =>
        intro i hi
        have h1 := ih i (by omega)
        obtain rfl : i = n := by omega
        rw [Nat.sub_self, dR_top hs] at h1
        have h2 := nr_node_mul hne (r i)
        have e3 : rp 2 0 = 1 := rfl
        rw [e3] at h1 ⊢
        grind
      | succ d ihd =>
        intro i hi
        have h1 := ih i (by omega)
        rw [show n - i = d + 1 by omega] at h1
        have h2 := ihd (i + 1) (by omega)
        have h3 := nr_node_mul hne (r i)
        have e : (gn k - gn l) * r i = dR (gn k - gn l) r i - r (i + 1) := by
          show _ = (gn k - gn l) * r i + r (i + 1) - r (i + 1)
          rw [gadd_sub_cancel]
        have h4 := nr_sub (dR (gn k - gn l) r i) (r (i + 1))
        rw [← e] at h4
        have e3 : rp 2 (d + 1) = rp 2 d * 2 := rfl
        rw [e3] at h1 ⊢
        grind
    exact key (n - i) i (by omega)
theorem unitN {m n : Nat} {a : Nat → Nat → GQ} (h : Far m n a) {k : Nat} (hk : k ≤ m) : (∀ i, i ≤ n → Wh (fac k (oth m (n + 1) k) * a k i * pw (gn (fc m)) (n - i))) ∧ ∀ i, i ≤ n → nr (a k i) ≤ rp 2 (m * (n + 1)) * rp 2 (n - i) := by
  obtain ⟨h0, h1⟩ := h.unit hk
  have hw : ∀ i, i ≤ n → rowd k (oth m (n + 1) k) (a k) i = 0 ∨ rowd k (oth m (n + 1) k) (a k) i = 1 := fun i hi => by
    by_cases e : i = n
    · subst e; exact .inr h1
    · exact .inl (h0 i (by omega))
  constructor
  · refine rowI (Wh.gn _) _ (fun l hl => ?_) (h.sup k) fun i hi => ?_
    · have hne : l ≠ k := by
        intro e
        subst e
        exact oth_not m (n + 1) l hl
      have hlm : l ≤ m := by
        unfold oth at hl
        rw [List.mem_flatMap] at hl
        obtain ⟨x, hx, hm⟩ := hl
        rw [(List.mem_replicate.1 hm).2]
        rw [List.mem_filter] at hx
        have := List.mem_range.1 hx.1
        omega
      exact node_dvd hk hlm hne
    · rcases hw i hi with e | e <;> rw [e]
      · rw [gzero_mul]; exact Wh.zero
      · rw [gone_mul]; exact (Wh.gn _).pw _
  · intro i hi
    have := rowB (n := n) (oth m (n + 1) k) (oth_not m (n + 1) k) (r := a k) (B := 1) (by decide) (h.sup k) (fun i hi => by
      have hp := rp2_pos (n - i)
      have h1' : (1 : Rat) ≤ rp 2 (n - i) := by
        clear hp
        induction n - i with
        | zero => exact Rat.le_refl
        | succ d ih => show (1 : Rat) ≤ rp 2 d * 2; grind
      rcases hw i hi with e | e <;> rw [e]
      · rw [nr_zero]; grind
      · rw [nr_one]; grind) i hi
    rwa [Rat.one_mul, oth_length hk] at this
/-- nodes taken out of rows -/
theorem dCs_props {m n : Nat} {L : GQ} (hL : Wh L) {X : Nat → GQ} (hX : ∀ k, k ≤ m → Wh (X k)) : ∀ (ls : List Nat), (∀ l ∈ ls, l ≤ m) → ∀ {c : Nat → Nat → GQ} {B : Rat}, 0 ≤ B → (∀ k, Sup (n + 1) (c k)) → (∀ k, k ≤ m → (∀ i, i ≤ n → Wh (X k * c k i * pw L (n - i))) ∧ ∀ i, i ≤ n → nr (c k i) ≤ B * rp 2 (n - i)) →
    ∀ k, k ≤ m → (∀ i, i ≤ n → Wh (X k * dCs ls c k i * pw L (n - i))) ∧ ∀ i, i ≤ n → nr (dCs ls c k i) ≤ B * rp ((m + 1 : Nat) : Rat) ls.length * rp 2 (n - i)
  | [], _, c, B, _, _, h, k, hk => by
    obtain ⟨h1, h2⟩ := h k hk
    refine ⟨h1, fun i hi => ?_⟩
    show _ ≤ B * 1 * _
    rw [Rat.mul_one]; exact h2 i hi
  | l :: ls, hl, c, B, hB, hs, h, k, hk => by
    have hlm := hl l List.mem_cons_self
    have ih := dCs_props hL hX ls (fun x hx => hl x (List.mem_cons_of_mem _ hx)) (c := dC l c) (B := B * ((m + 1 : Nat) : Rat)) (Rat.mul_nonneg hB (nat_nn _)) (fun k => (hs k).dR _) (fun k hk => by
      obtain ⟨h1, h2⟩ := h k hk
      constructor
      · intro i hi
        show Wh (X k * ((gn k - gn l) * c k i + c k (i + 1)) * pw L (n - i))
        have e : X k * ((gn k - gn l) * c k i + c k (i + 1)) * pw L (n - i) = (gn k - gn l) * (X k * c k i * pw L (n - i)) + X k * c k (i + 1) * pw L (n - i) := by
          generalize gn k - gn l = u
          generalize pw L (n - i) = w
          apply GQ.ext' <;> simp only [mul_re, mul_im, add_re, add_im] <;> grind
        rw [e]
        refine ((Wh.node k l).mul (h1 i hi)).add ?_
        by_cases e : i = n
        · rw [hs k (i + 1) (by omega), gmul_zero, gzero_mul]; exact Wh.zero
        · rw [show n - i = n - (i + 1) + 1 by omega, pw_succ, ← gmul_assoc]
          exact (h1 (i + 1) (by omega)).mul hL
      · intro i hi
        show nr ((gn k - gn l) * c k i + c k (i + 1)) ≤ _
        have h3 := nr_add ((gn k - gn l) * c k i) (c k (i + 1))
        have h4 := nr_mul (gn k - gn l) (c k i)
        have hn : nr (gn k - gn l) ≤ ((m : Nat) : Rat) := by
          have e : gn k - gn l = q (((k : Nat) : Rat) - ((l : Nat) : Rat)) := (q_sub _ _).symm
          rw [e, nr_q, ab_le]
          have a1 : ((k : Nat) : Rat) ≤ ((m : Nat) : Rat) := by rw [Rat.natCast_le_natCast]; omega
          have a2 : ((l : Nat) : Rat) ≤ ((m : Nat) : Rat) := by rw [Rat.natCast_le_natCast]; omega
          have a3 := nat_nn k
          have a4 := nat_nn l
          constructor <;> grind
        have h5 := Rat.le_trans h4 (rmul_le hn (h2 i hi) (nr_nn _) (nat_nn m))
        have h6 : nr (c k (i + 1)) ≤ B * rp 2 (n - i) := by
          by_cases e : i = n
          · rw [hs k (i + 1) (by omega), nr_zero]; exact Rat.mul_nonneg hB (Rat.le_of_lt (rp2_pos _))
          · refine Rat.le_trans (h2 (i + 1) (by omega)) (Rat.mul_le_mul_of_nonneg_left ?_ hB)
            rw [show n - i = n - (i + 1) + 1 by omega]
            have := rp2_pos (n - (i + 1))
            show _ ≤ rp 2 (n - (i + 1)) * 2
            grind
        rw [Rat.natCast_add, show ((1 : Nat) : Rat) = 1 from rfl]
        grind) k hk
    refine ⟨ih.1, fun i hi => ?_⟩
    have h7 := ih.2 i hi
    have e : B * ((m + 1 : Nat) : Rat) * rp ((m + 1 : Nat) : Rat) ls.length = B * rp ((m + 1 : Nat) : Rat) (l :: ls).length := by
      show _ = B * (rp ((m + 1 : Nat) : Rat) ls.length * ((m + 1 : Nat) : Rat))
      grind
    rw [e] at h7
    exact h7
end Go.Proofs.YtjfaefgabaimaaaGreat.P
