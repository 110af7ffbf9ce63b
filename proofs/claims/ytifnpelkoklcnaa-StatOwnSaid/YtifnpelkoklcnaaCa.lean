/- Sums of sequences of rationals and of whole numbers; means. No condition. -/
import Derived.Test.YtifnpelkoklcnaaBz
namespace Go.Proofs.Ytifnpelkoklcnaa
open Go.RowKit

def sumTo (f : Nat → Rat) : Nat → Rat
  | 0 => 0
  | n + 1 => sumTo f n + f n
def cntTo (f : Nat → Int) : Nat → Int
  | 0 => 0
  | n + 1 => cntTo f n + f n
/-- the i-th number of a row -/
def atQ (l : List RR) (i : Nat) : Rat := (l.getD i rr0).q

theorem sumTo_congr {f g : Nat → Rat} : ∀ {n : Nat}, (∀ i, i < n → f i = g i) → sumTo f n = sumTo g n
  | 0, _ => rfl
  | n + 1, h => by show sumTo f n + f n = sumTo g n + g n; rw [sumTo_congr fun i hi => h i (by omega), h n (by omega)]
theorem cntTo_congr {f g : Nat → Int} : ∀ {n : Nat}, (∀ i, i < n → f i = g i) → cntTo f n = cntTo g n
  | 0, _ => rfl
  | n + 1, h => by show cntTo f n + f n = cntTo g n + g n; rw [cntTo_congr fun i hi => h i (by omega), h n (by omega)]
theorem sumTo_add (f g : Nat → Rat) : ∀ n, sumTo (fun i => f i + g i) n = sumTo f n + sumTo g n
  | 0 => by show (0 : Rat) = 0 + 0; rw [Rat.add_zero]
  | n + 1 => by show sumTo (fun i => f i + g i) n + (f n + g n) = _; rw [sumTo_add f g n]; show _ = (sumTo f n + f n) + (sumTo g n + g n); grind
theorem sumTo_mul (f : Nat → Rat) (c : Rat) : ∀ n, sumTo (fun i => f i * c) n = sumTo f n * c
  | 0 => by show (0 : Rat) = 0 * c; rw [Rat.zero_mul]
  | n + 1 => by show sumTo (fun i => f i * c) n + f n * c = (sumTo f n + f n) * c; rw [sumTo_mul f c n, Rat.add_mul]
theorem sumTo_const (c : Rat) : ∀ n : Nat, sumTo (fun _ => c) n = (n : Rat) * c
  | 0 => by show (0 : Rat) = ((0 : Nat) : Rat) * c; rw [show ((0 : Nat) : Rat) = 0 from rfl, Rat.zero_mul]
  | n + 1 => by show sumTo (fun _ => c) n + c = _; rw [sumTo_const c n, Rat.natCast_add, show ((1 : Nat) : Rat) = 1 from rfl, Rat.add_mul, Rat.one_mul]
theorem sumTo_sub (f : Nat → Rat) (c : Rat) (n : Nat) : sumTo (fun i => f i - c) n = sumTo f n - (n : Rat) * c := by
  have h := sumTo_add f (fun _ => -c) n
  rw [sumTo_const] at h
  have e : sumTo (fun i => f i - c) n = sumTo (fun i => f i + -c) n := sumTo_congr fun i _ => Rat.sub_eq_add_neg _ _
  rw [e, h, Rat.mul_neg, ← Rat.sub_eq_add_neg]
theorem sumTo_nonneg {f : Nat → Rat} : ∀ {n : Nat}, (∀ i, i < n → 0 ≤ f i) → 0 ≤ sumTo f n
  | 0, _ => Rat.le_refl
  | n + 1, h => Rat.add_nonneg (sumTo_nonneg fun i hi => h i (by omega)) (h n (by omega))
theorem sumTo_le {f g : Nat → Rat} : ∀ {n : Nat}, (∀ i, i < n → f i ≤ g i) → sumTo f n ≤ sumTo g n
  | 0, _ => Rat.le_refl
  | n + 1, h => by
    have h1 := sumTo_le (n := n) fun i hi => h i (by omega)
    have h2 := h n (by omega)
    show sumTo f n + f n ≤ sumTo g n + g n
    grind
theorem sumTo_shift (f : Nat → Rat) : ∀ n, sumTo f (n + 1) = f 0 + sumTo (fun i => f (i + 1)) n
  | 0 => by show 0 + f 0 = f 0 + 0; rw [Rat.zero_add, Rat.add_zero]
  | n + 1 => by
    show sumTo f (n + 1) + f (n + 1) = f 0 + (sumTo (fun i => f (i + 1)) n + f (n + 1))
    rw [sumTo_shift f n, Rat.add_assoc]
theorem sumTo_rev (f : Nat → Rat) : ∀ n, sumTo (fun i => f (n - 1 - i)) n = sumTo f n
  | 0 => rfl
  | n + 1 => by
    rw [sumTo_shift]
    have e : sumTo (fun i => f (n + 1 - 1 - (i + 1))) n = sumTo (fun i => f (n - 1 - i)) n := sumTo_congr fun i hi => by congr 1; omega
    rw [e, sumTo_rev f n]
    show f (n + 1 - 1 - 0) + sumTo f n = sumTo f n + f n
    rw [Rat.add_comm]; rfl
theorem sumTo_join (f g : Nat → Rat) (m : Nat) : ∀ n, sumTo (fun i => if i < m then f i else g (i - m)) (m + n) = sumTo f m + sumTo g n
  | 0 => by
    rw [show sumTo g 0 = 0 from rfl, Rat.add_zero]
    exact sumTo_congr fun i hi => if_pos hi
  | n + 1 => by
    show sumTo (fun i => if i < m then f i else g (i - m)) (m + n) + (if m + n < m then f (m + n) else g (m + n - m)) = sumTo f m + (sumTo g n + g n)
    rw [sumTo_join f g m n, if_neg (by omega), Nat.add_sub_cancel_left, Rat.add_assoc]

theorem rs_sumTo {f : Nat → Rat} {K : Nat} (h : ∀ i, rs (f i) ≤ K) : ∀ n, rs (sumTo f n) ≤ n * (K + 1) + 1
  | 0 => by rw [Nat.zero_mul]; exact (by decide : (1 : Nat) ≤ 1)
  | n + 1 => by
    have h1 := rs_sumTo h n
    have h2 := rs_add (sumTo f n) (f n)
    have h3 := h n
    rw [Nat.add_mul, Nat.one_mul]
    show rs (sumTo f n + f n) ≤ _
    omega

theorem sq_cauchy {s A B x y : Rat} (hA : 0 ≤ A) (hB : 0 ≤ B) (h : s * s ≤ A * B) : (s + x * y) * (s + x * y) ≤ (A + x * x) * (B + y * y) := by
  have hx := sq_nonneg x
  have hy := sq_nonneg y
  have ht : 0 ≤ A * (y * y) + B * (x * x) := Rat.add_nonneg (Rat.mul_nonneg hA hy) (Rat.mul_nonneg hB hx)
  have h1 : (s * (x * y) + s * (x * y)) * (s * (x * y) + s * (x * y)) ≤ (A * (y * y) + B * (x * x)) * (A * (y * y) + B * (x * x)) := by
    have e1 : (s * (x * y) + s * (x * y)) * (s * (x * y) + s * (x * y)) = (s * s) * ((x * x) * (y * y)) * 4 := by grind
    have e2 : (A * (y * y) + B * (x * x)) * (A * (y * y) + B * (x * x)) = (A * (y * y) - B * (x * x)) * (A * (y * y) - B * (x * x)) + (A * B) * ((x * x) * (y * y)) * 4 := by grind
    rw [e1, e2]
    have h2 := sq_nonneg (A * (y * y) - B * (x * x))
    have h3 := Rat.mul_le_mul_of_nonneg_right (Rat.mul_le_mul_of_nonneg_right h (Rat.mul_nonneg hx hy)) (show (0 : Rat) ≤ 4 by decide +kernel)
    grind
  have h2 : s * (x * y) + s * (x * y) ≤ A * (y * y) + B * (x * x) := by
    rcases Rat.le_total (a := 0) (b := s * (x * y) + s * (x * y)) with hs | hs
    · exact sq_le_sq hs ht h1
    · exact Rat.le_trans hs ht
  have e : (s + x * y) * (s + x * y) = s * s + (s * (x * y) + s * (x * y)) + (x * x) * (y * y) := by grind
  have e2 : (A + x * x) * (B + y * y) = A * B + (A * (y * y) + B * (x * x)) + (x * x) * (y * y) := by grind
  rw [e, e2]
  grind

theorem cauchy (f g : Nat → Rat) : ∀ n, sumTo (fun i => f i * g i) n * sumTo (fun i => f i * g i) n ≤ sumTo (fun i => f i * f i) n * sumTo (fun i => g i * g i) n
  | 0 => by show (0 : Rat) * 0 ≤ 0 * 0; exact Rat.le_refl
  | n + 1 => sq_cauchy (sumTo_nonneg fun i _ => sq_nonneg _) (sumTo_nonneg fun i _ => sq_nonneg _) (cauchy f g n)

/-! means -/

def meanTo (f : Nat → Rat) (n : Nat) : Rat := sumTo f n / (((n : Nat) : Int) : Rat)
theorem natCast_ne {n : Nat} (h : 0 < n) : (((n : Nat) : Int) : Rat) ≠ 0 := by
  intro e
  rw [show (0 : Rat) = ((0 : Int) : Rat) from rfl, Rat.intCast_inj] at e
  omega
theorem natCast_pos' {n : Nat} (h : 0 < n) : (0 : Rat) < (((n : Nat) : Int) : Rat) := by
  rw [show (0 : Rat) = ((0 : Int) : Rat) from rfl, Rat.intCast_lt_intCast]; omega
theorem mean_mul {f : Nat → Rat} {n : Nat} (h : 0 < n) : meanTo f n * (((n : Nat) : Int) : Rat) = sumTo f n := Rat.div_mul_cancel (natCast_ne h)
theorem sum_off {f : Nat → Rat} {n : Nat} (h : 0 < n) : sumTo (fun i => f i - meanTo f n) n = 0 := by
  rw [sumTo_sub, ← mean_mul h, Rat.mul_comm, show ((n : Nat) : Rat) = (((n : Nat) : Int) : Rat) from (Rat.intCast_natCast n).symm, Rat.sub_self]

end Go.Proofs.Ytifnpelkoklcnaa
