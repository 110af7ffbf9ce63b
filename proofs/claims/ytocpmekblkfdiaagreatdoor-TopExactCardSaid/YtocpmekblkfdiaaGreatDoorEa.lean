/- Ways to choose; sums over them. No condition. -/
import Derived.Test.YtocpmekblkfdiaaGreatDoorCa
namespace Go.Proofs.YtocpmekblkfdiaaGreatDoor
/-- in how many ways k of n are chosen -/
def ch : Nat → Nat → Nat
  | _, 0 => 1
  | 0, _ + 1 => 0
  | n + 1, k + 1 => ch n k + ch n (k + 1)
theorem ch_zero (n : Nat) : ch n 0 = 1 := by cases n <;> rfl
theorem ch_above : ∀ {n k : Nat}, n < k → ch n k = 0
  | 0, k + 1, _ => rfl
  | n + 1, k + 1, h => by show ch n k + ch n (k + 1) = 0; rw [ch_above (by omega), ch_above (by omega)]
theorem ch_mul : ∀ n k : Nat, (n + 1) * ch n k = ch (n + 1) (k + 1) * (k + 1)
  | 0, 0 => rfl
  | 0, k + 1 => by rw [ch_above (by omega), ch_above (by omega), Nat.mul_zero, Nat.zero_mul]
  | n + 1, 0 => by
    have h := ch_mul n 0
    have e : ch (n + 1 + 1) (0 + 1) = ch (n + 1) 0 + ch (n + 1) (0 + 1) := rfl
    rw [e]
    rw [ch_zero] at h ⊢
    omega
  | n + 1, k + 1 => by
    have h1 := ch_mul n k
    have h2 := ch_mul n (k + 1)
    have e1 : ch (n + 1) (k + 1) = ch n k + ch n (k + 1) := rfl
    have e2 : ch (n + 1 + 1) (k + 1 + 1) = ch (n + 1) (k + 1) + ch (n + 1) (k + 1 + 1) := rfl
    rw [e2]
    grind
/-- the next from the last -/
theorem ch_next (n k : Nat) : ch n (k + 1) * (k + 1) = ch n k * (n - k) := by
  have h := ch_mul n k
  have e : ch (n + 1) (k + 1) = ch n k + ch n (k + 1) := rfl
  rw [e] at h
  rcases Nat.lt_or_ge k n with hk | hk
  · obtain ⟨m, rfl⟩ : ∃ m, n = m + k := ⟨n - k, by omega⟩
    rw [Nat.add_sub_cancel]
    grind
  · rw [ch_above (by omega), Nat.zero_mul, Nat.sub_eq_zero_of_le hk, Nat.mul_zero]
def sumN (f : Nat → Nat) : Nat → Nat
  | 0 => 0
  | n + 1 => sumN f n + f n
theorem sumN_congr {f g : Nat → Nat} : ∀ {n : Nat}, (∀ i, i < n → f i = g i) → sumN f n = sumN g n
  | 0, _ => rfl
  | n + 1, h => by show sumN f n + f n = sumN g n + g n; rw [sumN_congr fun i hi => h i (by omega), h n (by omega)]
theorem sumN_add (f g : Nat → Nat) : ∀ n, sumN (fun i => f i + g i) n = sumN f n + sumN g n
  | 0 => rfl
  | n + 1 => by show sumN (fun i => f i + g i) n + (f n + g n) = _; rw [sumN_add f g n]; show _ = (sumN f n + f n) + (sumN g n + g n); omega
theorem sumN_mul (f : Nat → Nat) (c : Nat) : ∀ n, sumN (fun i => c * f i) n = c * sumN f n
  | 0 => (Nat.mul_zero c).symm
  | n + 1 => by show sumN (fun i => c * f i) n + c * f n = c * (sumN f n + f n); rw [sumN_mul f c n, Nat.mul_add]
theorem sumN_shift (f : Nat → Nat) : ∀ n, sumN f (n + 1) = f 0 + sumN (fun i => f (i + 1)) n
  | 0 => by show 0 + f 0 = f 0 + 0; omega
  | n + 1 => by
    show sumN f (n + 1) + f (n + 1) = f 0 + (sumN (fun i => f (i + 1)) n + f (n + 1))
    rw [sumN_shift f n, Nat.add_assoc]
theorem sumN_le {f : Nat → Nat} : ∀ {n i : Nat}, i < n → f i ≤ sumN f n
  | n + 1, i, h => by
    show f i ≤ sumN f n + f n
    rcases Nat.lt_or_ge i n with hi | hi
    · have := sumN_le (f := f) hi; omega
    · have : i = n := by omega
      subst this; omega
/-- how often k of n succeed, with u ways to and d ways not to -/
def bin (u d n k : Nat) : Nat := ch n k * (u ^ k * d ^ (n - k))
theorem bin_zero (u d n : Nat) : bin u d n 0 = d ^ n := by unfold bin; rw [ch_zero, Nat.one_mul, Nat.pow_zero, Nat.one_mul, Nat.sub_zero]
theorem bin_above {u d n k : Nat} (h : n < k) : bin u d n k = 0 := by unfold bin; rw [ch_above h, Nat.zero_mul]
theorem bin_succ (u d n k : Nat) : bin u d (n + 1) (k + 1) = u * bin u d n k + d * bin u d n (k + 1) := by
  unfold bin
  have e : ch (n + 1) (k + 1) = ch n k + ch n (k + 1) := rfl
  rw [e, Nat.add_mul]
  have h1 : ch n k * (u ^ (k + 1) * d ^ (n + 1 - (k + 1))) = u * (ch n k * (u ^ k * d ^ (n - k))) := by
    rw [Nat.pow_succ, show n + 1 - (k + 1) = n - k by omega]
    grind
  have h2 : ch n (k + 1) * (u ^ (k + 1) * d ^ (n + 1 - (k + 1))) = d * (ch n (k + 1) * (u ^ (k + 1) * d ^ (n - (k + 1)))) := by
    rcases Nat.lt_or_ge k n with hk | hk
    · rw [show n + 1 - (k + 1) = (n - (k + 1)) + 1 by omega, Nat.pow_succ d]
      grind
    · rw [ch_above (show n < k + 1 by omega), Nat.zero_mul, Nat.zero_mul, Nat.mul_zero]
  rw [h1, h2]
theorem bin_next0 (u d n : Nat) : bin u d (n + 1) 0 = d * bin u d n 0 := by rw [bin_zero, bin_zero, Nat.pow_succ, Nat.mul_comm]
/-- all counts together -/
theorem bin_sum (u d : Nat) : ∀ n, sumN (bin u d n) (n + 1) = (u + d) ^ n
  | 0 => by show 0 + bin u d 0 0 = 1; rw [bin_zero]; rfl
  | n + 1 => by
    rw [sumN_shift, bin_next0]
    have e : sumN (fun i => bin u d (n + 1) (i + 1)) (n + 1) = u * sumN (bin u d n) (n + 1) + d * sumN (fun i => bin u d n (i + 1)) (n + 1) := by
      rw [← sumN_mul, ← sumN_mul, ← sumN_add]
      exact sumN_congr fun i _ => bin_succ u d n i
    have e2 : bin u d n 0 + sumN (fun i => bin u d n (i + 1)) (n + 1) = sumN (bin u d n) (n + 1) := by
      rw [← sumN_shift]
      show sumN (bin u d n) (n + 1) + bin u d n (n + 1) = _
      rw [bin_above (by omega)]; rfl
    rw [e, bin_sum u d n]
    rw [bin_sum u d n] at e2
    rw [Nat.add_left_comm, ← Nat.mul_add, e2, ← Nat.add_mul, Nat.pow_succ, Nat.mul_comm]
end Go.Proofs.YtocpmekblkfdiaaGreatDoor
