/- Contract of nat.long: a number by one of several limbs, and what is left. Conditions: both without noughts at the end, the divisor of two limbs at least and not longer; at most 10^12 limbs. -/
import Derived.Test.YtdojdghhbjjoeaaLongMath
import Derived.Test.YtdojdghhbjjoeaaShift
import Derived.Test.YtdojdghhbjjoeaaShiftUp
import Derived.Test.YtdojdghhbjjoeaaLen
namespace Go.Proofs.Ytdojdghhbjjoeaa
open Go.RowKit
attribute [local go_sem ↓] Go.wp_at_zero Go.wp_at_succ

theorem bitLenAux_spec : ∀ (f x : Nat), x < 2 ^ f → x < 2 ^ Lib.bitLenAux f x ∧ (x ≠ 0 → 1 ≤ Lib.bitLenAux f x ∧ 2 ^ (Lib.bitLenAux f x - 1) ≤ x)
  | 0, x, h => by
    have : x = 0 := by simpa using h
    subst this
    simp [Lib.bitLenAux]
  | f + 1, x, h => by
    simp only [Lib.bitLenAux]
    by_cases h0 : x = 0
    · subst h0; simp
    · rw [if_neg h0]
      have ih := bitLenAux_spec f (x / 2) (by rw [Nat.pow_succ] at h; omega)
      have h00 : x / 2 = 0 → Lib.bitLenAux f (x / 2) = 0 := by intro h; rw [h]; cases f <;> simp [Lib.bitLenAux]
      generalize Lib.bitLenAux f (x / 2) = l at *
      refine ⟨by rw [Nat.add_comm, Nat.pow_succ]; omega, fun _ => ⟨by omega, ?_⟩⟩
      rw [show 1 + l - 1 = l from by omega]
      by_cases h2 : x / 2 = 0
      · have := h00 h2
        subst this
        simp; omega
      · have h3 := ih.2 h2
        obtain ⟨m, rfl⟩ : ∃ m, l = m + 1 := ⟨l - 1, by omega⟩
        rw [Nat.pow_succ]
        have := h3.2
        rw [show m + 1 - 1 = m from rfl] at this
        omega

def lz (t : Nat) : Nat := 32 - Lib.bitLen t

theorem bitLen_32 {t : Nat} (h : t < 4294967296) : Lib.bitLen t ≤ 32 ∧ t < 2 ^ Lib.bitLen t ∧ (t ≠ 0 → 1 ≤ Lib.bitLen t ∧ 2 ^ (Lib.bitLen t - 1) ≤ t) := by
  have hs := bitLenAux_spec 64 t (by omega)
  refine ⟨?_, hs⟩
  change t < 2 ^ Lib.bitLen t ∧ (t ≠ 0 → 1 ≤ Lib.bitLen t ∧ 2 ^ (Lib.bitLen t - 1) ≤ t) at hs
  by_cases h0 : t = 0
  · subst h0; simp [Lib.bitLen, Lib.bitLenAux]
  · obtain ⟨h1, h2⟩ := hs.2 h0
    generalize Lib.bitLen t = l at *
    rcases Nat.lt_or_ge 32 l with h3 | h3
    · have : 2 ^ 32 ≤ 2 ^ (l - 1) := Nat.pow_le_pow_right (by omega) (by omega)
      omega
    · exact h3

theorem lz_spec {t : Nat} (h0 : 0 < t) (h : t < 4294967296) : lz t < 32 ∧ 2147483648 ≤ t * 2 ^ lz t ∧ t * 2 ^ lz t < 4294967296 := by
  obtain ⟨h1, h2, h3⟩ := bitLen_32 h
  obtain ⟨h4, h5⟩ := h3 (by omega)
  unfold lz
  generalize Lib.bitLen t = l at *
  refine ⟨by omega, ?_, ?_⟩
  · have e : 2 ^ (l - 1) * 2 ^ (32 - l) = 2147483648 := by rw [← Nat.pow_add, show l - 1 + (32 - l) = 31 from by omega]
    have := Nat.mul_le_mul_right (2 ^ (32 - l)) h5
    omega
  · have e : 2 ^ l * 2 ^ (32 - l) = 4294967296 := by rw [← Nat.pow_add, show l + (32 - l) = 32 from by omega]
    rw [← e]
    exact Nat.mul_lt_mul_of_pos_right h2 (Nat.two_pow_pos _)

theorem bitsLZ (t : Nat) (w : World) (h : t < 4294967296) : Calls Try.prog 115 #[.int .u32 t] w fun e w' => e = .returned (.int .i64 (lz t)) ∧ w = w' := by
  have h1 := (bitLen_32 h).1
  refine (bitsLeadingZeros32 t w (by omega) (by omega)).mono ?_
  rintro e w' ⟨rfl, rfl⟩
  refine ⟨?_, rfl⟩
  rw [Int.toNat_natCast]
  unfold lz
  congr 2
  omega

/-- the divisor, shifted till its highest bit is set, fits its row, and its last limb has that bit -/
theorem norm_fits {C : List Nat} {n s : Nat} (hn : C.length = n + 1) (hl : ∀ x ∈ C, x < 4294967296) (hs : C.getD n 0 * 2 ^ s < 4294967296) (hs32 : s < 32) : val C * 2 ^ s < 4294967296 ^ (n + 1) := by
  have h1 := val_top1 hn
  have h2 := val_take_lt (n := n) hl (by omega)
  have h3 : C.getD n 0 * 2 ^ s + 2 ^ s ≤ 4294967296 := by
    have e : (4294967296 : Nat) = 2 ^ (32 - s) * 2 ^ s := by rw [← Nat.pow_add, show 32 - s + s = 32 from by omega]
    rw [e] at hs ⊢
    have := Nat.lt_of_mul_lt_mul_right hs
    have h4 := Nat.mul_le_mul_right (2 ^ s) this
    rw [Nat.succ_mul] at h4
    exact h4
  generalize C.getD n 0 = t at *
  generalize val (C.take n) = r at *
  rw [h1, Nat.pow_succ]
  have h5 : (r + 4294967296 ^ n * t) * 2 ^ s < (4294967296 ^ n + 4294967296 ^ n * t) * 2 ^ s := Nat.mul_lt_mul_of_pos_right (by omega) (Nat.two_pow_pos _)
  have h6 : (4294967296 ^ n + 4294967296 ^ n * t) * 2 ^ s = 4294967296 ^ n * (t * 2 ^ s + 2 ^ s) := by
    rw [Nat.add_mul, Nat.mul_add, Nat.mul_assoc, Nat.add_comm]
  have h7 := Nat.mul_le_mul_left (4294967296 ^ n) h3
  omega

theorem norm_top {C ds : List Nat} {n s : Nat} (hn : C.length = n + 1) (hd : ds.length = n + 1) (hld : ∀ x ∈ ds, x < 4294967296) (hv : val ds = val C * 2 ^ s) (hs : 2147483648 ≤ C.getD n 0 * 2 ^ s) : 2147483648 ≤ ds.getD n 0 := by
  have h1 := val_top1 hn
  have h2 := val_top1 hd
  have h3 := val_take_lt (n := n) hld (by omega)
  have h4 : 4294967296 ^ n * 2147483648 ≤ val ds := by
    have e1 := Nat.mul_le_mul_left (4294967296 ^ n) hs
    have e2 : 4294967296 ^ n * (C.getD n 0 * 2 ^ s) ≤ val C * 2 ^ s := by
      rw [← Nat.mul_assoc]
      exact Nat.mul_le_mul_right _ (by omega)
    omega
  have h5 : 4294967296 ^ n * 2147483648 < 4294967296 ^ n * (ds.getD n 0 + 1) := by rw [Nat.mul_add]; omega
  have := Nat.lt_of_mul_lt_mul_left h5
  omega

theorem norm_num {A : List Nat} {la s : Nat} (hn : A.length = la) (hl : ∀ x ∈ A, x < 4294967296) (hs : s < 32) : val A * 2 ^ s < 4294967296 ^ la * 2147483648 ∧ val A * 2 ^ s < 4294967296 ^ (la + 1) := by
  have h1 := val_lt hl
  rw [hn] at h1
  have h2 : 2 ^ s ≤ 2147483648 := by
    have : (2147483648 : Nat) = 2 ^ 31 := by decide
    rw [this]; exact Nat.pow_le_pow_right (by omega) (by omega)
  have h3 : val A * 2 ^ s < 4294967296 ^ la * 2 ^ s := Nat.mul_lt_mul_of_pos_right h1 (Nat.two_pow_pos _)
  have h4 : 4294967296 ^ la * 2 ^ s ≤ 4294967296 ^ la * 2147483648 := Nat.mul_le_mul_left _ h2
  refine ⟨by omega, ?_⟩
  rw [Nat.pow_succ]
  have : 0 < 4294967296 ^ la := Nat.pow_pos (by omega)
  omega

theorem limbs_top (n : Nat) : 0 < n → (limbs n).getD ((limbs n).length - 1) 0 ≠ 0 := by
  induction n using limbs_induct with
  | h0 => intro h; omega
  | h n hn ih =>
    intro _
    rw [limbs_pos hn]
    by_cases h0 : n / 4294967296 = 0
    · rw [h0, limbs_zero]
      simp; omega
    · have h1 := ih (by omega)
      have h2 : 0 < (limbs (n / 4294967296)).length := by
        rcases Nat.eq_zero_or_pos (limbs (n / 4294967296)).length with h | h
        · rw [limbs_len_zero] at h; omega
        · exact h
      obtain ⟨k, hk⟩ : ∃ k, (limbs (n / 4294967296)).length = k + 1 := ⟨(limbs (n / 4294967296)).length - 1, by omega⟩
      rw [hk, show k + 1 - 1 = k from rfl] at h1
      rw [List.length_cons, hk, show k + 1 + 1 - 1 = k + 1 from rfl, List.getD_cons_succ]
      exact h1

theorem natShiftNeg (w : World) (v : Value) (xs : List Nat) (base k : Nat) (N : Int) (hN : N = -(k : Int)) (h : Nt base w v xs) (hk2 : k ≤ 4096) (hL : xs.length ≤ 7000000000000) :
    Calls Try.prog 79 #[v, .int .i64 N] w (RetNat (val xs / 2 ^ k) w) := by
  subst hN
  by_cases h0 : k = 0
  · subst h0
    have := natShiftUp w v xs base 0 h (by omega) hL
    simpa using this
  · exact natShiftDown w v xs base k h (by omega) hk2 (by omega)

/-- What a function answers that hands back two naturals in new memory. -/
def RetNat2 (m n : Nat) (w : World) (e : Ending) (w' : World) : Prop :=
  ∃ v u, e = .returned (.tuple #[v, u]) ∧ Nt w.heap.size w' v (limbs m) ∧ Nt w.heap.size w' u (limbs n) ∧ Below w.heap.size w w'

end Go.Proofs.Ytdojdghhbjjoeaa
