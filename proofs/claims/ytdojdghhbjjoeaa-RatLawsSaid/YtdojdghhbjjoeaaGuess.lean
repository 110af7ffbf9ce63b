/- Contract of nat.guess: how often two limbs are in three, at most the greatest limb. Conditions: the divisor's first limb has its highest bit; the first of the three is not above it. -/
import Derived.Test.YtdojdghhbjjoeaaBits
namespace Go.Proofs.Ytdojdghhbjjoeaa
open Go.RowKit

/-- the least of 2^32 - 1 and the quotient of three limbs by two -/
def guessOf (u low b1 b2 : Nat) : Nat := min 4294967295 ((u * 4294967296 + low) / (b1 * 4294967296 + b2))

theorem guess_le {u low b1 b2 q r : Nat} (hq : q * b1 + r = u) (hb : 0 < b1) (hQ : q < 4294967296) (h : q * b2 ≤ r * 4294967296 + low) : q ≤ guessOf u low b1 b2 := by
  unfold guessOf
  refine Nat.le_min.2 ⟨by omega, ?_⟩
  rw [Nat.le_div_iff_mul_le (by omega), ← hq, Nat.mul_add, Nat.add_mul, ← Nat.mul_assoc]
  omega

theorem guess_lt {u low b1 b2 q r : Nat} (hq : q * b1 + r = u) (hb : 0 < b1) (h : r * 4294967296 + low < q * b2) : guessOf u low b1 b2 < q := by
  have h1 : (u * 4294967296 + low) / (b1 * 4294967296 + b2) < q := by
    refine Nat.lt_of_not_le fun hle => ?_
    rw [Nat.le_div_iff_mul_le (by omega), ← hq, Nat.mul_add, Nat.add_mul, ← Nat.mul_assoc] at hle
    omega
  unfold guessOf
  exact Nat.lt_of_le_of_lt (Nat.min_le_right 4294967295 ((u * 4294967296 + low) / (b1 * 4294967296 + b2))) h1

theorem guess_lt_big {u low b1 b2 q : Nat} (h : 4294967296 ≤ q) : guessOf u low b1 b2 < q := by
  unfold guessOf
  have := Nat.min_le_left 4294967295 ((u * 4294967296 + low) / (b1 * 4294967296 + b2))
  omega

/-- the step down: the sum stays, and if the rest passes a limb the number is found -/
theorem guess_down {u high mid low b1 b2 q r : Nat} (hu : u = high * 4294967296 + mid) (hhi : high ≤ b1) (hm : mid < 4294967296) (hq : q * b1 + r = u) (hb : 2147483648 ≤ b1) (bb2 : b2 < 4294967296)
    (hqB : q ≤ 4294967297) (hx : guessOf u low b1 b2 < q) :
    ∃ q', q = q' + 1 ∧ q' * b1 + (r + b1) = u ∧ (4294967296 ≤ r + b1 → q' = guessOf u low b1 b2) := by
  obtain ⟨q', rfl⟩ : ∃ q', q = q' + 1 := ⟨q - 1, by omega⟩
  rw [Nat.add_mul, Nat.one_mul] at hq
  refine ⟨q', rfl, by omega, fun hr => ?_⟩
  have hle : q' ≤ 4294967295 := by
    rcases Nat.lt_or_ge q' 4294967296 with h | h
    · omega
    · have e : q' = 4294967296 := by omega
      subst e
      have : high * 4294967296 ≤ b1 * 4294967296 := Nat.mul_le_mul_right _ hhi
      omega
  have h1 : q' ≤ guessOf u low b1 b2 := by
    refine guess_le (r := r + b1) (by omega) (by omega) (by omega) ?_
    have h2 : q' * b2 ≤ 4294967295 * 4294967295 := Nat.mul_le_mul hle (by omega)
    have h3 : 4294967296 * 4294967296 ≤ (r + b1) * 4294967296 := Nat.mul_le_mul_right _ hr
    omega
  omega

theorem guess_start {u high mid low b1 b2 : Nat} (hu : u = high * 4294967296 + mid) (hhi : high ≤ b1) (hm : mid < 4294967296) (hl : low < 4294967296) (hb : 2147483648 ≤ b1) (hb4 : b1 < 4294967296) :
    u / b1 * b1 + u % b1 = u ∧ u / b1 ≤ 4294967297 ∧ guessOf u low b1 b2 ≤ u / b1 ∧ u % b1 < 4294967296 := by
  refine ⟨by rw [Nat.mul_comm]; exact Nat.div_add_mod u b1, ?_, ?_, by have := Nat.mod_lt u (show 0 < b1 by omega); omega⟩
  · have : u / b1 < 4294967298 := by
      rw [Nat.div_lt_iff_lt_mul (by omega)]
      have : high * 4294967296 ≤ b1 * 4294967296 := Nat.mul_le_mul_right _ hhi
      omega
    omega
  · unfold guessOf
    refine Nat.le_trans (Nat.min_le_right 4294967295 _) ?_
    rw [Nat.le_div_iff_mul_le (by omega)]
    have h1 : (u * 4294967296 + low) / (b1 * 4294967296 + b2) * (b1 * 4294967296 + b2) ≤ u * 4294967296 + low := Nat.div_mul_le_self _ _
    generalize (u * 4294967296 + low) / (b1 * 4294967296 + b2) = Q at *
    rw [Nat.mul_add, ← Nat.mul_assoc] at h1
    have h2 : Q * b1 * 4294967296 < (u + 1) * 4294967296 := by rw [Nat.add_mul]; omega
    have := Nat.lt_of_mul_lt_mul_right h2
    omega

theorem prod_int (a b : Nat) (ha : a < 4294967296) (hb : b < 4294967296) : (0 : Int) ≤ (a : Int) * b ∧ (a : Int) * b ≤ 18446744065119617025 := by
  have := Nat.mul_le_mul (Nat.le_of_lt_succ ha) (Nat.le_of_lt_succ hb)
  rw [← Int.natCast_mul]
  omega

theorem vint_eq {k : IntKind} {a b : Int} (h : a = b) : Value.int k a = Value.int k b := by rw [h]
theorem ret_u64 {a b : Int} (h : a = b) : Ending.returned (.int .u64 a) = .returned (.int .u64 b) := by rw [h]

set_option maxRecDepth 100000 in
set_option maxHeartbeats 1000000 in
theorem natGuess (w : World) (high mid low b1 b2 : Nat) (hhi : high ≤ b1) (hm : mid < 4294967296) (hl : low < 4294967296) (hb : 2147483648 ≤ b1) (hb4 : b1 < 4294967296) (bb2 : b2 < 4294967296) :
    Calls Try.prog 116 #[.int .u32 high, .int .u32 mid, .int .u32 low, .int .u32 b1, .int .u32 b2] w fun e w' =>
      e = .returned (.int .u64 (guessOf (high * 4294967296 + mid) low b1 b2)) ∧ Below w.heap.size w w' := by
  obtain ⟨u, hu⟩ : ∃ u, u = high * 4294967296 + mid := ⟨_, rfl⟩
  rw [← hu]
  have HS := Lib.hid (guess_start (b2 := b2) hu hhi hm hl hb hb4)
  have HD := fun q r hq h1 h2 => @guess_down u high mid low b1 b2 q r hu hhi hm hq hb bb2 h1 h2
  have HD' := Lib.hid HD
  clear HD
  have h3 := or_hi_lo high mid (by omega) hm
  have hue : (high : Int) * 4294967296 + mid = (u : Int) := by omega
  have hub : u < 18446744073709551616 := by omega
  have hy0 : 1 ≤ b1 := by omega
  rw [hue] at h3
  clear hue hu
  obtain ⟨q0, hq0⟩ : ∃ q0, q0 = u / b1 := ⟨_, rfl⟩
  obtain ⟨r0, hr0⟩ : ∃ r0, r0 = u % b1 := ⟨_, rfl⟩
  have hS := HS.out
  rw [← hq0, ← hr0] at hS
  have hw : IntKind.u64.wrap ((u : Int) / b1) = (q0 : Int) := by
    rw [hq0, Int.natCast_ediv, IntKind.wrap_u64, ← Int.natCast_ediv]
    have := Nat.div_le_self u b1
    generalize u / b1 = qq at *
    omega
  have hw2 : (u : Int) % b1 = (r0 : Int) := by rw [hr0, Int.natCast_emod]
  have HS2 := Lib.hid hS
  clear hS HS hq0 hr0
  have HW := Lib.hid hw
  have HW2 := Lib.hid hw2
  have HLB := Lib.hid (fun q (h : 4294967296 ≤ q) => guess_lt_big (u := u) (low := low) (b1 := b1) (b2 := b2) h)
  have HLT := Lib.hid (fun q r (h1 : q * b1 + r = u) (h2 : r * 4294967296 + low < q * b2) => guess_lt h1 (by omega) h2)
  have HLE := Lib.hid (fun q r (h1 : q * b1 + r = u) (h2 : q < 4294967296) (h3 : q * b2 ≤ r * 4294967296 + low) => guess_le h1 (by omega) h2 h3)
  generalize hX : guessOf u low b1 b2 = X at *
  have HX := Lib.hid hX; clear hX
  go_enter Try.func116, Try.ntmps116
  go_wp2
  go_quiet (fail)
  go_wp2
  clear hw hw2 h3
  go_loop [12, 13] (fun a c => ∃ q r : Nat, a = .int .u64 q ∧ c = .int .u64 r ∧ Hid (q * b1 + r = u) ∧ r < 4294967296 ∧ q ≤ 4294967297 ∧ X ≤ q) (fun a _ => (intOf a).toNat)
  case atStart => exact ⟨q0, r0, rfl, vint_eq HW2.out, HS2.out.1, HS2.out.2.2.2, HS2.out.2.1, HS2.out.2.2.1⟩
  case round =>
    obtain ⟨q, r, rfl, rfl, hqr, hr, hq2, hXq⟩ := hrel
    have ho := or_hi_lo r low hr hl
    by_cases hbig : 4294967296 ≤ q
    · have hne : ((q : Int) / 4294967296 != 0) = true := by simp; omega
      have hlt := HLB.out q hbig
      obtain ⟨q', hqe, hq', hfin⟩ := HD'.out q r hqr.out hq2 hlt
      have HF := Lib.hid hfin
      have HQ := Lib.hid hq'
      have hq1 : 1 ≤ q := by omega
      have hq'' : q' = q - 1 := by omega
      subst hq''
      clear hfin hq' hqe
      by_cases hbrk : 4294967296 ≤ r + b1
      · have hne2 : (((r : Int) + b1) / 4294967296 != 0) = true := by simp; omega
        go_wp2
        go_ret
        exact ⟨ret_u64 (by have := HF.out hbrk; omega), below_drewN (Below.refl _ _) _⟩
      · have hne2 : (((r : Int) + b1) / 4294967296 != 0) = false := by simp; omega
        go_wp2
        go_round
        case rel => exact ⟨q - 1, r + b1, by go_num, by go_num, HQ, by omega, by omega, by omega⟩
        case measure => simp [intOf]; omega
    · have hne : ((q : Int) / 4294967296 != 0) = false := by simp; omega
      have hm1 := prod_int q b2 (by omega) bb2
      obtain ⟨hm0, hm1⟩ := hm1
      by_cases hgt : r * 4294967296 + low < q * b2
      · have hcmp : decide ((r : Int) * 4294967296 + low < (q : Int) * b2) = true := by rw [← Int.natCast_mul]; simp; omega
        have hlt := HLT.out q r hqr.out hgt
        obtain ⟨q', hqe, hq', hfin⟩ := HD'.out q r hqr.out hq2 hlt
        have HF := Lib.hid hfin
        have HQ := Lib.hid hq'
        have hq1 : 1 ≤ q := by omega
        have hq'' : q' = q - 1 := by omega
        subst hq''
        clear hfin hq' hqe
        by_cases hbrk : 4294967296 ≤ r + b1
        · have hne2 : (((r : Int) + b1) / 4294967296 != 0) = true := by simp; omega
          go_wp2
          go_ret
          exact ⟨ret_u64 (by have := HF.out hbrk; omega), below_drewN (Below.refl _ _) _⟩
        · have hne2 : (((r : Int) + b1) / 4294967296 != 0) = false := by simp; omega
          go_wp2
          go_round
          case rel => exact ⟨q - 1, r + b1, by go_num, by go_num, HQ, by omega, by omega, by omega⟩
          case measure => simp [intOf]; omega
      · have hcmp : decide ((r : Int) * 4294967296 + low < (q : Int) * b2) = false := by rw [← Int.natCast_mul]; simp; omega
        have hle := HLE.out q r hqr.out (by omega) (by omega)
        go_wp2
        go_ret
        exact ⟨ret_u64 (by omega), below_drewN (Below.refl _ _) _⟩

end Go.Proofs.Ytdojdghhbjjoeaa
