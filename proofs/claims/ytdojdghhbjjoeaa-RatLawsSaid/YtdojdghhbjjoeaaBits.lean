/- Contracts of math/bits.Sub32, Add32, Div32. Conditions: uint32 numbers; a borrow or carry of 0 or 1; a quotient that fits. -/
import Derived.Test.YtdojdghhbjjoeaaNat1
import Derived.BigQuiet
import Derived.Deep.QuietTactic
namespace Go.Proofs.Ytdojdghhbjjoeaa
open Go.RowKit

theorem borrow_nat (x y b : Nat) (hx : x < 4294967296) (hy : y < 4294967296) (hb : b ≤ 1) :
    (((4294967295 ^^^ x) &&& y) ||| ((4294967295 ^^^ (x ^^^ y)) &&& ((x + 4294967296 - y - b) % 4294967296))) / 2147483648 = if x < y + b then 1 else 0 := by
  have e : 2147483648 = 2 ^ 31 := by decide
  generalize hd : (x + 4294967296 - y - b) % 4294967296 = d
  have hd' : d < 4294967296 := by omega
  rw [e, Nat.or_div_two_pow, Nat.and_div_two_pow, Nat.and_div_two_pow, Nat.xor_div_two_pow, Nat.xor_div_two_pow, Nat.xor_div_two_pow, ← e]
  have e1 : (4294967295 : Nat) / 2147483648 = 1 := by decide
  rw [e1]
  have cx : x / 2147483648 = 0 ∨ x / 2147483648 = 1 := by omega
  have cy : y / 2147483648 = 0 ∨ y / 2147483648 = 1 := by omega
  have cd : d / 2147483648 = 0 ∨ d / 2147483648 = 1 := by omega
  rcases cx with h1 | h1 <;> rcases cy with h2 | h2 <;> rcases cd with h3 | h3 <;> rw [h1, h2, h3] <;> by_cases hlt : x < y + b <;> simp only [hlt, if_true, if_false] <;> first | decide | omega

theorem borrow_int (x y b : Nat) (hx : x < 4294967296) (hy : y < 4294967296) (hb : b ≤ 1) :
    bits .or .u32 (bits .and .u32 (bits .xor .u32 IntKind.u32.max (x : Int)) (y : Int)) (bits .and .u32 (bits .xor .u32 IntKind.u32.max (bits .xor .u32 (x : Int) (y : Int))) (((x : Int) - y - b) % 4294967296)) / 2147483648 = ((if x < y + b then 1 else 0 : Nat) : Int) := by
  have hm : IntKind.u32.max = ((4294967295 : Nat) : Int) := by decide
  have hd : ((x : Int) - y - b) % 4294967296 = (((x + 4294967296 - y - b) % 4294967296 : Nat) : Int) := by omega
  have hlt : (x + 4294967296 - y - b) % 4294967296 < 4294967296 := by omega
  have h1 : 4294967295 ^^^ x < 4294967296 := Nat.xor_lt_two_pow (n := 32) (by omega) hx
  have h2 : x ^^^ y < 4294967296 := Nat.xor_lt_two_pow (n := 32) hx hy
  have h3 : 4294967295 ^^^ (x ^^^ y) < 4294967296 := Nat.xor_lt_two_pow (n := 32) (by omega) h2
  have hb := borrow_nat x y b hx hy hb
  rw [hm, hd, u32_xor_nat _ _ (by omega) hx, u32_xor_nat _ _ hx hy, u32_xor_nat _ _ (by omega) h2, u32_and_nat _ _ h1 hy, u32_and_nat _ _ h3 hlt,
    u32_or_nat _ _ (Nat.and_lt_two_pow (n := 32) _ hy) (Nat.and_lt_two_pow (n := 32) _ hlt), ← hb]
  omega

theorem or_hi_lo (h l : Nat) (hh : h < 4294967296) (hl : l < 4294967296) : bits .or .u64 ((h : Int) * 4294967296) (l : Int) = (h : Int) * 4294967296 + l := by
  have e : (h : Int) * 4294967296 = ((h * 2 ^ 32 : Nat) : Int) := by simp
  rw [e, u64_or_nat _ _ (by omega) (by omega), ← Nat.shiftLeft_eq, ← Nat.shiftLeft_add_eq_or_of_lt (by omega), Nat.shiftLeft_eq]
  simp

theorem ret_ints {k1 k2 : IntKind} {a a' b b' : Int} (h1 : a = a') (h2 : b = b') : Ending.returned (.tuple #[.int k1 a, .int k2 b]) = .returned (.tuple #[.int k1 a', .int k2 b']) := by rw [h1, h2]

set_option maxHeartbeats 400000 in
theorem bitsSub32 (x y b : Nat) (w : World) (hx : x < 4294967296) (hy : y < 4294967296) (hb : b ≤ 1) :
    Calls Try.prog 104 #[.int .u32 x, .int .u32 y, .int .u32 b] w fun e w' => e = .returned (.tuple #[.int .u32 (((x + 4294967296 - y - b) % 4294967296 : Nat) : Int), .int .u32 ((if x < y + b then 1 else 0 : Nat) : Int)]) ∧ w = w' := by
  have H := Lib.hid (borrow_int x y b hx hy hb)
  generalize (if x < y + b then 1 else 0 : Nat) = bo at *
  have hs : IntKind.u32.signed = false := rfl
  go_enter Try.func104, Try.ntmps104
  go_wp2
  go_ret2
  rw [H.out]
  exact ⟨ret_ints (by omega) rfl, rfl⟩

theorem div_cast (hi lo y : Nat) (h : (hi * 4294967296 + lo) / y < 4294967296) : ((hi : Int) * 4294967296 + lo) / y % 4294967296 = (((hi * 4294967296 + lo) / y : Nat) : Int) := by
  have e : ((hi : Int) * 4294967296 + lo) = ((hi * 4294967296 + lo : Nat) : Int) := by omega
  rw [e, ← Int.natCast_ediv]
  generalize (hi * 4294967296 + lo) / y = q at *
  omega
theorem mod_cast' (hi lo y : Nat) (h : (hi * 4294967296 + lo) % y < 4294967296) : ((hi : Int) * 4294967296 + lo) % y % 4294967296 = (((hi * 4294967296 + lo) % y : Nat) : Int) := by
  have e : ((hi : Int) * 4294967296 + lo) = ((hi * 4294967296 + lo : Nat) : Int) := by omega
  rw [e, ← Int.natCast_emod]
  generalize (hi * 4294967296 + lo) % y = q at *
  omega

set_option maxHeartbeats 400000 in
theorem bitsDiv32 (hi lo y : Nat) (w : World) (hx : hi < y) (hl : lo < 4294967296) (hy : y < 4294967296) :
    Calls Try.prog 114 #[.int .u32 hi, .int .u32 lo, .int .u32 y] w fun e w' => e = .returned (.tuple #[.int .u32 (((hi * 4294967296 + lo) / y : Nat) : Int), .int .u32 (((hi * 4294967296 + lo) % y : Nat) : Int)]) ∧ Below w.heap.size w w' := by
  have h1 : ((y : Int) != 0) = true := by simp; omega
  have h2 : decide (y ≤ hi) = false := by simp; omega
  have h3 := or_hi_lo hi lo (by omega) hl
  have hd : (hi * 4294967296 + lo) / y < 4294967296 := by
    rw [Nat.div_lt_iff_lt_mul (by omega)]
    have : (hi + 1) * 4294967296 ≤ y * 4294967296 := Nat.mul_le_mul_right _ hx
    omega
  have hy0 : 1 ≤ y := by omega
  go_enter Try.func114, Try.ntmps114
  go_wp2
  go_quiet (fail)
  go_wp2
  go_ret2
  exact ⟨ret_ints (div_cast hi lo y hd) (mod_cast' hi lo y (Nat.lt_trans (Nat.mod_lt _ (by omega)) hy)), below_drewN (Below.refl _ _) _⟩
set_option maxHeartbeats 400000 in
theorem bitsAdd32 (x y b : Nat) (w : World) (hx : x < 4294967296) (hy : y < 4294967296) (hb : b ≤ 1) :
    Calls Try.prog 118 #[.int .u32 x, .int .u32 y, .int .u32 b] w fun e w' => e = .returned (.tuple #[.int .u32 (((x + y + b) % 4294967296 : Nat) : Int), .int .u32 (((x + y + b) / 4294967296 : Nat) : Int)]) ∧ w = w' := by
  go_enter Try.func118, Try.ntmps118
  go_wp2
  go_ret2
  exact ⟨ret_ints (by omega) (by omega), rfl⟩

end Go.Proofs.Ytdojdghhbjjoeaa
