/- Contract of nat.left: a number times two to a power below 32, in a row of so many limbs. Conditions: it fits; at most 2 * 10^12 limbs. -/
import Derived.Test.YtdojdghhbjjoeaaCmp
namespace Go.Proofs.Ytdojdghhbjjoeaa
open Go.RowKit

theorem or_low (by_ v z : Nat) (hb : by_ < 32) (hz : z < 2 ^ by_) : z ||| (v * 2 ^ by_) % 4294967296 = z + (v * 2 ^ by_) % 4294967296 := by
  have e : (4294967296 : Nat) = 2 ^ (32 - by_) * 2 ^ by_ := by rw [← Nat.pow_add, show 32 - by_ + by_ = 32 from by omega]
  rw [e, Nat.mul_mod_mul_right, ← Nat.shiftLeft_eq, Nat.or_comm, ← Nat.shiftLeft_add_eq_or_of_lt hz, Nat.add_comm]

theorem mod_bound (by_ v z : Nat) (hb : by_ < 32) (hz : z < 2 ^ by_) : z + (v * 2 ^ by_) % 4294967296 < 4294967296 := by
  have e : (4294967296 : Nat) = 2 ^ (32 - by_) * 2 ^ by_ := by rw [← Nat.pow_add, show 32 - by_ + by_ = 32 from by omega]
  rw [e, Nat.mul_mod_mul_right]
  have h : v % 2 ^ (32 - by_) < 2 ^ (32 - by_) := Nat.mod_lt _ (Nat.two_pow_pos _)
  have h2 : (v % 2 ^ (32 - by_) + 1) * 2 ^ by_ ≤ 2 ^ (32 - by_) * 2 ^ by_ := Nat.mul_le_mul_right _ h
  rw [Nat.add_mul] at h2
  omega

theorem shl_hi (by_ v : Nat) (hv : v < 4294967296) : v * 2 ^ by_ / 4294967296 < 2 ^ by_ := by
  rw [Nat.div_lt_iff_lt_mul (by omega), Nat.mul_comm (2 ^ by_)]
  exact Nat.mul_lt_mul_of_pos_right hv (Nat.two_pow_pos _)

theorem shl_bd (by_ v : Nat) (hb : by_ < 32) (hv : v < 4294967296) : v * 2 ^ by_ < 9223372036854775808 := by
  have h1 : 2 ^ by_ ≤ 2 ^ 31 := Nat.pow_le_pow_right (by omega) (by omega)
  have h2 : v * 2 ^ by_ ≤ 4294967295 * 2 ^ 31 := Nat.mul_le_mul (by omega) h1
  have h3 : (4294967295 * 2 ^ 31 : Nat) < 9223372036854775808 := by decide
  omega

theorem shl_wrap (by_ v y : Nat) (hb : by_ < 32) (hv : v < 4294967296) (hy : y = v * 2 ^ by_) : IntKind.u64.wrap ((v : Int) * 2 ^ by_) = (y : Int) := by
  have h := shl_bd by_ v hb hv
  rw [← hy] at h
  have e : ((v : Int) * 2 ^ by_) = (y : Int) := by rw [hy]; simp
  rw [e, IntKind.wrap_u64]
  omega

theorem or_low_int (by_ v y z : Nat) (hb : by_ < 32) (hz : z < 2 ^ by_) (hy : y = v * 2 ^ by_) : bits .or .u32 (z : Int) ((y : Int) % 4294967296) = ((z + y % 4294967296 : Nat) : Int) := by
  subst hy
  have h1 : 2 ^ by_ ≤ 2 ^ 31 := Nat.pow_le_pow_right (by omega) (by omega)
  have h2 : (2 ^ 31 : Nat) = 2147483648 := by decide
  have e : (((v * 2 ^ by_ : Nat) : Int) % 4294967296) = ((v * 2 ^ by_ % 4294967296 : Nat) : Int) := by omega
  rw [e, u32_or_nat _ _ (by omega) (by omega), or_low by_ v z hb hz]

/-- the row behind k limbs: nothing is lost but what lies behind its end -/
def LeftInv (xs zs : List Nat) (by_ n k : Nat) : Prop :=
  zs.length = n ∧ (∀ x ∈ zs, x < 4294967296) ∧ (∀ j, k < j → zs.getD j 0 = 0) ∧ zs.getD k 0 < 2 ^ by_ ∧ ∃ d, val zs + 4294967296 ^ n * d = val (xs.take k) * 2 ^ by_ ∧ (k < n → d = 0)

theorem leftInv_zero (xs : List Nat) (by_ n : Nat) : LeftInv xs (List.replicate n 0) by_ n 0 :=
  ⟨by simp, replicate_lt _, fun j _ => getD_replicate _ _, by rw [getD_replicate]; exact Nat.two_pow_pos _, 0, by simp [val_replicate, val], fun _ => rfl⟩

/-- a step within the row -/
theorem leftInv_step {xs zs : List Nat} {by_ n k v z : Nat} (h : LeftInv xs zs by_ n k) (hb : by_ < 32) (hk : k < xs.length) (hkn : k + 1 < n) (hv : xs.getD k 0 = v) (bv : v < 4294967296) (hz : zs.getD k 0 = z) :
    LeftInv xs ((zs.set k (z + (v * 2 ^ by_) % 4294967296)).set (k + 1) (v * 2 ^ by_ / 4294967296)) by_ n (k + 1) := by
  obtain ⟨h1, h2, h3, h4, d, h5, h6⟩ := h
  obtain rfl := h6 (by omega)
  rw [hz] at h4
  have hm := mod_bound by_ v z hb h4
  have hh := shl_hi by_ v bv
  have hbd := shl_bd by_ v hb bv
  refine ⟨by simpa using h1, mem_set_lt (mem_set_lt h2 hm) (by omega), fun j hj => ?_, ?_, 0, ?_, fun _ => rfl⟩
  · rw [getD_set_ne (by omega), getD_set_ne (by omega)]; exact h3 j (by omega)
  · rw [getD_set_self (by simp; omega)]; exact hh
  · have e1 : (zs.set k (z + (v * 2 ^ by_) % 4294967296)).getD (k + 1) 0 = 0 := by rw [getD_set_ne (by omega)]; exact h3 _ (by omega)
    rw [val_set (by simp; omega) e1, Nat.mul_zero, Nat.add_zero]
    have e2 : val (zs.set k (z + (v * 2 ^ by_) % 4294967296)) = val zs + 4294967296 ^ k * ((v * 2 ^ by_) % 4294967296) := by
      have := val_set_at (zs := zs) (k := k) (x := z + (v * 2 ^ by_) % 4294967296) (by omega)
      rw [hz, Nat.mul_add] at this
      omega
    rw [e2, val_take_last hk, hv, Nat.add_mul, Nat.pow_succ]
    have e3 : 4294967296 ^ k * v * 2 ^ by_ = 4294967296 ^ k * ((v * 2 ^ by_) % 4294967296) + 4294967296 ^ k * 4294967296 * (v * 2 ^ by_ / 4294967296) := by
      rw [Nat.mul_assoc (4294967296 ^ k) 4294967296, ← Nat.mul_add, Nat.mul_assoc]
      congr 1
      omega
    omega

/-- the step at the row's last limb -/
theorem leftInv_last {xs zs : List Nat} {by_ n k v z : Nat} (h : LeftInv xs zs by_ n k) (hb : by_ < 32) (hk : k < xs.length) (hkn : k + 1 = n) (hv : xs.getD k 0 = v) (hz : zs.getD k 0 = z) :
    LeftInv xs (zs.set k (z + (v * 2 ^ by_) % 4294967296)) by_ n (k + 1) := by
  obtain ⟨h1, h2, h3, h4, d, h5, h6⟩ := h
  obtain rfl := h6 (by omega)
  rw [hz] at h4
  have hm := mod_bound by_ v z hb h4
  refine ⟨by simpa using h1, mem_set_lt h2 hm, fun j hj => ?_, ?_, v * 2 ^ by_ / 4294967296, ?_, fun h => by omega⟩
  · rw [getD_set_ne (by omega)]; exact h3 j (by omega)
  · rw [getD_of_len (by simp; omega)]; exact Nat.two_pow_pos _
  · have e2 : val (zs.set k (z + (v * 2 ^ by_) % 4294967296)) = val zs + 4294967296 ^ k * ((v * 2 ^ by_) % 4294967296) := by
      have := val_set_at (zs := zs) (k := k) (x := z + (v * 2 ^ by_) % 4294967296) (by omega)
      rw [hz, Nat.mul_add] at this
      omega
    rw [e2, val_take_last hk, hv, Nat.add_mul, ← hkn, Nat.pow_succ]
    have e3 : 4294967296 ^ k * v * 2 ^ by_ = 4294967296 ^ k * ((v * 2 ^ by_) % 4294967296) + 4294967296 ^ k * 4294967296 * (v * 2 ^ by_ / 4294967296) := by
      rw [Nat.mul_assoc (4294967296 ^ k) 4294967296, ← Nat.mul_add, Nat.mul_assoc]
      congr 1
      omega
    omega

theorem leftInv_end {xs zs : List Nat} {by_ n : Nat} (h : LeftInv xs zs by_ n xs.length) (hf : val xs * 2 ^ by_ < 4294967296 ^ n) : val zs = val xs * 2 ^ by_ := by
  obtain ⟨h1, h2, h3, h4, d, h5, h6⟩ := h
  rw [List.take_length] at h5
  rcases Nat.eq_zero_or_pos d with h | h
  · subst h; omega
  · have : 4294967296 ^ n * 1 ≤ 4294967296 ^ n * d := Nat.mul_le_mul_left _ h
    omega

/-- What nat.left answers: a row of n limbs at the head of the first new block. -/
def RetLeft (S n : Nat) (w : World) (e : Ending) (w' : World) : Prop :=
  ∃ zs, e = .returned (.slice (some ⟨w.heap.size, 0, none⟩) n n) ∧ RowIs 39 w' w.heap.size zs ∧ zs.length = n ∧ (∀ x ∈ zs, x < 4294967296) ∧ val zs = S ∧ Below w.heap.size w w' ∧ w.heap.size < w'.heap.size

set_option maxRecDepth 100000 in
set_option maxHeartbeats 1000000 in
theorem natLeft (w : World) (v : Value) (xs : List Nat) (base by_ n : Nat) (h : Nt base w v xs) (hb : by_ < 32) (hn1 : xs.length ≤ n) (hn2 : n ≤ xs.length + 1) (hL : xs.length ≤ 8000000000000) (hf : val xs * 2 ^ by_ < 4294967296 ^ n) :
    Calls Try.prog 110 #[v, .int .u64 by_, .int .i64 n] w (RetLeft (val xs * 2 ^ by_) n w) := by
  obtain ⟨ao, cap, rfl, hc⟩ := h.open
  have X := Lib.hid h.lt
  have HF := Lib.hid hf
  clear hf
  go_enter Try.func110, Try.ntmps110
  go_wp2_with (refine wpList_make_row _ rfl _ _ 22 39 rfl Try.underlying22 Try.infoU32 n _ _ rfl rfl (by omega) (by omega) (by omega) ?_; intro w1 hR hB hsz)
  generalize hg : w.heap.size = g at *
  have HG := Lib.hid hg; clear hg
  go_loopw [15] (fun i wr => ∃ (k : Nat) (zs : List Nat), k ≤ xs.length ∧ i = .int .i64 k ∧ RowIs 39 wr g zs ∧ LeftInv xs zs by_ n k ∧ Below g w wr ∧ g < wr.heap.size) (fun i _ => xs.length - (intOf i).toNat)
  case atStart => exact ⟨0, _, Nat.zero_le _, rfl, hR, leftInv_zero xs by_ n, hB, hsz⟩
  case round =>
    obtain ⟨k, zs, hk, rfl, hRz, hinv, hBw, hgs⟩ := hrel
    have hzl := Lib.hid hinv.1
    by_cases hlt : k < xs.length
    · obtain ⟨b, off, rfl, _, hb0, hcD⟩ := h.at_some hlt
      have hd : wr.cell? ⟨b, off + k, none⟩ = some (.int .u32 ((xs.getD k 0 : Nat) : Int)) := by rw [hBw.cell (by have := HG.out; show b < g; omega)]; exact hcD k hlt
      have bv := getD_lt X.out k
      have hrow := hRz.cell (i := k) (by have := hzl.out; omega)
      have hfr := hRz.frozen k
      have hz4 := hinv.2.2.2.1
      clear hcD
      by_cases hkn : k + 1 < n
      · have hst0 := leftInv_step hinv hb hlt hkn rfl bv rfl
        have hrow1 := hRz.cell (i := k + 1) (by have := hzl.out; omega)
        have hfr1 := hRz.frozen (k + 1)
        rw [hinv.2.2.1 (k + 1) (by omega)] at hrow1
        generalize xs.getD k 0 = x at *
        generalize zs.getD k 0 = z at *
        clear hinv
        obtain ⟨y, hy⟩ : ∃ y, y = x * 2 ^ by_ := ⟨_, rfl⟩
        have hw := shl_wrap by_ x y hb bv hy
        have ho := or_low_int by_ x y z hb hz4 hy
        have hyb := shl_bd by_ x hb bv
        rw [← hy] at hst0 hyb
        have hst := Lib.hid hst0
        clear hst0 hy
        go_wp2
        go_roundw
        case rel =>
          refine ⟨k + 1, _, by omega, by go_num, (hRz.storeI k _ _ rfl).storeI (k + 1) _ _ ?_, hst.out, (hBw.setCell (Nat.le_refl _) _).setCell (Nat.le_refl _) _, by simpa using hgs⟩
          clear hw ho
          omega
        case measure => simp [intOf]; omega
      · have hst0 := leftInv_last hinv hb hlt (by omega) rfl rfl
        generalize xs.getD k 0 = x at *
        generalize zs.getD k 0 = z at *
        clear hinv
        obtain ⟨y, hy⟩ : ∃ y, y = x * 2 ^ by_ := ⟨_, rfl⟩
        have hw := shl_wrap by_ x y hb bv hy
        have ho := or_low_int by_ x y z hb hz4 hy
        have hyb := shl_bd by_ x hb bv
        rw [← hy] at hst0 hyb
        have hst := Lib.hid hst0
        clear hst0 hy
        go_wp2
        go_roundw
        case rel =>
          exact ⟨k + 1, _, by omega, by go_num, hRz.storeI k _ _ rfl, hst.out, hBw.setCell (Nat.le_refl _) _, by simpa using hgs⟩
        case measure => simp [intOf]; omega
    · obtain rfl : k = xs.length := by omega
      have HE := Lib.hid (leftInv_end hinv HF.out)
      have hl := Lib.hid hinv.2.1
      clear hinv
      go_wp2
      go_ret
      exact ⟨zs, by rw [HG.out]; rfl, by rw [HG.out]; exact hRz, hzl.out, hl.out, HE.out, by rw [HG.out]; exact hBw, by rw [HG.out]; exact hgs⟩

theorem natLeftI (w : World) (v : Value) (xs : List Nat) (base by_ n : Nat) (B N : Int) (hB : B = (by_ : Int)) (hN : N = (n : Int)) (h : Nt base w v xs) (hb : by_ < 32) (hn1 : xs.length ≤ n) (hn2 : n ≤ xs.length + 1) (hL : xs.length ≤ 8000000000000) (hf : val xs * 2 ^ by_ < 4294967296 ^ n) :
    Calls Try.prog 110 #[v, .int .u64 B, .int .i64 N] w (RetLeft (val xs * 2 ^ by_) n w) := by
  subst hB hN
  exact natLeft w v xs base by_ n h hb hn1 hn2 hL hf

end Go.Proofs.Ytdojdghhbjjoeaa
