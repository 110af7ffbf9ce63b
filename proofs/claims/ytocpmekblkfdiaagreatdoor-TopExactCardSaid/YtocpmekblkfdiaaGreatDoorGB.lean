/- Contract of nat.Mul: the product. Condition: at most 10^12 limbs each. Contract of nat.left: a number times two to a power below 32, in a row of so many limbs. Conditions: it fits; at most 2 * 10^12 limbs. Contracts of nat.Shift: times two to a power, and by it, rounded down. Conditions: powers to 4096; at most 10^12 limbs. -/
import Derived.Test.YtocpmekblkfdiaaGreatDoorGA
namespace Go.Proofs.YtocpmekblkfdiaaGreatDoor
open Go.RowKit
/-- the product's row behind i rounds -/
def MulOut (A C zs : List Nat) (i : Nat) : Prop :=
  zs.length = A.length + C.length ∧ (∀ x ∈ zs, x < 4294967296) ∧ (∀ j, i + C.length ≤ j → zs.getD j 0 = 0) ∧ val zs = val (A.take i) * val C
/-- the product's row inside round i, behind k limbs of the second number -/
def MulIn (A C zs : List Nat) (i k c : Nat) : Prop :=
  zs.length = A.length + C.length ∧ (∀ x ∈ zs, x < 4294967296) ∧ (∀ j, i + C.length ≤ j → zs.getD j 0 = 0) ∧ c < 4294967296 ∧
    val zs + 4294967296 ^ (i + k) * c = val (A.take i) * val C + 4294967296 ^ i * A.getD i 0 * val (C.take k)
theorem mulOut_zero (A C : List Nat) : MulOut A C (List.replicate (A.length + C.length) 0) 0 :=
  ⟨by simp, replicate_lt _, fun j _ => getD_replicate _ _, by simp [val_replicate, val]⟩
theorem mulIn_zero {A C zs : List Nat} {i : Nat} (h : MulOut A C zs i) : MulIn A C zs i 0 0 := by
  obtain ⟨h1, h2, h3, h4⟩ := h
  exact ⟨h1, h2, h3, by omega, by simp [val, h4]⟩
theorem mul_bd (a b : Nat) (ha : a < 4294967296) (hb : b < 4294967296) : a * b ≤ 18446744065119617025 := by
  have := Nat.mul_le_mul (Nat.le_of_lt_succ ha) (Nat.le_of_lt_succ hb)
  simpa using this
theorem mulIn_step {A C zs : List Nat} {i k c a b z : Nat} (h : MulIn A C zs i k c) (hi : i < A.length) (hk : k < C.length) (ha : A.getD i 0 = a) (hb : C.getD k 0 = b) (hz : zs.getD (i + k) 0 = z)
    (ba : a < 4294967296) (bb : b < 4294967296) (bz : z < 4294967296) : MulIn A C (zs.set (i + k) ((c + (a * b + z)) % 4294967296)) i (k + 1) ((c + (a * b + z)) / 4294967296) := by
  obtain ⟨h1, h2, h3, h4, h5⟩ := h
  have hm := mul_bd a b ba bb
  refine ⟨by simpa using h1, mem_set_lt h2 (by omega), fun j hj => ?_, by omega, ?_⟩
  · rw [getD_set_ne (by omega)]; exact h3 j hj
  · have hs := val_set_at (zs := zs) (k := i + k) (x := (c + (a * b + z)) % 4294967296) (by omega)
    rw [hz] at hs
    rw [val_take_any, hb, ha, Nat.mul_add, show i + (k + 1) = i + k + 1 from rfl, Nat.pow_succ]
    rw [ha] at h5
    have e0 : 4294967296 ^ i * a * (4294967296 ^ k * b) = 4294967296 ^ (i + k) * (a * b) := by
      rw [Nat.pow_add]; simp only [Nat.mul_assoc, Nat.mul_left_comm]
    rw [e0]
    generalize 4294967296 ^ (i + k) = p at *
    generalize hq : (c + (a * b + z)) / 4294967296 = q at *
    generalize hr : (c + (a * b + z)) % 4294967296 = r at *
    have key : c + (a * b + z) = r + 4294967296 * q := by omega
    have e2 : p * c + (p * (a * b) + p * z) = p * r + p * 4294967296 * q := by rw [← Nat.mul_add, ← Nat.mul_add, key, Nat.mul_add, Nat.mul_assoc]
    omega
theorem mulIn_end {A C zs : List Nat} {i c : Nat} (h : MulIn A C zs i C.length c) (hi : i < A.length) : MulOut A C (zs.set (i + C.length) c) (i + 1) := by
  obtain ⟨h1, h2, h3, h4, h5⟩ := h
  refine ⟨by simpa using h1, mem_set_lt h2 h4, fun j hj => ?_, ?_⟩
  · rw [getD_set_ne (by omega)]; exact h3 j (by omega)
  · rw [val_set (by omega) (h3 _ (Nat.le_refl _)), h5, List.take_length, val_take_last hi, Nat.add_mul]
theorem mulOut_end {A C zs : List Nat} (h : MulOut A C zs A.length) : val zs = val A * val C := by
  have := h.2.2.2
  rwa [List.take_length] at this
set_option maxRecDepth 100000 in
set_option maxHeartbeats 2000000 in
theorem natMul (w : World) (v1 v2 : Value) (xs ys : List Nat) (b1 b2 : Nat) (h1 : Nt b1 w v1 xs) (h2 : Nt b2 w v2 ys) (hL1 : xs.length ≤ 1000000000000) (hL2 : ys.length ≤ 1000000000000) :
    Calls Tryz.prog 67 #[v1, v2] w (RetNat (val xs * val ys) w) := by
  have h1' := h1
  have h2' := h2
  obtain ⟨ao1, c1, rfl, hc1, hx1, _, _⟩ := h1'
  obtain ⟨ao2, c2, rfl, hc2, hx2, _, _⟩ := h2'
  have l1 := limbs_len_val hx1
  have l2 := limbs_len_val hx2
  have t1 := h1.trim
  have t2 := h2.trim
  have G1 := Lib.hid (natTrim w ao1 xs.length c1 xs b1 _ h1 (by omega) rfl)
  have G2 := Lib.hid (natTrim w ao2 ys.length c2 ys b2 _ h2 (by omega) rfl)
  clear h1 h2 hx1 hx2
  generalize val xs = m at *
  generalize val ys = n at *
  generalize xs.length = n1 at *
  generalize ys.length = n2 at *
  have V1 := Lib.hid (val_limbs m)
  have V2 := Lib.hid (val_limbs n)
  have X1 := Lib.hid (limbs_lt m)
  have X2 := Lib.hid (limbs_lt n)
  have HR : ∀ base w v, Nt base w v (limbs (val (limbs m) * val (limbs n))) → Nt base w v (limbs (m * n)) := by intro base w v h; rwa [val_limbs, val_limbs] at h
  generalize limbs m = A at *
  generalize limbs n = C at *
  go_enter Tryz.func67, Tryz.ntmps67
  go_wp2_with (first | ((with_reducible refine G1.out.mono ?_); rintro e w1 ⟨rfl, rfl⟩) | ((with_reducible refine G2.out.mono ?_); rintro e w1 ⟨rfl, rfl⟩) | (refine wpList_make_row _ rfl _ _ 22 46 rfl Tryz.underlying22 Tryz.infoU32 (A.length + C.length) _ _ rfl rfl (by omega) (by omega) (by omega) ?_; intro w1 hR hB hsz))
  clear G1 G2
  generalize hg : w.heap.size = g at *
  have HG := Lib.hid hg; clear hg
  go_loopw [23] (fun i wr => ∃ (k : Nat) (zs : List Nat), k ≤ A.length ∧ i = .int .i64 k ∧ RowIs 46 wr g zs ∧ MulOut A C zs k ∧ Below g w wr ∧ g < wr.heap.size) (fun i _ => A.length - (intOf i).toNat)
  case atStart => exact ⟨0, _, Nat.zero_le _, rfl, hR, mulOut_zero A C, hB, hsz⟩
  case round =>
    obtain ⟨i, zs, hi, rfl, hRz, hinv, hBw, hgs⟩ := hrel
    by_cases hlt : i < A.length
    · obtain ⟨b, off, rfl, _, hb, hcD⟩ := t1.at_some hlt
      have hd : wr.cell? ⟨b, off + i, none⟩ = some (.int .u32 ((A.getD i 0 : Nat) : Int)) := by rw [hBw.cell (by have := HG.out; show b < g; omega)]; exact hcD i hlt
      have ba := getD_lt X1.out i
      clear hcD
      have hAi := Lib.hid (rfl : A.getD i 0 = A.getD i 0)
      have hin := mulIn_zero hinv
      clear hinv
      generalize hA : A.getD i 0 = a at *
      have HA := Lib.hid hA; clear hA hAi
      obtain ⟨wo, rfl⟩ : ∃ wo : World, wo = wr := ⟨_, rfl⟩
      go_wp2
      go_loopw [8, 30] (fun c j wr => ∃ (k cr : Nat) (zs : List Nat), k ≤ C.length ∧ j = .int .i64 k ∧ c = .int .u64 cr ∧ RowIs 46 wr g zs ∧ MulIn A C zs i k cr ∧ Below g w wr ∧ g < wr.heap.size) (fun _ j _ => C.length - (intOf j).toNat)
      case atStart => exact ⟨0, 0, zs, Nat.zero_le _, rfl, rfl, hRz, hin, hBw, hgs⟩
      case round =>
        clear hRz hin hBw hgs hd zs
        obtain ⟨k, cr, zs, hk, rfl, rfl, hRz, hin, hBw, hgs⟩ := hrel
        have hzl := Lib.hid hin.1
        have hcr : cr < 4294967296 := hin.2.2.2.1
        by_cases hlt2 : k < C.length
        · obtain ⟨b4, off4, rfl, _, hb4, hcC⟩ := t2.at_some hlt2
          have hd2 : wr.cell? ⟨b4, off4 + k, none⟩ = some (.int .u32 ((C.getD k 0 : Nat) : Int)) := by rw [hBw.cell (by have := HG.out; show b4 < g; omega)]; exact hcC k hlt2
          have bb := getD_lt X2.out k
          have hrow := hRz.cell (i := i + k) (by have := hin.1; omega)
          have bz := getD_lt hin.2.1 (i + k)
          have hfr := hRz.frozen (i + k)
          have hst := Lib.hid (mulIn_step hin hlt hlt2 HA.out rfl rfl ba bb bz)
          clear hcC hin
          generalize C.getD k 0 = b2 at *
          generalize zs.getD (i + k) 0 = z at *
          have hm := mul_bd a b2 ba bb
          have hm0 : (0 : Int) ≤ (a : Int) * b2 := by rw [← Int.natCast_mul]; omega
          have hm1 : (a : Int) * b2 ≤ 18446744065119617025 := by rw [← Int.natCast_mul]; omega
          go_wp2
          go_roundw
          case rel =>
            clear hm0 hm1
            exact ⟨k + 1, _, _, by omega, by go_num, int_eq (by rw [← Int.natCast_mul]; omega), hRz.storeI (i + k) _ _ (by rw [← Int.natCast_mul]; omega), hst.out, hBw.setCell (Nat.le_refl _) _, by simpa using hgs⟩
          case measure => simp [intOf]; omega
        · obtain rfl : k = C.length := by omega
          have hrow := hRz.cell (i := i + C.length) (by have := hin.1; omega)
          have hfr := hRz.frozen (i + C.length)
          have hst := Lib.hid (mulIn_end hin hlt)
          clear hin
          generalize zs.getD (i + C.length) 0 = z at *
          go_wp2
          go_roundw
          case rel => exact ⟨i + 1, _, by omega, by go_num, hRz.storeI (i + C.length) _ _ (by omega), hst.out, hBw.setCell (Nat.le_refl _) _, by simpa using hgs⟩
          case measure => simp [intOf]; omega
    · obtain rfl : i = A.length := by omega
      have HE := Lib.hid (mulOut_end hinv)
      have hnt := hRz.nt (n := A.length + C.length) (cap := A.length + C.length) hinv.1.symm (Nat.le_refl _) hinv.2.1
      clear hinv
      go_wp2_with (refine (natTrim _ _ _ _ _ g (val A * val C) hnt (by omega) HE.out).mono ?_; rintro e w' ⟨rfl, rfl⟩)
      have ht := HR _ _ _ (hnt.trimS HE.out)
      go_ret
      refine ⟨_, rfl, by rw [HG.out]; exact ht, by rw [HG.out]; exact hBw⟩
end Go.Proofs.YtocpmekblkfdiaaGreatDoor
namespace Go.Proofs.YtocpmekblkfdiaaGreatDoor
open Go.RowKit
theorem or_low (by_ v z : Nat) (hb : by_ < 32) (hz : z < 2 ^ by_) : z ||| (v * 2 ^ by_) % 4294967296 = z + (v * 2 ^ by_) % 4294967296 := by
  have e : (4294967296 : Nat) = 2 ^ (32 - by_) * 2 ^ by_ := by rw [← Nat.pow_add, show 32 - by_ + by_ = 32 from by omega]
  rw [e, Nat.mul_mod_mul_right, ← Nat.shiftLeft_eq, Nat.or_comm, ← Nat.shiftLeft_add_eq_or_of_lt hz, Nat.add_comm]
theorem mod_bound (by_ v z : Nat) (hb : by_ < 32) (hz : z < 2 ^ by_) : z + (v * 2 ^ by_) % 4294967296 < 4294967296 := by
  have e : (4294967296 : Nat) = 2 ^ (32 - by_) * 2 ^ by_ := by rw [← Nat.pow_add, show 32 - by_ + by_ = 32 from by omega]
  rw [e, Nat.mul_mod_mul_right]
  have h : v % 2 ^ (32 - by_) < 2 ^ (32 - by_) := Nat.mod_lt _ (Nat.two_pow_pos _)
  have h2 : (v % 2 ^ (32 - by_) + 1) * 2 ^ by_ ≤ 2 ^ (32 - by_) * 2 ^ by_ := Nat.mul_le_mul_right _ h
  rw [Nat.add_mul] at h2
  omega
theorem shl_hi (by_ v : Nat) (hv : v < 4294967296) : v * 2 ^ by_ / 4294967296 < 2 ^ by_ := by
  rw [Nat.div_lt_iff_lt_mul (by omega), Nat.mul_comm (2 ^ by_)]
  exact Nat.mul_lt_mul_of_pos_right hv (Nat.two_pow_pos _)
theorem shl_bd (by_ v : Nat) (hb : by_ < 32) (hv : v < 4294967296) : v * 2 ^ by_ < 9223372036854775808 := by
  have h1 : 2 ^ by_ ≤ 2 ^ 31 := Nat.pow_le_pow_right (by omega) (by omega)
  have h2 : v * 2 ^ by_ ≤ 4294967295 * 2 ^ 31 := Nat.mul_le_mul (by omega) h1
  have h3 : (4294967295 * 2 ^ 31 : Nat) < 9223372036854775808 := by decide
  omega
theorem shl_wrap (by_ v y : Nat) (hb : by_ < 32) (hv : v < 4294967296) (hy : y = v * 2 ^ by_) : IntKind.u64.wrap ((v : Int) * 2 ^ by_) = (y : Int) := by
  have h := shl_bd by_ v hb hv
  rw [← hy] at h
  have e : ((v : Int) * 2 ^ by_) = (y : Int) := by rw [hy]; simp
  rw [e, IntKind.wrap_u64]
  omega
theorem or_low_int (by_ v y z : Nat) (hb : by_ < 32) (hz : z < 2 ^ by_) (hy : y = v * 2 ^ by_) : bits .or .u32 (z : Int) ((y : Int) % 4294967296) = ((z + y % 4294967296 : Nat) : Int) := by
  subst hy
  have h1 : 2 ^ by_ ≤ 2 ^ 31 := Nat.pow_le_pow_right (by omega) (by omega)
  have h2 : (2 ^ 31 : Nat) = 2147483648 := by decide
  have e : (((v * 2 ^ by_ : Nat) : Int) % 4294967296) = ((v * 2 ^ by_ % 4294967296 : Nat) : Int) := by omega
  rw [e, u32_or_nat _ _ (by omega) (by omega), or_low by_ v z hb hz]
/-- the row behind k limbs: nothing is lost but what lies behind its end -/
def LeftInv (xs zs : List Nat) (by_ n k : Nat) : Prop :=
  zs.length = n ∧ (∀ x ∈ zs, x < 4294967296) ∧ (∀ j, k < j → zs.getD j 0 = 0) ∧ zs.getD k 0 < 2 ^ by_ ∧ ∃ d, val zs + 4294967296 ^ n * d = val (xs.take k) * 2 ^ by_ ∧ (k < n → d = 0)
theorem leftInv_zero (xs : List Nat) (by_ n : Nat) : LeftInv xs (List.replicate n 0) by_ n 0 :=
  ⟨by simp, replicate_lt _, fun j _ => getD_replicate _ _, by rw [getD_replicate]; exact Nat.two_pow_pos _, 0, by simp [val_replicate, val], fun _ => rfl⟩
/-- a step within the row -/
theorem leftInv_step {xs zs : List Nat} {by_ n k v z : Nat} (h : LeftInv xs zs by_ n k) (hb : by_ < 32) (hk : k < xs.length) (hkn : k + 1 < n) (hv : xs.getD k 0 = v) (bv : v < 4294967296) (hz : zs.getD k 0 = z) :
    LeftInv xs ((zs.set k (z + (v * 2 ^ by_) % 4294967296)).set (k + 1) (v * 2 ^ by_ / 4294967296)) by_ n (k + 1) := by
  obtain ⟨h1, h2, h3, h4, d, h5, h6⟩ := h
  obtain rfl := h6 (by omega)
  rw [hz] at h4
  have hm := mod_bound by_ v z hb h4
  have hh := shl_hi by_ v bv
  have hbd := shl_bd by_ v hb bv
  refine ⟨by simpa using h1, mem_set_lt (mem_set_lt h2 hm) (by omega), fun j hj => ?_, ?_, 0, ?_, fun _ => rfl⟩
  · rw [getD_set_ne (by omega), getD_set_ne (by omega)]; exact h3 j (by omega)
  · rw [getD_set_self (by simp; omega)]; exact hh
  · have e1 : (zs.set k (z + (v * 2 ^ by_) % 4294967296)).getD (k + 1) 0 = 0 := by rw [getD_set_ne (by omega)]; exact h3 _ (by omega)
    rw [val_set (by simp; omega) e1, Nat.mul_zero, Nat.add_zero]
    have e2 : val (zs.set k (z + (v * 2 ^ by_) % 4294967296)) = val zs + 4294967296 ^ k * ((v * 2 ^ by_) % 4294967296) := by
      have := val_set_at (zs := zs) (k := k) (x := z + (v * 2 ^ by_) % 4294967296) (by omega)
      rw [hz, Nat.mul_add] at this
      omega
    rw [e2, val_take_last hk, hv, Nat.add_mul, Nat.pow_succ]
    have e3 : 4294967296 ^ k * v * 2 ^ by_ = 4294967296 ^ k * ((v * 2 ^ by_) % 4294967296) + 4294967296 ^ k * 4294967296 * (v * 2 ^ by_ / 4294967296) := by
      rw [Nat.mul_assoc (4294967296 ^ k) 4294967296, ← Nat.mul_add, Nat.mul_assoc]
      congr 1
      omega
    omega
/-- the step at the row's last limb -/
theorem leftInv_last {xs zs : List Nat} {by_ n k v z : Nat} (h : LeftInv xs zs by_ n k) (hb : by_ < 32) (hk : k < xs.length) (hkn : k + 1 = n) (hv : xs.getD k 0 = v) (hz : zs.getD k 0 = z) :
    LeftInv xs (zs.set k (z + (v * 2 ^ by_) % 4294967296)) by_ n (k + 1) := by
  obtain ⟨h1, h2, h3, h4, d, h5, h6⟩ := h
  obtain rfl := h6 (by omega)
  rw [hz] at h4
  have hm := mod_bound by_ v z hb h4
  refine ⟨by simpa using h1, mem_set_lt h2 hm, fun j hj => ?_, ?_, v * 2 ^ by_ / 4294967296, ?_, fun h => by omega⟩
  · rw [getD_set_ne (by omega)]; exact h3 j (by omega)
  · rw [getD_of_len (by simp; omega)]; exact Nat.two_pow_pos _
  · have e2 : val (zs.set k (z + (v * 2 ^ by_) % 4294967296)) = val zs + 4294967296 ^ k * ((v * 2 ^ by_) % 4294967296) := by
      have := val_set_at (zs := zs) (k := k) (x := z + (v * 2 ^ by_) % 4294967296) (by omega)
      rw [hz, Nat.mul_add] at this
      omega
    rw [e2, val_take_last hk, hv, Nat.add_mul, ← hkn, Nat.pow_succ]
    have e3 : 4294967296 ^ k * v * 2 ^ by_ = 4294967296 ^ k * ((v * 2 ^ by_) % 4294967296) + 4294967296 ^ k * 4294967296 * (v * 2 ^ by_ / 4294967296) := by
      rw [Nat.mul_assoc (4294967296 ^ k) 4294967296, ← Nat.mul_add, Nat.mul_assoc]
      congr 1
      omega
    omega
theorem leftInv_end {xs zs : List Nat} {by_ n : Nat} (h : LeftInv xs zs by_ n xs.length) (hf : val xs * 2 ^ by_ < 4294967296 ^ n) : val zs = val xs * 2 ^ by_ := by
  obtain ⟨h1, h2, h3, h4, d, h5, h6⟩ := h
  rw [List.take_length] at h5
  rcases Nat.eq_zero_or_pos d with h | h
  · subst h; omega
  · have : 4294967296 ^ n * 1 ≤ 4294967296 ^ n * d := Nat.mul_le_mul_left _ h
    omega
/-- What nat.left answers: a row of n limbs at the head of the first new block. -/
def RetLeft (S n : Nat) (w : World) (e : Ending) (w' : World) : Prop :=
  ∃ zs, e = .returned (.slice (some ⟨w.heap.size, 0, none⟩) n n) ∧ RowIs 46 w' w.heap.size zs ∧ zs.length = n ∧ (∀ x ∈ zs, x < 4294967296) ∧ val zs = S ∧ Below w.heap.size w w' ∧ w.heap.size < w'.heap.size
set_option maxRecDepth 100000 in
set_option maxHeartbeats 1000000 in
theorem natLeft (w : World) (v : Value) (xs : List Nat) (base by_ n : Nat) (h : Nt base w v xs) (hb : by_ < 32) (hn1 : xs.length ≤ n) (hn2 : n ≤ xs.length + 1) (hL : xs.length ≤ 8000000000000) (hf : val xs * 2 ^ by_ < 4294967296 ^ n) :
    Calls Tryz.prog 179 #[v, .int .u64 by_, .int .i64 n] w (RetLeft (val xs * 2 ^ by_) n w) := by
  obtain ⟨ao, cap, rfl, hc⟩ := h.open
  have X := Lib.hid h.lt
  have HF := Lib.hid hf
  clear hf
  go_enter Tryz.func179, Tryz.ntmps179
  go_wp2_with (refine wpList_make_row _ rfl _ _ 22 46 rfl Tryz.underlying22 Tryz.infoU32 n _ _ rfl rfl (by omega) (by omega) (by omega) ?_; intro w1 hR hB hsz)
  generalize hg : w.heap.size = g at *
  have HG := Lib.hid hg; clear hg
  go_loopw [15] (fun i wr => ∃ (k : Nat) (zs : List Nat), k ≤ xs.length ∧ i = .int .i64 k ∧ RowIs 46 wr g zs ∧ LeftInv xs zs by_ n k ∧ Below g w wr ∧ g < wr.heap.size) (fun i _ => xs.length - (intOf i).toNat)
  case atStart => exact ⟨0, _, Nat.zero_le _, rfl, hR, leftInv_zero xs by_ n, hB, hsz⟩
  case round =>
    obtain ⟨k, zs, hk, rfl, hRz, hinv, hBw, hgs⟩ := hrel
    have hzl := Lib.hid hinv.1
    by_cases hlt : k < xs.length
    · obtain ⟨b, off, rfl, _, hb0, hcD⟩ := h.at_some hlt
      have hd : wr.cell? ⟨b, off + k, none⟩ = some (.int .u32 ((xs.getD k 0 : Nat) : Int)) := by rw [hBw.cell (by have := HG.out; show b < g; omega)]; exact hcD k hlt
      have bv := getD_lt X.out k
      have hrow := hRz.cell (i := k) (by have := hzl.out; omega)
      have hfr := hRz.frozen k
      have hz4 := hinv.2.2.2.1
      clear hcD
      by_cases hkn : k + 1 < n
      · have hst0 := leftInv_step hinv hb hlt hkn rfl bv rfl
        have hrow1 := hRz.cell (i := k + 1) (by have := hzl.out; omega)
        have hfr1 := hRz.frozen (k + 1)
        rw [hinv.2.2.1 (k + 1) (by omega)] at hrow1
        generalize xs.getD k 0 = x at *
        generalize zs.getD k 0 = z at *
        clear hinv
        obtain ⟨y, hy⟩ : ∃ y, y = x * 2 ^ by_ := ⟨_, rfl⟩
        have hw := shl_wrap by_ x y hb bv hy
        have ho := or_low_int by_ x y z hb hz4 hy
        have hyb := shl_bd by_ x hb bv
        rw [← hy] at hst0 hyb
        have hst := Lib.hid hst0
        clear hst0 hy
        go_wp2
        go_roundw
        case rel =>
          refine ⟨k + 1, _, by omega, by go_num, (hRz.storeI k _ _ rfl).storeI (k + 1) _ _ ?_, hst.out, (hBw.setCell (Nat.le_refl _) _).setCell (Nat.le_refl _) _, by simpa using hgs⟩
          clear hw ho
          omega
        case measure => simp [intOf]; omega
      · have hst0 := leftInv_last hinv hb hlt (by omega) rfl rfl
        generalize xs.getD k 0 = x at *
        generalize zs.getD k 0 = z at *
        clear hinv
        obtain ⟨y, hy⟩ : ∃ y, y = x * 2 ^ by_ := ⟨_, rfl⟩
        have hw := shl_wrap by_ x y hb bv hy
        have ho := or_low_int by_ x y z hb hz4 hy
        have hyb := shl_bd by_ x hb bv
        rw [← hy] at hst0 hyb
        have hst := Lib.hid hst0
        clear hst0 hy
        go_wp2
        go_roundw
        case rel =>
          exact ⟨k + 1, _, by omega, by go_num, hRz.storeI k _ _ rfl, hst.out, hBw.setCell (Nat.le_refl _) _, by simpa using hgs⟩
        case measure => simp [intOf]; omega
    · obtain rfl : k = xs.length := by omega
      have HE := Lib.hid (leftInv_end hinv HF.out)
      have hl := Lib.hid hinv.2.1
      clear hinv
      go_wp2
      go_ret
      exact ⟨zs, by rw [HG.out]; rfl, by rw [HG.out]; exact hRz, hzl.out, hl.out, HE.out, by rw [HG.out]; exact hBw, by rw [HG.out]; exact hgs⟩
theorem natLeftI (w : World) (v : Value) (xs : List Nat) (base by_ n : Nat) (B N : Int) (hB : B = (by_ : Int)) (hN : N = (n : Int)) (h : Nt base w v xs) (hb : by_ < 32) (hn1 : xs.length ≤ n) (hn2 : n ≤ xs.length + 1) (hL : xs.length ≤ 8000000000000) (hf : val xs * 2 ^ by_ < 4294967296 ^ n) :
    Calls Tryz.prog 179 #[v, .int .u64 B, .int .i64 N] w (RetLeft (val xs * 2 ^ by_) n w) := by
  subst hB hN
  exact natLeft w v xs base by_ n h hb hn1 hn2 hL hf
end Go.Proofs.YtocpmekblkfdiaaGreatDoor
namespace Go.Proofs.YtocpmekblkfdiaaGreatDoor
open Go.RowKit
/-- the row behind k limbs of a number by two to a power below 32 -/
def DownInv (T zs : List Nat) (by_ k : Nat) : Prop :=
  zs.length = T.length ∧ (∀ x ∈ zs, x < 4294967296) ∧ (∀ j, k ≤ j → zs.getD j 0 = 0) ∧ (0 < k → zs.getD (k - 1) 0 < 2 ^ (32 - by_)) ∧ val zs = val (T.take k) / 2 ^ by_
theorem downInv_zero (T : List Nat) (by_ : Nat) : DownInv T (List.replicate T.length 0) by_ 0 :=
  ⟨by simp, replicate_lt _, fun j _ => getD_replicate _ _, fun h => by omega, by simp [val_replicate, val]⟩
theorem pow_parts (by_ : Nat) (hb : by_ < 32) : 2 ^ by_ * 2 ^ (32 - by_) = 4294967296 := by
  rw [← Nat.pow_add, show by_ + (32 - by_) = 32 from by omega]
theorem shr_lt (by_ v : Nat) (hb : by_ < 32) (hv : v < 4294967296) : v / 2 ^ by_ < 2 ^ (32 - by_) := by
  rw [Nat.div_lt_iff_lt_mul (Nat.two_pow_pos _), Nat.mul_comm, pow_parts by_ hb]
  exact hv
theorem downInv_first {T zs : List Nat} {by_ v : Nat} (h : DownInv T zs by_ 0) (hb : by_ < 32) (hk : 0 < T.length) (hv : T.getD 0 0 = v) (bv : v < 4294967296) :
    DownInv T (zs.set 0 (v / 2 ^ by_)) by_ 1 := by
  obtain ⟨h1, h2, h3, h4, h5⟩ := h
  have hlt := shr_lt by_ v hb bv
  have hle := Nat.div_le_self v (2 ^ by_)
  refine ⟨by simpa using h1, mem_set_lt h2 (by omega), fun j hj => ?_, fun _ => ?_, ?_⟩
  · rw [getD_set_ne (by omega)]; exact h3 j (by omega)
  · rw [show (1 - 1 : Nat) = 0 from rfl, getD_set_self (by omega)]; exact hlt
  · rw [val_set (by omega) (h3 0 (Nat.le_refl _)), h5, val_take_last hk, hv]
    simp [val]
theorem downInv_step {T zs : List Nat} {by_ k v z : Nat} (h : DownInv T zs by_ (k + 1)) (hb : by_ < 32) (hk : k + 1 < T.length) (hv : T.getD (k + 1) 0 = v) (bv : v < 4294967296) (hz : zs.getD k 0 = z) :
    DownInv T ((zs.set (k + 1) (v / 2 ^ by_)).set k (z + (v * 2 ^ (32 - by_)) % 4294967296)) by_ (k + 2) := by
  obtain ⟨h1, h2, h3, h4, h5⟩ := h
  have hlt := shr_lt by_ v hb bv
  have hle := Nat.div_le_self v (2 ^ by_)
  have hzl : z < 2 ^ (32 - by_) := by have := h4 (by omega); rwa [show k + 1 - 1 = k from rfl, hz] at this
  have hpp := pow_parts by_ hb
  have hmod : (v * 2 ^ (32 - by_)) % 4294967296 = (v % 2 ^ by_) * 2 ^ (32 - by_) := by rw [← hpp, Nat.mul_mod_mul_right]
  have hzb : z + (v * 2 ^ (32 - by_)) % 4294967296 < 4294967296 := by
    rw [hmod]
    have : (v % 2 ^ by_ + 1) * 2 ^ (32 - by_) ≤ 2 ^ by_ * 2 ^ (32 - by_) := Nat.mul_le_mul_right _ (Nat.mod_lt _ (Nat.two_pow_pos _))
    rw [hpp, Nat.add_mul] at this
    omega
  refine ⟨by simpa using h1, mem_set_lt (mem_set_lt h2 (by omega)) hzb, fun j hj => ?_, fun _ => ?_, ?_⟩
  · rw [getD_set_ne (by omega), getD_set_ne (by omega)]; exact h3 j (by omega)
  · rw [show k + 2 - 1 = k + 1 from rfl, getD_set_ne (by omega), getD_set_self (by omega)]; exact hlt
  · have e1 := val_set_at (zs := zs.set (k + 1) (v / 2 ^ by_)) (k := k) (x := z + (v * 2 ^ (32 - by_)) % 4294967296) (by simp; omega)
    rw [getD_set_ne (by omega), hz, val_set (by omega) (h3 _ (Nat.le_refl _)), Nat.mul_add] at e1
    rw [val_take_last hk, hv]
    have e2 : val ((zs.set (k + 1) (v / 2 ^ by_)).set k (z + (v * 2 ^ (32 - by_)) % 4294967296)) = val zs + (4294967296 ^ (k + 1) * (v / 2 ^ by_) + 4294967296 ^ k * ((v * 2 ^ (32 - by_)) % 4294967296)) := by omega
    rw [e2, h5, hmod]
    have e3 : 4294967296 ^ (k + 1) * v = 2 ^ by_ * (4294967296 ^ (k + 1) * (v / 2 ^ by_) + 4294967296 ^ k * (v % 2 ^ by_ * 2 ^ (32 - by_))) := by
      have hd := Nat.div_add_mod v (2 ^ by_)
      generalize v / 2 ^ by_ = q at *
      generalize v % 2 ^ by_ = r at *
      generalize 2 ^ (32 - by_) = s at *
      generalize 2 ^ by_ = t at *
      rw [Nat.pow_succ, ← hd, ← hpp]
      generalize (t * s) ^ k = p at *
      simp only [Nat.mul_add, Nat.mul_left_comm, Nat.mul_comm]
    rw [e3, Nat.add_mul_div_left _ _ (Nat.two_pow_pos _)]
theorem downInv_end {T zs : List Nat} {by_ : Nat} (h : DownInv T zs by_ T.length) : val zs = val T / 2 ^ by_ := by
  have := h.2.2.2.2
  rwa [List.take_length] at this
theorem drop_val (m L by_ k : Nat) (hk : k = 32 * L + by_) (hL : L ≤ (limbs m).length) : val ((limbs m).drop L) / 2 ^ by_ = m / 2 ^ k := by
  have h := val_split (limbs m) L hL
  rw [val_limbs] at h
  have hlt : val ((limbs m).take L) < 4294967296 ^ L := by
    have := val_lt (xs := (limbs m).take L) (fun x hx => limbs_lt m x (List.mem_of_mem_take hx))
    rwa [List.length_take, Nat.min_eq_left hL] at this
  have e : (4294967296 : Nat) ^ L = 2 ^ (32 * L) := by rw [Nat.pow_mul]
  have hd : m / 2 ^ (32 * L) = val ((limbs m).drop L) := by
    conv => lhs; rw [h]
    rw [← e, Nat.add_mul_div_left _ _ (by rw [e]; exact Nat.two_pow_pos _), Nat.div_eq_of_lt hlt, Nat.zero_add]
  rw [hk, Nat.pow_add, ← Nat.div_div_eq_div_mul, hd]
theorem drop_none (m L by_ k : Nat) (hk : k = 32 * L + by_) (hL : (limbs m).length ≤ L) : m / 2 ^ k = 0 := by
  refine Nat.div_eq_of_lt ?_
  have h1 := lt_of_limbs_len hL
  have e : (4294967296 : Nat) ^ L = 2 ^ (32 * L) := by rw [Nat.pow_mul]
  rw [e] at h1
  exact Nat.lt_of_lt_of_le h1 (Nat.pow_le_pow_right (by omega) (by omega))
/-- the wide word of a limb, by two to a power -/
theorem wide_word (by_ v : Nat) (hb : by_ < 32) : v * 4294967296 / 2 ^ by_ = v * 2 ^ (32 - by_) := by
  rw [← pow_parts by_ hb, ← Nat.mul_assoc, Nat.mul_comm v, Nat.mul_assoc, Nat.mul_div_cancel_left _ (Nat.two_pow_pos _)]
theorem wide_hi (by_ v : Nat) (hb : by_ < 32) : v * 2 ^ (32 - by_) / 4294967296 = v / 2 ^ by_ := by
  rw [← pow_parts by_ hb, Nat.mul_div_mul_right _ _ (Nat.two_pow_pos _)]
theorem or_low2 (by_ v z : Nat) (hb : by_ < 32) (hz : z < 2 ^ (32 - by_)) : z ||| (v * 2 ^ (32 - by_)) % 4294967296 = z + (v * 2 ^ (32 - by_)) % 4294967296 := by
  rw [← pow_parts by_ hb, Nat.mul_mod_mul_right, ← Nat.shiftLeft_eq, Nat.or_comm, ← Nat.shiftLeft_add_eq_or_of_lt hz, Nat.add_comm]
theorem wide_int (by_ x y : Nat) (hb : by_ < 32) (hy : y = x * 2 ^ (32 - by_)) : (x : Int) * 4294967296 / 2 ^ by_ = (y : Int) := by
  have e : (x : Int) * 4294967296 / 2 ^ by_ = ((x * 4294967296 / 2 ^ by_ : Nat) : Int) := by simp
  rw [e, wide_word by_ x hb, ← hy]
theorem wide_bd (by_ x y : Nat) (hb : by_ < 32) (bx : x < 4294967296) (hy : y = x * 2 ^ (32 - by_)) : y < 18446744073709551616 := by
  have h1 : 2 ^ (32 - by_) ≤ 4294967296 := by rw [← pow_parts by_ hb]; exact Nat.le_mul_of_pos_left _ (Nat.two_pow_pos _)
  have h2 : x * 2 ^ (32 - by_) ≤ 4294967295 * 4294967296 := Nat.mul_le_mul (by omega) h1
  omega
theorem or_zero_int (by_ x y z : Nat) (hb : by_ < 32) (bx : x < 4294967296) (hy : y = x * 2 ^ (32 - by_)) (hz : z = x / 2 ^ by_) :
    bits .or .u32 0 ((y : Int) / 4294967296 % 4294967296) = (z : Int) := by
  have h1 := wide_hi by_ x hb
  rw [← hy, ← hz] at h1
  have h2 : z < 4294967296 := by rw [hz]; exact Nat.lt_of_le_of_lt (Nat.div_le_self _ _) bx
  have e : (y : Int) / 4294967296 % 4294967296 = (z : Int) := by omega
  rw [e]
  have := u32_or_nat 0 z (by omega) h2
  simpa using this
theorem or_low2_int (by_ x y z : Nat) (hb : by_ < 32) (hz : z < 2 ^ (32 - by_)) (hy : y = x * 2 ^ (32 - by_)) :
    bits .or .u32 (z : Int) ((y : Int) % 4294967296) = ((z + y % 4294967296 : Nat) : Int) := by
  subst hy
  have h1 : 2 ^ (32 - by_) ≤ 4294967296 := by rw [← pow_parts by_ hb]; exact Nat.le_mul_of_pos_left _ (Nat.two_pow_pos _)
  have e : (((x * 2 ^ (32 - by_) : Nat) : Int) % 4294967296) = ((x * 2 ^ (32 - by_) % 4294967296 : Nat) : Int) := by omega
  rw [e, u32_or_nat _ _ (by omega) (by omega), or_low2 by_ x z hb hz]
set_option maxRecDepth 100000 in
set_option maxHeartbeats 1000000 in
theorem natShiftDown (w : World) (v : Value) (xs : List Nat) (base k : Nat) (h : Nt base w v xs) (hk1 : 1 ≤ k) (hk2 : k ≤ 4096) (hL : xs.length ≤ 8000000000000) :
    Calls Tryz.prog 127 #[v, .int .i64 (-(k : Int))] w (RetNat (val xs / 2 ^ k) w) := by
  obtain ⟨ao, cap, rfl, hc⟩ := h.open
  have G1 := Lib.hid (natTrim w ao xs.length cap xs base _ h (by omega) rfl)
  have t1 := h.trim
  have l1 := limbs_len_val h.lt
  have h1 : (-4096 : Int) ≤ -(k : Int) := by omega
  obtain ⟨L, hLk⟩ : ∃ L, L = k / 32 := ⟨_, rfl⟩
  obtain ⟨by_, hby⟩ : ∃ b, b = k % 32 := ⟨_, rfl⟩
  have hkk : k = 32 * L + by_ := by omega
  have hb32 : by_ < 32 := by omega
  have e1 : (k : Int) / 32 = (L : Int) := by omega
  have e2 : (k : Int) % 32 = (by_ : Int) := by omega
  have HK := Lib.hid hkk
  have hLb : L ≤ 4096 := by omega
  clear hkk hLk hby h
  generalize hm : val xs = m at *
  clear hm
  have X1 := Lib.hid (limbs_lt m)
  by_cases hle : (limbs m).length ≤ L
  · have hr := Lib.hid (drop_none m L by_ k HK.out hle)
    generalize limbs m = A at *
    generalize xs.length = n1 at *
    go_enter Tryz.func127, Tryz.ntmps127
    go_wp2_with fail
    refine G1.out.mono ?_
    rintro e w1 ⟨rfl, rfl⟩
    go_wp2
    go_ret
    exact ⟨_, rfl, by rw [hr.out]; exact Nt.nil _ _, Below.refl _ _⟩
  · have hlt : L < (limbs m).length := by omega
    have HV := Lib.hid (drop_val m L by_ k HK.out (by omega))
    clear hle
    generalize limbs m = A at *
    generalize xs.length = n1 at *
    obtain ⟨b, off, rfl, _, hb, hcell⟩ := t1.at_some hlt
    have hcap := t1.len.2
    have TL := Lib.hid (List.length_drop (i := L) (l := A))
    have TG : ∀ j, (A.drop L).getD j 0 = A.getD (L + j) 0 := by intro j; simp only [List.getD_eq_getElem?_getD, List.getElem?_drop]
    have TG' := Lib.hid TG; clear TG
    have TX := Lib.hid (fun x (hx : x ∈ A.drop L) => X1.out x (List.mem_of_mem_drop hx))
    generalize A.drop L = T at *
    go_enter Tryz.func127, Tryz.ntmps127
    go_wp2_with fail
    refine G1.out.mono ?_
    rintro e w1 ⟨rfl, rfl⟩
    go_wp2_with (refine wpList_make_row _ rfl (.tmp 34) (.tmp 34) 22 46 rfl Tryz.underlying22 Tryz.infoU32 (A.length - L) _ _ rfl rfl (by omega) (by omega) (by omega) ?_; intro w1 hR hB hsz)
    generalize hg : w.heap.size = g at *
    have HG := Lib.hid hg; clear hg
    rw [show A.length - L = T.length from TL.out.symm] at hR
    go_loopw [40] (fun i wr => ∃ (j : Nat) (zs : List Nat), j ≤ A.length - L ∧ i = .int .i64 j ∧ RowIs 46 wr g zs ∧ DownInv T zs by_ j ∧ Below g w wr ∧ g < wr.heap.size) (fun i _ => (A.length - L) - (intOf i).toNat)
    case atStart => exact ⟨0, _, Nat.zero_le _, rfl, hR, downInv_zero T by_, hB, hsz⟩
    case round =>
      obtain ⟨j, zs, hj, rfl, hRz, hinv, hBw, hgs⟩ := hrel
      have hzl := Lib.hid hinv.1
      by_cases hjl : j < A.length - L
      · have hd : wr.cell? ⟨b, off + L + j, none⟩ = some (.int .u32 ((A.getD (L + j) 0 : Nat) : Int)) := by
          rw [hBw.cell (by have := HG.out; show b < g; omega), Nat.add_assoc]
          exact hcell (L + j) (by omega)
        have bv := getD_lt X1.out (L + j)
        have hrow := hRz.cell (i := j) (by have := hzl.out; have := TL.out; omega)
        rw [hinv.2.2.1 j (Nat.le_refl _)] at hrow
        have hfr := hRz.frozen j
        have htv : T.getD j 0 = A.getD (L + j) 0 := TG'.out j
        have hTl : j < T.length := by have := TL.out; omega
        generalize A.getD (L + j) 0 = x at *
        obtain ⟨y, hy⟩ : ∃ y, y = x * 2 ^ (32 - by_) := ⟨_, rfl⟩
        obtain ⟨z1, hz1⟩ : ∃ z, z = x / 2 ^ by_ := ⟨_, rfl⟩
        have hw := wide_int by_ x y hb32 hy
        have hyb := wide_bd by_ x y hb32 bv hy
        have ho1 := or_zero_int by_ x y z1 hb32 bv hy hz1
        have hym : (y : Int) / 4294967296 % 4294967296 = (y : Int) / 4294967296 := by omega
        rw [hym] at ho1
        clear hym
        by_cases hj0 : j = 0
        · subst hj0
          have hst := downInv_first hinv hb32 (by omega) htv bv
          rw [← hz1] at hst
          have HST := Lib.hid hst
          clear hst hinv hy hz1 htv
          rw [Nat.add_zero] at hd
          go_wp2
          go_roundw
          case rel => exact ⟨1, _, by omega, by go_num, hRz.storeI 0 _ _ rfl, HST.out, hBw.setCell (Nat.le_refl _) _, by simpa using hgs⟩
          case measure => simp [intOf]; omega
        · obtain ⟨i, rfl⟩ : ∃ i, j = i + 1 := ⟨j - 1, by omega⟩
          have hrow2 := hRz.cell (i := i) (by have := hzl.out; omega)
          have hfr2 := hRz.frozen i
          have hst := downInv_step hinv hb32 hTl htv bv rfl
          have hzb := hinv.2.2.2.1 (by omega)
          rw [show i + 1 - 1 = i from rfl] at hzb
          generalize zs.getD i 0 = z at *
          have ho2 := or_low2_int by_ x y z hb32 hzb hy
          rw [← hz1, ← hy] at hst
          have HST := Lib.hid hst
          clear hst hinv hy hz1 htv
          go_wp2
          go_roundw
          case rel => exact ⟨i + 2, _, by omega, by go_num, (hRz.storeI (i + 1) _ _ rfl).storeI i _ _ rfl, HST.out, (hBw.setCell (Nat.le_refl _) _).setCell (Nat.le_refl _) _, by simpa using hgs⟩
          case measure => simp [intOf]; omega
      · obtain rfl : j = A.length - L := by omega
        have hE := downInv_end (by have := TL.out; rw [this]; exact hinv)
        rw [HV.out] at hE
        have hnt := hRz.nt (n := A.length - L) (cap := A.length - L) (by have := TL.out; have := hzl.out; omega) (Nat.le_refl _) hinv.2.1
        have HE := Lib.hid hE
        clear hE hinv
        go_wp2_with (refine (natTrim _ _ _ _ _ g (m / 2 ^ k) hnt (by omega) HE.out).mono ?_; rintro e w' ⟨rfl, rfl⟩)
        have ht := hnt.trimS HE.out
        go_ret
        exact ⟨_, rfl, by rw [HG.out]; exact ht, by rw [HG.out]; exact hBw⟩
end Go.Proofs.YtocpmekblkfdiaaGreatDoor
