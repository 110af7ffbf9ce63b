/- Contract of nat.Mul: the product. Condition: at most 10^12 limbs each. -/
import Derived.Test.YtdojdghhbjjoeaaCmp
namespace Go.Proofs.Ytdojdghhbjjoeaa
open Go.RowKit

/-- the product's row behind i rounds -/
def MulOut (A C zs : List Nat) (i : Nat) : Prop :=
  zs.length = A.length + C.length ∧ (∀ x ∈ zs, x < 4294967296) ∧ (∀ j, i + C.length ≤ j → zs.getD j 0 = 0) ∧ val zs = val (A.take i) * val C

/-- the product's row inside round i, behind k limbs of the second number -/
def MulIn (A C zs : List Nat) (i k c : Nat) : Prop :=
  zs.length = A.length + C.length ∧ (∀ x ∈ zs, x < 4294967296) ∧ (∀ j, i + C.length ≤ j → zs.getD j 0 = 0) ∧ c < 4294967296 ∧
    val zs + 4294967296 ^ (i + k) * c = val (A.take i) * val C + 4294967296 ^ i * A.getD i 0 * val (C.take k)

theorem mulOut_zero (A C : List Nat) : MulOut A C (List.replicate (A.length + C.length) 0) 0 :=
  ⟨by simp, replicate_lt _, fun j _ => getD_replicate _ _, by simp [val_replicate, val]⟩

theorem mulIn_zero {A C zs : List Nat} {i : Nat} (h : MulOut A C zs i) : MulIn A C zs i 0 0 := by
  obtain ⟨h1, h2, h3, h4⟩ := h
  exact ⟨h1, h2, h3, by omega, by simp [val, h4]⟩

theorem mul_bd (a b : Nat) (ha : a < 4294967296) (hb : b < 4294967296) : a * b ≤ 18446744065119617025 := by
  have := Nat.mul_le_mul (Nat.le_of_lt_succ ha) (Nat.le_of_lt_succ hb)
  simpa using this

theorem mulIn_step {A C zs : List Nat} {i k c a b z : Nat} (h : MulIn A C zs i k c) (hi : i < A.length) (hk : k < C.length) (ha : A.getD i 0 = a) (hb : C.getD k 0 = b) (hz : zs.getD (i + k) 0 = z)
    (ba : a < 4294967296) (bb : b < 4294967296) (bz : z < 4294967296) : MulIn A C (zs.set (i + k) ((c + (a * b + z)) % 4294967296)) i (k + 1) ((c + (a * b + z)) / 4294967296) := by
  obtain ⟨h1, h2, h3, h4, h5⟩ := h
  have hm := mul_bd a b ba bb
  refine ⟨by simpa using h1, mem_set_lt h2 (by omega), fun j hj => ?_, by omega, ?_⟩
  · rw [getD_set_ne (by omega)]; exact h3 j hj
  · have hs := val_set_at (zs := zs) (k := i + k) (x := (c + (a * b + z)) % 4294967296) (by omega)
    rw [hz] at hs
    rw [val_take_any, hb, ha, Nat.mul_add, show i + (k + 1) = i + k + 1 from rfl, Nat.pow_succ]
    rw [ha] at h5
    have e0 : 4294967296 ^ i * a * (4294967296 ^ k * b) = 4294967296 ^ (i + k) * (a * b) := by
      rw [Nat.pow_add]; simp only [Nat.mul_assoc, Nat.mul_left_comm]
    rw [e0]
    generalize 4294967296 ^ (i + k) = p at *
    generalize hq : (c + (a * b + z)) / 4294967296 = q at *
    generalize hr : (c + (a * b + z)) % 4294967296 = r at *
    have key : c + (a * b + z) = r + 4294967296 * q := by omega
    have e2 : p * c + (p * (a * b) + p * z) = p * r + p * 4294967296 * q := by rw [← Nat.mul_add, ← Nat.mul_add, key, Nat.mul_add, Nat.mul_assoc]
    omega

theorem mulIn_end {A C zs : List Nat} {i c : Nat} (h : MulIn A C zs i C.length c) (hi : i < A.length) : MulOut A C (zs.set (i + C.length) c) (i + 1) := by
  obtain ⟨h1, h2, h3, h4, h5⟩ := h
  refine ⟨by simpa using h1, mem_set_lt h2 h4, fun j hj => ?_, ?_⟩
  · rw [getD_set_ne (by omega)]; exact h3 j (by omega)
  · rw [val_set (by omega) (h3 _ (Nat.le_refl _)), h5, List.take_length, val_take_last hi, Nat.add_mul]

theorem mulOut_end {A C zs : List Nat} (h : MulOut A C zs A.length) : val zs = val A * val C := by
  have := h.2.2.2
  rwa [List.take_length] at this

set_option maxRecDepth 100000 in
set_option maxHeartbeats 2000000 in
theorem natMul (w : World) (v1 v2 : Value) (xs ys : List Nat) (b1 b2 : Nat) (h1 : Nt b1 w v1 xs) (h2 : Nt b2 w v2 ys) (hL1 : xs.length ≤ 1000000000000) (hL2 : ys.length ≤ 1000000000000) :
    Calls Try.prog 69 #[v1, v2] w (RetNat (val xs * val ys) w) := by
  have h1' := h1
  have h2' := h2
  obtain ⟨ao1, c1, rfl, hc1, hx1, _, _⟩ := h1'
  obtain ⟨ao2, c2, rfl, hc2, hx2, _, _⟩ := h2'
  have l1 := limbs_len_val hx1
  have l2 := limbs_len_val hx2
  have t1 := h1.trim
  have t2 := h2.trim
  have G1 := Lib.hid (natTrim w ao1 xs.length c1 xs b1 _ h1 (by omega) rfl)
  have G2 := Lib.hid (natTrim w ao2 ys.length c2 ys b2 _ h2 (by omega) rfl)
  clear h1 h2 hx1 hx2
  generalize val xs = m at *
  generalize val ys = n at *
  generalize xs.length = n1 at *
  generalize ys.length = n2 at *
  have V1 := Lib.hid (val_limbs m)
  have V2 := Lib.hid (val_limbs n)
  have X1 := Lib.hid (limbs_lt m)
  have X2 := Lib.hid (limbs_lt n)
  have HR : ∀ base w v, Nt base w v (limbs (val (limbs m) * val (limbs n))) → Nt base w v (limbs (m * n)) := by intro base w v h; rwa [val_limbs, val_limbs] at h
  generalize limbs m = A at *
  generalize limbs n = C at *
  go_enter Try.func69, Try.ntmps69
  go_wp2_with (first | ((with_reducible refine G1.out.mono ?_); rintro e w1 ⟨rfl, rfl⟩) | ((with_reducible refine G2.out.mono ?_); rintro e w1 ⟨rfl, rfl⟩) | (refine wpList_make_row _ rfl _ _ 22 39 rfl Try.underlying22 Try.infoU32 (A.length + C.length) _ _ rfl rfl (by omega) (by omega) (by omega) ?_; intro w1 hR hB hsz))
  clear G1 G2
  generalize hg : w.heap.size = g at *
  have HG := Lib.hid hg; clear hg
  go_loopw [23] (fun i wr => ∃ (k : Nat) (zs : List Nat), k ≤ A.length ∧ i = .int .i64 k ∧ RowIs 39 wr g zs ∧ MulOut A C zs k ∧ Below g w wr ∧ g < wr.heap.size) (fun i _ => A.length - (intOf i).toNat)
  case atStart => exact ⟨0, _, Nat.zero_le _, rfl, hR, mulOut_zero A C, hB, hsz⟩
  case round =>
    obtain ⟨i, zs, hi, rfl, hRz, hinv, hBw, hgs⟩ := hrel
    by_cases hlt : i < A.length
    · obtain ⟨b, off, rfl, _, hb, hcD⟩ := t1.at_some hlt
      have hd : wr.cell? ⟨b, off + i, none⟩ = some (.int .u32 ((A.getD i 0 : Nat) : Int)) := by rw [hBw.cell (by have := HG.out; show b < g; omega)]; exact hcD i hlt
      have ba := getD_lt X1.out i
      clear hcD
      have hAi := Lib.hid (rfl : A.getD i 0 = A.getD i 0)
      have hin := mulIn_zero hinv
      clear hinv
      generalize hA : A.getD i 0 = a at *
      have HA := Lib.hid hA; clear hA hAi
      obtain ⟨wo, rfl⟩ : ∃ wo : World, wo = wr := ⟨_, rfl⟩
      go_wp2
      go_loopw [8, 30] (fun c j wr => ∃ (k cr : Nat) (zs : List Nat), k ≤ C.length ∧ j = .int .i64 k ∧ c = .int .u64 cr ∧ RowIs 39 wr g zs ∧ MulIn A C zs i k cr ∧ Below g w wr ∧ g < wr.heap.size) (fun _ j _ => C.length - (intOf j).toNat)
      case atStart => exact ⟨0, 0, zs, Nat.zero_le _, rfl, rfl, hRz, hin, hBw, hgs⟩
      case round =>
        clear hRz hin hBw hgs hd zs
        obtain ⟨k, cr, zs, hk, rfl, rfl, hRz, hin, hBw, hgs⟩ := hrel
        have hzl := Lib.hid hin.1
        have hcr : cr < 4294967296 := hin.2.2.2.1
        by_cases hlt2 : k < C.length
        · obtain ⟨b4, off4, rfl, _, hb4, hcC⟩ := t2.at_some hlt2
          have hd2 : wr.cell? ⟨b4, off4 + k, none⟩ = some (.int .u32 ((C.getD k 0 : Nat) : Int)) := by rw [hBw.cell (by have := HG.out; show b4 < g; omega)]; exact hcC k hlt2
          have bb := getD_lt X2.out k
          have hrow := hRz.cell (i := i + k) (by have := hin.1; omega)
          have bz := getD_lt hin.2.1 (i + k)
          have hfr := hRz.frozen (i + k)
          have hst := Lib.hid (mulIn_step hin hlt hlt2 HA.out rfl rfl ba bb bz)
          clear hcC hin
          generalize C.getD k 0 = b2 at *
          generalize zs.getD (i + k) 0 = z at *
          have hm := mul_bd a b2 ba bb
          have hm0 : (0 : Int) ≤ (a : Int) * b2 := by rw [← Int.natCast_mul]; omega
          have hm1 : (a : Int) * b2 ≤ 18446744065119617025 := by rw [← Int.natCast_mul]; omega
          go_wp2
          go_roundw
          case rel =>
            clear hm0 hm1
            exact ⟨k + 1, _, _, by omega, by go_num, int_eq (by rw [← Int.natCast_mul]; omega), hRz.storeI (i + k) _ _ (by rw [← Int.natCast_mul]; omega), hst.out, hBw.setCell (Nat.le_refl _) _, by simpa using hgs⟩
          case measure => simp [intOf]; omega
        · obtain rfl : k = C.length := by omega
          have hrow := hRz.cell (i := i + C.length) (by have := hin.1; omega)
          have hfr := hRz.frozen (i + C.length)
          have hst := Lib.hid (mulIn_end hin hlt)
          clear hin
          generalize zs.getD (i + C.length) 0 = z at *
          go_wp2
          go_roundw
          case rel => exact ⟨i + 1, _, by omega, by go_num, hRz.storeI (i + C.length) _ _ (by omega), hst.out, hBw.setCell (Nat.le_refl _) _, by simpa using hgs⟩
          case measure => simp [intOf]; omega
    · obtain rfl : i = A.length := by omega
      have HE := Lib.hid (mulOut_end hinv)
      have hnt := hRz.nt (n := A.length + C.length) (cap := A.length + C.length) hinv.1.symm (Nat.le_refl _) hinv.2.1
      clear hinv
      go_wp2_with (refine (natTrim _ _ _ _ _ g (val A * val C) hnt (by omega) HE.out).mono ?_; rintro e w' ⟨rfl, rfl⟩)
      have ht := HR _ _ _ (hnt.trimS HE.out)
      go_ret
      refine ⟨_, rfl, by rw [HG.out]; exact ht, by rw [HG.out]; exact hBw⟩

end Go.Proofs.Ytdojdghhbjjoeaa
