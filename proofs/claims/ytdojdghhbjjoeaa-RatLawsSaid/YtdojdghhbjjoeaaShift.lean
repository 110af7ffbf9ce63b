/- Contracts of nat.Shift: times two to a power, and by it, rounded down. Conditions: powers to 4096; at most 10^12 limbs. -/
import Derived.Test.YtdojdghhbjjoeaaLeft
namespace Go.Proofs.Ytdojdghhbjjoeaa
open Go.RowKit

/-- the row behind k limbs of a number by two to a power below 32 -/
def DownInv (T zs : List Nat) (by_ k : Nat) : Prop :=
  zs.length = T.length ∧ (∀ x ∈ zs, x < 4294967296) ∧ (∀ j, k ≤ j → zs.getD j 0 = 0) ∧ (0 < k → zs.getD (k - 1) 0 < 2 ^ (32 - by_)) ∧ val zs = val (T.take k) / 2 ^ by_

theorem downInv_zero (T : List Nat) (by_ : Nat) : DownInv T (List.replicate T.length 0) by_ 0 :=
  ⟨by simp, replicate_lt _, fun j _ => getD_replicate _ _, fun h => by omega, by simp [val_replicate, val]⟩

theorem pow_parts (by_ : Nat) (hb : by_ < 32) : 2 ^ by_ * 2 ^ (32 - by_) = 4294967296 := by
  rw [← Nat.pow_add, show by_ + (32 - by_) = 32 from by omega]

theorem shr_lt (by_ v : Nat) (hb : by_ < 32) (hv : v < 4294967296) : v / 2 ^ by_ < 2 ^ (32 - by_) := by
  rw [Nat.div_lt_iff_lt_mul (Nat.two_pow_pos _), Nat.mul_comm, pow_parts by_ hb]
  exact hv

theorem downInv_first {T zs : List Nat} {by_ v : Nat} (h : DownInv T zs by_ 0) (hb : by_ < 32) (hk : 0 < T.length) (hv : T.getD 0 0 = v) (bv : v < 4294967296) :
    DownInv T (zs.set 0 (v / 2 ^ by_)) by_ 1 := by
  obtain ⟨h1, h2, h3, h4, h5⟩ := h
  have hlt := shr_lt by_ v hb bv
  have hle := Nat.div_le_self v (2 ^ by_)
  refine ⟨by simpa using h1, mem_set_lt h2 (by omega), fun j hj => ?_, fun _ => ?_, ?_⟩
  · rw [getD_set_ne (by omega)]; exact h3 j (by omega)
  · rw [show (1 - 1 : Nat) = 0 from rfl, getD_set_self (by omega)]; exact hlt
  · rw [val_set (by omega) (h3 0 (Nat.le_refl _)), h5, val_take_last hk, hv]
    simp [val]

theorem downInv_step {T zs : List Nat} {by_ k v z : Nat} (h : DownInv T zs by_ (k + 1)) (hb : by_ < 32) (hk : k + 1 < T.length) (hv : T.getD (k + 1) 0 = v) (bv : v < 4294967296) (hz : zs.getD k 0 = z) :
    DownInv T ((zs.set (k + 1) (v / 2 ^ by_)).set k (z + (v * 2 ^ (32 - by_)) % 4294967296)) by_ (k + 2) := by
  obtain ⟨h1, h2, h3, h4, h5⟩ := h
  have hlt := shr_lt by_ v hb bv
  have hle := Nat.div_le_self v (2 ^ by_)
  have hzl : z < 2 ^ (32 - by_) := by have := h4 (by omega); rwa [show k + 1 - 1 = k from rfl, hz] at this
  have hpp := pow_parts by_ hb
  have hmod : (v * 2 ^ (32 - by_)) % 4294967296 = (v % 2 ^ by_) * 2 ^ (32 - by_) := by rw [← hpp, Nat.mul_mod_mul_right]
  have hzb : z + (v * 2 ^ (32 - by_)) % 4294967296 < 4294967296 := by
    rw [hmod]
    have : (v % 2 ^ by_ + 1) * 2 ^ (32 - by_) ≤ 2 ^ by_ * 2 ^ (32 - by_) := Nat.mul_le_mul_right _ (Nat.mod_lt _ (Nat.two_pow_pos _))
    rw [hpp, Nat.add_mul] at this
    omega
  refine ⟨by simpa using h1, mem_set_lt (mem_set_lt h2 (by omega)) hzb, fun j hj => ?_, fun _ => ?_, ?_⟩
  · rw [getD_set_ne (by omega), getD_set_ne (by omega)]; exact h3 j (by omega)
  · rw [show k + 2 - 1 = k + 1 from rfl, getD_set_ne (by omega), getD_set_self (by omega)]; exact hlt
  · have e1 := val_set_at (zs := zs.set (k + 1) (v / 2 ^ by_)) (k := k) (x := z + (v * 2 ^ (32 - by_)) % 4294967296) (by simp; omega)
    rw [getD_set_ne (by omega), hz, val_set (by omega) (h3 _ (Nat.le_refl _)), Nat.mul_add] at e1
    rw [val_take_last hk, hv]
    have e2 : val ((zs.set (k + 1) (v / 2 ^ by_)).set k (z + (v * 2 ^ (32 - by_)) % 4294967296)) = val zs + (4294967296 ^ (k + 1) * (v / 2 ^ by_) + 4294967296 ^ k * ((v * 2 ^ (32 - by_)) % 4294967296)) := by omega
    rw [e2, h5, hmod]
    have e3 : 4294967296 ^ (k + 1) * v = 2 ^ by_ * (4294967296 ^ (k + 1) * (v / 2 ^ by_) + 4294967296 ^ k * (v % 2 ^ by_ * 2 ^ (32 - by_))) := by
      have hd := Nat.div_add_mod v (2 ^ by_)
      generalize v / 2 ^ by_ = q at *
      generalize v % 2 ^ by_ = r at *
      generalize 2 ^ (32 - by_) = s at *
      generalize 2 ^ by_ = t at *
      rw [Nat.pow_succ, ← hd, ← hpp]
      generalize (t * s) ^ k = p at *
      simp only [Nat.mul_add, Nat.mul_left_comm, Nat.mul_comm]
    rw [e3, Nat.add_mul_div_left _ _ (Nat.two_pow_pos _)]

theorem downInv_end {T zs : List Nat} {by_ : Nat} (h : DownInv T zs by_ T.length) : val zs = val T / 2 ^ by_ := by
  have := h.2.2.2.2
  rwa [List.take_length] at this

theorem drop_val (m L by_ k : Nat) (hk : k = 32 * L + by_) (hL : L ≤ (limbs m).length) : val ((limbs m).drop L) / 2 ^ by_ = m / 2 ^ k := by
  have h := val_split (limbs m) L hL
  rw [val_limbs] at h
  have hlt : val ((limbs m).take L) < 4294967296 ^ L := by
    have := val_lt (xs := (limbs m).take L) (fun x hx => limbs_lt m x (List.mem_of_mem_take hx))
    rwa [List.length_take, Nat.min_eq_left hL] at this
  have e : (4294967296 : Nat) ^ L = 2 ^ (32 * L) := by rw [Nat.pow_mul]
  have hd : m / 2 ^ (32 * L) = val ((limbs m).drop L) := by
    conv => lhs; rw [h]
    rw [← e, Nat.add_mul_div_left _ _ (by rw [e]; exact Nat.two_pow_pos _), Nat.div_eq_of_lt hlt, Nat.zero_add]
  rw [hk, Nat.pow_add, ← Nat.div_div_eq_div_mul, hd]

theorem drop_none (m L by_ k : Nat) (hk : k = 32 * L + by_) (hL : (limbs m).length ≤ L) : m / 2 ^ k = 0 := by
  refine Nat.div_eq_of_lt ?_
  have h1 := lt_of_limbs_len hL
  have e : (4294967296 : Nat) ^ L = 2 ^ (32 * L) := by rw [Nat.pow_mul]
  rw [e] at h1
  exact Nat.lt_of_lt_of_le h1 (Nat.pow_le_pow_right (by omega) (by omega))

/-- the wide word of a limb, by two to a power -/
theorem wide_word (by_ v : Nat) (hb : by_ < 32) : v * 4294967296 / 2 ^ by_ = v * 2 ^ (32 - by_) := by
  rw [← pow_parts by_ hb, ← Nat.mul_assoc, Nat.mul_comm v, Nat.mul_assoc, Nat.mul_div_cancel_left _ (Nat.two_pow_pos _)]

theorem wide_hi (by_ v : Nat) (hb : by_ < 32) : v * 2 ^ (32 - by_) / 4294967296 = v / 2 ^ by_ := by
  rw [← pow_parts by_ hb, Nat.mul_div_mul_right _ _ (Nat.two_pow_pos _)]

theorem or_low2 (by_ v z : Nat) (hb : by_ < 32) (hz : z < 2 ^ (32 - by_)) : z ||| (v * 2 ^ (32 - by_)) % 4294967296 = z + (v * 2 ^ (32 - by_)) % 4294967296 := by
  rw [← pow_parts by_ hb, Nat.mul_mod_mul_right, ← Nat.shiftLeft_eq, Nat.or_comm, ← Nat.shiftLeft_add_eq_or_of_lt hz, Nat.add_comm]

theorem wide_int (by_ x y : Nat) (hb : by_ < 32) (hy : y = x * 2 ^ (32 - by_)) : (x : Int) * 4294967296 / 2 ^ by_ = (y : Int) := by
  have e : (x : Int) * 4294967296 / 2 ^ by_ = ((x * 4294967296 / 2 ^ by_ : Nat) : Int) := by simp
  rw [e, wide_word by_ x hb, ← hy]

theorem wide_bd (by_ x y : Nat) (hb : by_ < 32) (bx : x < 4294967296) (hy : y = x * 2 ^ (32 - by_)) : y < 18446744073709551616 := by
  have h1 : 2 ^ (32 - by_) ≤ 4294967296 := by rw [← pow_parts by_ hb]; exact Nat.le_mul_of_pos_left _ (Nat.two_pow_pos _)
  have h2 : x * 2 ^ (32 - by_) ≤ 4294967295 * 4294967296 := Nat.mul_le_mul (by omega) h1
  omega

theorem or_zero_int (by_ x y z : Nat) (hb : by_ < 32) (bx : x < 4294967296) (hy : y = x * 2 ^ (32 - by_)) (hz : z = x / 2 ^ by_) :
    bits .or .u32 0 ((y : Int) / 4294967296 % 4294967296) = (z : Int) := by
  have h1 := wide_hi by_ x hb
  rw [← hy, ← hz] at h1
  have h2 : z < 4294967296 := by rw [hz]; exact Nat.lt_of_le_of_lt (Nat.div_le_self _ _) bx
  have e : (y : Int) / 4294967296 % 4294967296 = (z : Int) := by omega
  rw [e]
  have := u32_or_nat 0 z (by omega) h2
  simpa using this

theorem or_low2_int (by_ x y z : Nat) (hb : by_ < 32) (hz : z < 2 ^ (32 - by_)) (hy : y = x * 2 ^ (32 - by_)) :
    bits .or .u32 (z : Int) ((y : Int) % 4294967296) = ((z + y % 4294967296 : Nat) : Int) := by
  subst hy
  have h1 : 2 ^ (32 - by_) ≤ 4294967296 := by rw [← pow_parts by_ hb]; exact Nat.le_mul_of_pos_left _ (Nat.two_pow_pos _)
  have e : (((x * 2 ^ (32 - by_) : Nat) : Int) % 4294967296) = ((x * 2 ^ (32 - by_) % 4294967296 : Nat) : Int) := by omega
  rw [e, u32_or_nat _ _ (by omega) (by omega), or_low2 by_ x z hb hz]

set_option maxRecDepth 100000 in
set_option maxHeartbeats 1000000 in
theorem natShiftDown (w : World) (v : Value) (xs : List Nat) (base k : Nat) (h : Nt base w v xs) (hk1 : 1 ≤ k) (hk2 : k ≤ 4096) (hL : xs.length ≤ 8000000000000) :
    Calls Try.prog 79 #[v, .int .i64 (-(k : Int))] w (RetNat (val xs / 2 ^ k) w) := by
  obtain ⟨ao, cap, rfl, hc⟩ := h.open
  have G1 := Lib.hid (natTrim w ao xs.length cap xs base _ h (by omega) rfl)
  have t1 := h.trim
  have l1 := limbs_len_val h.lt
  have h1 : (-4096 : Int) ≤ -(k : Int) := by omega
  obtain ⟨L, hLk⟩ : ∃ L, L = k / 32 := ⟨_, rfl⟩
  obtain ⟨by_, hby⟩ : ∃ b, b = k % 32 := ⟨_, rfl⟩
  have hkk : k = 32 * L + by_ := by omega
  have hb32 : by_ < 32 := by omega
  have e1 : (k : Int) / 32 = (L : Int) := by omega
  have e2 : (k : Int) % 32 = (by_ : Int) := by omega
  have HK := Lib.hid hkk
  have hLb : L ≤ 4096 := by omega
  clear hkk hLk hby h
  generalize hm : val xs = m at *
  clear hm
  have X1 := Lib.hid (limbs_lt m)
  by_cases hle : (limbs m).length ≤ L
  · have hr := Lib.hid (drop_none m L by_ k HK.out hle)
    generalize limbs m = A at *
    generalize xs.length = n1 at *
    go_enter Try.func79, Try.ntmps79
    go_wp2_with fail
    refine G1.out.mono ?_
    rintro e w1 ⟨rfl, rfl⟩
    go_wp2
    go_ret
    exact ⟨_, rfl, by rw [hr.out]; exact Nt.nil _ _, Below.refl _ _⟩
  · have hlt : L < (limbs m).length := by omega
    have HV := Lib.hid (drop_val m L by_ k HK.out (by omega))
    clear hle
    generalize limbs m = A at *
    generalize xs.length = n1 at *
    obtain ⟨b, off, rfl, _, hb, hcell⟩ := t1.at_some hlt
    have hcap := t1.len.2
    have TL := Lib.hid (List.length_drop (i := L) (l := A))
    have TG : ∀ j, (A.drop L).getD j 0 = A.getD (L + j) 0 := by intro j; simp only [List.getD_eq_getElem?_getD, List.getElem?_drop]
    have TG' := Lib.hid TG; clear TG
    have TX := Lib.hid (fun x (hx : x ∈ A.drop L) => X1.out x (List.mem_of_mem_drop hx))
    generalize A.drop L = T at *
    go_enter Try.func79, Try.ntmps79
    go_wp2_with fail
    refine G1.out.mono ?_
    rintro e w1 ⟨rfl, rfl⟩
    go_wp2_with (refine wpList_make_row _ rfl (.tmp 34) (.tmp 34) 22 39 rfl Try.underlying22 Try.infoU32 (A.length - L) _ _ rfl rfl (by omega) (by omega) (by omega) ?_; intro w1 hR hB hsz)
    generalize hg : w.heap.size = g at *
    have HG := Lib.hid hg; clear hg
    rw [show A.length - L = T.length from TL.out.symm] at hR
    go_loopw [40] (fun i wr => ∃ (j : Nat) (zs : List Nat), j ≤ A.length - L ∧ i = .int .i64 j ∧ RowIs 39 wr g zs ∧ DownInv T zs by_ j ∧ Below g w wr ∧ g < wr.heap.size) (fun i _ => (A.length - L) - (intOf i).toNat)
    case atStart => exact ⟨0, _, Nat.zero_le _, rfl, hR, downInv_zero T by_, hB, hsz⟩
    case round =>
      obtain ⟨j, zs, hj, rfl, hRz, hinv, hBw, hgs⟩ := hrel
      have hzl := Lib.hid hinv.1
      by_cases hjl : j < A.length - L
      · have hd : wr.cell? ⟨b, off + L + j, none⟩ = some (.int .u32 ((A.getD (L + j) 0 : Nat) : Int)) := by
          rw [hBw.cell (by have := HG.out; show b < g; omega), Nat.add_assoc]
          exact hcell (L + j) (by omega)
        have bv := getD_lt X1.out (L + j)
        have hrow := hRz.cell (i := j) (by have := hzl.out; have := TL.out; omega)
        rw [hinv.2.2.1 j (Nat.le_refl _)] at hrow
        have hfr := hRz.frozen j
        have htv : T.getD j 0 = A.getD (L + j) 0 := TG'.out j
        have hTl : j < T.length := by have := TL.out; omega
        generalize A.getD (L + j) 0 = x at *
        obtain ⟨y, hy⟩ : ∃ y, y = x * 2 ^ (32 - by_) := ⟨_, rfl⟩
        obtain ⟨z1, hz1⟩ : ∃ z, z = x / 2 ^ by_ := ⟨_, rfl⟩
        have hw := wide_int by_ x y hb32 hy
        have hyb := wide_bd by_ x y hb32 bv hy
        have ho1 := or_zero_int by_ x y z1 hb32 bv hy hz1
        have hym : (y : Int) / 4294967296 % 4294967296 = (y : Int) / 4294967296 := by omega
        rw [hym] at ho1
        clear hym
        by_cases hj0 : j = 0
        · subst hj0
          have hst := downInv_first hinv hb32 (by omega) htv bv
          rw [← hz1] at hst
          have HST := Lib.hid hst
          clear hst hinv hy hz1 htv
          rw [Nat.add_zero] at hd
          go_wp2
          go_roundw
          case rel => exact ⟨1, _, by omega, by go_num, hRz.storeI 0 _ _ rfl, HST.out, hBw.setCell (Nat.le_refl _) _, by simpa using hgs⟩
          case measure => simp [intOf]; omega
        · obtain ⟨i, rfl⟩ : ∃ i, j = i + 1 := ⟨j - 1, by omega⟩
          have hrow2 := hRz.cell (i := i) (by have := hzl.out; omega)
          have hfr2 := hRz.frozen i
          have hst := downInv_step hinv hb32 hTl htv bv rfl
          have hzb := hinv.2.2.2.1 (by omega)
          rw [show i + 1 - 1 = i from rfl] at hzb
          generalize zs.getD i 0 = z at *
          have ho2 := or_low2_int by_ x y z hb32 hzb hy
          rw [← hz1, ← hy] at hst
          have HST := Lib.hid hst
          clear hst hinv hy hz1 htv
          go_wp2
          go_roundw
          case rel => exact ⟨i + 2, _, by omega, by go_num, (hRz.storeI (i + 1) _ _ rfl).storeI i _ _ rfl, HST.out, (hBw.setCell (Nat.le_refl _) _).setCell (Nat.le_refl _) _, by simpa using hgs⟩
          case measure => simp [intOf]; omega
      · obtain rfl : j = A.length - L := by omega
        have hE := downInv_end (by have := TL.out; rw [this]; exact hinv)
        rw [HV.out] at hE
        have hnt := hRz.nt (n := A.length - L) (cap := A.length - L) (by have := TL.out; have := hzl.out; omega) (Nat.le_refl _) hinv.2.1
        have HE := Lib.hid hE
        clear hE hinv
        go_wp2_with (refine (natTrim _ _ _ _ _ g (m / 2 ^ k) hnt (by omega) HE.out).mono ?_; rintro e w' ⟨rfl, rfl⟩)
        have ht := hnt.trimS HE.out
        go_ret
        exact ⟨_, rfl, by rw [HG.out]; exact ht, by rw [HG.out]; exact hBw⟩

end Go.Proofs.Ytdojdghhbjjoeaa
