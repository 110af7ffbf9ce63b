/- Contracts of math/bits.Sub32, Add32, Div32. Conditions: uint32 numbers; a borrow or carry of 0 or 1; a quotient that fits. Contract of nat.Sub: the difference, or that it is below 0. Condition: at most 10^12 limbs each. Contract of nat.small: a number by one limb, and what is left. Conditions: the limb is not 0; at most 10^12 limbs. Contract of nat.guess: how often two limbs are in three, at most the greatest limb. Conditions: the divisor's first limb has its highest bit; the first of the three is not above it. Contract of nat.takes: a divisor taken away so often from a piece of a row, given back once if that was too often. Conditions: at most one time too often; at most 10^12 limbs. -/
import Derived.Test.YtocpmekblkfdiaaGreatDoorGA
import Derived.BigQuiet
import Derived.Deep.QuietTactic
namespace Go.Proofs.YtocpmekblkfdiaaGreatDoor
open Go.RowKit
theorem borrow_nat (x y b : Nat) (hx : x < 4294967296) (hy : y < 4294967296) (hb : b ≤ 1) :
    (((4294967295 ^^^ x) &&& y) ||| ((4294967295 ^^^ (x ^^^ y)) &&& ((x + 4294967296 - y - b) % 4294967296))) / 2147483648 = if x < y + b then 1 else 0 := by
  have e : 2147483648 = 2 ^ 31 := by decide
  generalize hd : (x + 4294967296 - y - b) % 4294967296 = d
  have hd' : d < 4294967296 := by omega
  rw [e, Nat.or_div_two_pow, Nat.and_div_two_pow, Nat.and_div_two_pow, Nat.xor_div_two_pow, Nat.xor_div_two_pow, Nat.xor_div_two_pow, ← e]
  have e1 : (4294967295 : Nat) / 2147483648 = 1 := by decide
  rw [e1]
  have cx : x / 2147483648 = 0 ∨ x / 2147483648 = 1 := by omega
  have cy : y / 2147483648 = 0 ∨ y / 2147483648 = 1 := by omega
  have cd : d / 2147483648 = 0 ∨ d / 2147483648 = 1 := by omega
  rcases cx with h1 | h1 <;> rcases cy with h2 | h2 <;> rcases cd with h3 | h3 <;> rw [h1, h2, h3] <;> by_cases hlt : x < y + b <;> simp only [hlt, if_true, if_false] <;> first | decide | omega
theorem borrow_int (x y b : Nat) (hx : x < 4294967296) (hy : y < 4294967296) (hb : b ≤ 1) :
    bits .or .u32 (bits .and .u32 (bits .xor .u32 IntKind.u32.max (x : Int)) (y : Int)) (bits .and .u32 (bits .xor .u32 IntKind.u32.max (bits .xor .u32 (x : Int) (y : Int))) (((x : Int) - y - b) % 4294967296)) / 2147483648 = ((if x < y + b then 1 else 0 : Nat) : Int) := by
  have hm : IntKind.u32.max = ((4294967295 : Nat) : Int) := by decide
  have hd : ((x : Int) - y - b) % 4294967296 = (((x + 4294967296 - y - b) % 4294967296 : Nat) : Int) := by omega
  have hlt : (x + 4294967296 - y - b) % 4294967296 < 4294967296 := by omega
  have h1 : 4294967295 ^^^ x < 4294967296 := Nat.xor_lt_two_pow (n := 32) (by omega) hx
  have h2 : x ^^^ y < 4294967296 := Nat.xor_lt_two_pow (n := 32) hx hy
  have h3 : 4294967295 ^^^ (x ^^^ y) < 4294967296 := Nat.xor_lt_two_pow (n := 32) (by omega) h2
  have hb := borrow_nat x y b hx hy hb
  rw [hm, hd, u32_xor_nat _ _ (by omega) hx, u32_xor_nat _ _ hx hy, u32_xor_nat _ _ (by omega) h2, u32_and_nat _ _ h1 hy, u32_and_nat _ _ h3 hlt,
    u32_or_nat _ _ (Nat.and_lt_two_pow (n := 32) _ hy) (Nat.and_lt_two_pow (n := 32) _ hlt), ← hb]
  omega
theorem or_hi_lo (h l : Nat) (hh : h < 4294967296) (hl : l < 4294967296) : bits .or .u64 ((h : Int) * 4294967296) (l : Int) = (h : Int) * 4294967296 + l := by
  have e : (h : Int) * 4294967296 = ((h * 2 ^ 32 : Nat) : Int) := by simp
  rw [e, u64_or_nat _ _ (by omega) (by omega), ← Nat.shiftLeft_eq, ← Nat.shiftLeft_add_eq_or_of_lt (by omega), Nat.shiftLeft_eq]
  simp
theorem ret_ints {k1 k2 : IntKind} {a a' b b' : Int} (h1 : a = a') (h2 : b = b') : Ending.returned (.tuple #[.int k1 a, .int k2 b]) = .returned (.tuple #[.int k1 a', .int k2 b']) := by rw [h1, h2]
set_option maxHeartbeats 400000 in
theorem bitsSub32 (x y b : Nat) (w : World) (hx : x < 4294967296) (hy : y < 4294967296) (hb : b ≤ 1) :
    Calls Tryz.prog 122 #[.int .u32 x, .int .u32 y, .int .u32 b] w fun e w' => e = .returned (.tuple #[.int .u32 (((x + 4294967296 - y - b) % 4294967296 : Nat) : Int), .int .u32 ((if x < y + b then 1 else 0 : Nat) : Int)]) ∧ w = w' := by
  have H := Lib.hid (borrow_int x y b hx hy hb)
  generalize (if x < y + b then 1 else 0 : Nat) = bo at *
  have hs : IntKind.u32.signed = false := rfl
  go_enter Tryz.func122, Tryz.ntmps122
  go_wp2
  go_ret2
  rw [H.out]
  exact ⟨ret_ints (by omega) rfl, rfl⟩
theorem div_cast (hi lo y : Nat) (h : (hi * 4294967296 + lo) / y < 4294967296) : ((hi : Int) * 4294967296 + lo) / y % 4294967296 = (((hi * 4294967296 + lo) / y : Nat) : Int) := by
  have e : ((hi : Int) * 4294967296 + lo) = ((hi * 4294967296 + lo : Nat) : Int) := by omega
  rw [e, ← Int.natCast_ediv]
  generalize (hi * 4294967296 + lo) / y = q at *
  omega
theorem mod_cast' (hi lo y : Nat) (h : (hi * 4294967296 + lo) % y < 4294967296) : ((hi : Int) * 4294967296 + lo) % y % 4294967296 = (((hi * 4294967296 + lo) % y : Nat) : Int) := by
  have e : ((hi : Int) * 4294967296 + lo) = ((hi * 4294967296 + lo : Nat) : Int) := by omega
  rw [e, ← Int.natCast_emod]
  generalize (hi * 4294967296 + lo) % y = q at *
  omega
set_option maxHeartbeats 400000 in
theorem bitsDiv32 (hi lo y : Nat) (w : World) (hx : hi < y) (hl : lo < 4294967296) (hy : y < 4294967296) :
    Calls Tryz.prog 178 #[.int .u32 hi, .int .u32 lo, .int .u32 y] w fun e w' => e = .returned (.tuple #[.int .u32 (((hi * 4294967296 + lo) / y : Nat) : Int), .int .u32 (((hi * 4294967296 + lo) % y : Nat) : Int)]) ∧ Below w.heap.size w w' := by
  have h1 : ((y : Int) != 0) = true := by simp; omega
  have h2 : decide (y ≤ hi) = false := by simp; omega
  have h3 := or_hi_lo hi lo (by omega) hl
  have hd : (hi * 4294967296 + lo) / y < 4294967296 := by
    rw [Nat.div_lt_iff_lt_mul (by omega)]
    have : (hi + 1) * 4294967296 ≤ y * 4294967296 := Nat.mul_le_mul_right _ hx
    omega
  have hy0 : 1 ≤ y := by omega
  go_enter Tryz.func178, Tryz.ntmps178
  go_wp2
  go_quiet (fail)
  go_wp2
  go_ret2
  exact ⟨ret_ints (div_cast hi lo y hd) (mod_cast' hi lo y (Nat.lt_trans (Nat.mod_lt _ (by omega)) hy)), below_drewN (Below.refl _ _) _⟩
set_option maxHeartbeats 400000 in
theorem bitsAdd32 (x y b : Nat) (w : World) (hx : x < 4294967296) (hy : y < 4294967296) (hb : b ≤ 1) :
    Calls Tryz.prog 263 #[.int .u32 x, .int .u32 y, .int .u32 b] w fun e w' => e = .returned (.tuple #[.int .u32 (((x + y + b) % 4294967296 : Nat) : Int), .int .u32 (((x + y + b) / 4294967296 : Nat) : Int)]) ∧ w = w' := by
  go_enter Tryz.func263, Tryz.ntmps263
  go_wp2
  go_ret2
  exact ⟨ret_ints (by omega) (by omega), rfl⟩
end Go.Proofs.YtocpmekblkfdiaaGreatDoor
namespace Go.Proofs.YtocpmekblkfdiaaGreatDoor
open Go.RowKit
def SubInv (D F zs : List Nat) (k c : Nat) : Prop :=
  zs.length = D.length ∧ (∀ x ∈ zs, x < 4294967296) ∧ (∀ j, k ≤ j → zs.getD j 0 = 0) ∧ c ≤ 1 ∧ val zs + val (F.take k) = val (D.take k) + 4294967296 ^ k * c
theorem subInv_zero (D F : List Nat) : SubInv D F (List.replicate D.length 0) 0 0 := by
  refine ⟨by simp, ?_, fun j _ => getD_replicate _ _, by omega, by simp [val_replicate, val]⟩
  intro x hx; rw [(List.mem_replicate.1 hx).2]; omega
theorem subInv_step {D F zs : List Nat} {k c d f z c' : Nat} (h : SubInv D F zs k c) (hk : k < D.length) (hd : D.getD k 0 = d) (hf : F.getD k 0 = f) (bd : d < 4294967296) (bf : f < 4294967296)
    (hz : z = (d + 4294967296 - f - c) % 4294967296) (hc : c' = if d < f + c then 1 else 0) : SubInv D F (zs.set k z) (k + 1) c' := by
  obtain ⟨h1, h2, h3, h4, h5⟩ := h
  have key : z + f + c = d + 4294967296 * c' := by
    subst hz hc
    split <;> omega
  refine ⟨by simpa using h1, mem_set_lt h2 (by omega), fun j hj => ?_, by subst hc; split <;> omega, ?_⟩
  · rw [getD_set_ne (by omega)]; exact h3 j (by omega)
  · rw [val_set (by omega) (h3 k (Nat.le_refl _)), val_take_any, val_take_any, Nat.pow_succ, hd, hf]
    generalize 4294967296 ^ k = p at *
    have e2 : p * z + p * f + p * c = p * d + p * 4294967296 * c' := by
      rw [← Nat.mul_add, ← Nat.mul_add, key, Nat.mul_add, Nat.mul_assoc]
    omega
theorem subInv_end {D F zs : List Nat} {c : Nat} (h : SubInv D F zs D.length c) (hF : F.length ≤ D.length) (hv : val F ≤ val D) : val zs = val D - val F ∧ ∀ x ∈ zs, x < 4294967296 := by
  obtain ⟨h1, h2, h3, h4, h5⟩ := h
  rw [List.take_length, List.take_of_length_le hF] at h5
  have hz := val_lt h2
  rw [h1] at hz
  have : c = 0 := by
    rcases Nat.eq_zero_or_pos c with h | h
    · exact h
    · have : c = 1 := by omega
      subst this
      omega
  subst this
  exact ⟨by omega, h2⟩
/-- What a function answers that hands back a natural in new memory, and whether there is one. -/
def RetNatOk (n : Nat) (ok : Bool) (w : World) (e : Ending) (w' : World) : Prop :=
  ∃ v, e = .returned (.tuple #[v, .bool ok]) ∧ Nt w.heap.size w' v (limbs n) ∧ Below w.heap.size w w'
set_option maxRecDepth 100000 in
set_option maxHeartbeats 1000000 in
theorem natSub (w : World) (v1 v2 : Value) (xs ys : List Nat) (b1 b2 : Nat) (h1 : Nt b1 w v1 xs) (h2 : Nt b2 w v2 ys) (hL1 : xs.length ≤ 1000000000000) (hL2 : ys.length ≤ 1000000000000) :
    Calls Tryz.prog 69 #[v1, v2] w (RetNatOk (val xs - val ys) (decide (val ys ≤ val xs)) w) := by
  have h1' := h1
  have h2' := h2
  obtain ⟨ao1, c1, rfl, hc1, hx1, _, _⟩ := h1'
  obtain ⟨ao2, c2, rfl, hc2, hx2, _, _⟩ := h2'
  have GC := Lib.hid (natCmp w _ _ xs ys b1 b2 h1 h2 (by omega) (by omega))
  have l1 := limbs_len_val hx1
  have l2 := limbs_len_val hx2
  by_cases hlt : val xs < val ys
  · have e1 : decide (val ys ≤ val xs) = false := by simp; omega
    have e2 : val xs - val ys = 0 := by omega
    rw [e1, e2]
    have e3 : decide (cmpI (val xs) (val ys) < 0) = true := by simp [cmpI_lt_zero]; exact hlt
    clear e1 e2 h1 h2
    unfold RetCmp at GC
    generalize cmpI (val xs) (val ys) = c at *
    clear l1 l2
    go_enter Tryz.func69, Tryz.ntmps69
    go_wp2_with (refine GC.out.mono ?_; rintro e w1 ⟨rfl, hb1⟩)
    go_ret2
    exact ⟨_, rfl, Nt.nil _ _, hb1⟩
  · have e1 : decide (val ys ≤ val xs) = true := by simp; omega
    rw [e1]
    have hle : val ys ≤ val xs := by omega
    have hl := limbs_len_mono hle
    have HV := Lib.hid hle
    clear e1 hle hlt
    have t1 := fun w1 hb => (h1.below (w' := w1) hb (Nat.le_refl _)).trim
    have t2 := fun w1 hb => (h2.below (w' := w1) hb (Nat.le_refl _)).trim
    have G1 := Lib.hid (fun w1 hb => natTrim w1 ao1 xs.length c1 xs b1 _ (h1.below (w' := w1) hb (Nat.le_refl _)) (by omega) rfl)
    have G2 := Lib.hid (fun w1 hb => natTrim w1 ao2 ys.length c2 ys b2 _ (h2.below (w' := w1) hb (Nat.le_refl _)) (by omega) rfl)
    have e3 : decide (cmpI (val xs) (val ys) < 0) = false := by have := HV.out; simp only [cmpI_lt_zero]; simp; omega
    unfold RetCmp at GC
    generalize cmpI (val xs) (val ys) = c at *
    generalize val xs = m at *
    generalize val ys = n at *
    have V1 := Lib.hid (val_limbs m)
    have V2 := Lib.hid (val_limbs n)
    have X1 := Lib.hid (limbs_lt m)
    have X2 := Lib.hid (limbs_lt n)
    have HR := Lib.hid (rfl : limbs (m - n) = limbs (m - n))
    generalize hD : limbs m = D at *
    generalize hF : limbs n = F at *
    have HD := Lib.hid hD
    have HF := Lib.hid hF
    clear hD hF h1 h2 HR hx1 hx2
    generalize xs.length = n1 at *
    generalize ys.length = n2 at *
    go_enter Tryz.func69, Tryz.ntmps69
    go_wp2_with fail
    refine GC.out.mono ?_
    rintro e w1 ⟨rfl, hb1⟩
    go_wp2_with (first | ((with_reducible refine (G1.out w1 hb1).mono ?_); rintro e w2 ⟨rfl, rfl⟩) | ((with_reducible refine (G2.out w1 hb1).mono ?_); rintro e w2 ⟨rfl, rfl⟩) | (refine wpList_make_row _ rfl _ _ 22 46 rfl Tryz.underlying22 Tryz.infoU32 D.length _ _ rfl rfl (by omega) (by omega) (by omega) ?_; intro w2 hR hB hsz))
    have hD := t1 w1 hb1
    have hF := t2 w1 hb1
    clear t1 t2 G1 G2 GC
    generalize hg : w1.heap.size = g at *
    have HG := Lib.hid hg; clear hg
    go_loopw [7, 24] (fun c i wr => ∃ (k cr : Nat) (zs : List Nat), k ≤ D.length ∧ i = .int .i64 k ∧ c = .int .u32 cr ∧ RowIs 46 wr g zs ∧ SubInv D F zs k cr ∧ Below g w1 wr ∧ g < wr.heap.size) (fun _ i _ => D.length - (intOf i).toNat)
    case atStart => exact ⟨0, 0, _, Nat.zero_le _, rfl, rfl, hR, subInv_zero D F, hB, hsz⟩
    case round =>
      obtain ⟨k, cr, zs, hk, rfl, rfl, hRz, hinv, hBw, hgs⟩ := hrel
      have hcr : cr ≤ 1 := hinv.2.2.2.1
      have hzl := Lib.hid hinv.1
      by_cases hlt : k < D.length
      · have hrow := hRz.cell (i := k) (by have := hinv.1; omega)
        have hfr := hRz.frozen k
        generalize zs.getD k 0 = z0 at *
        obtain ⟨b, off, rfl, _, hb, hcD⟩ := hD.at_some hlt
        have hd : wr.cell? ⟨b, off + k, none⟩ = some (.int .u32 ((D.getD k 0 : Nat) : Int)) := by rw [hBw.cell (by have := HG.out; show b < g; omega)]; exact hcD k hlt
        have bd := getD_lt X1.out k
        clear hcD
        by_cases hltF : k < F.length
        · obtain ⟨b2, off2, rfl, _, hb2, hcF⟩ := hF.at_some hltF
          have hf : wr.cell? ⟨b2, off2 + k, none⟩ = some (.int .u32 ((F.getD k 0 : Nat) : Int)) := by rw [hBw.cell (by have := HG.out; show b2 < g; omega)]; exact hcF k hltF
          have bf := getD_lt X2.out k
          clear hcF
          have hst := Lib.hid (subInv_step hinv hlt rfl rfl bd bf rfl rfl)
          generalize D.getD k 0 = d at *
          generalize F.getD k 0 = f at *
          go_wp2_with (go_at_call 122; refine (bitsSub32 d f cr _ bd bf hcr).mono ?_; rintro e w3 ⟨rfl, rfl⟩)
          go_round
          case rel => exact ⟨k + 1, _, _, by omega, by go_num, rfl, hRz.storeI k _ _ (by omega), hst.out, hBw.setCell (Nat.le_refl _) _, by simpa using hgs⟩
          case measure => simp [intOf]; omega
        · have hst0 := subInv_step hinv hlt rfl (getD_of_len (by omega)) bd (by omega) rfl rfl
          rw [Nat.sub_zero, Nat.zero_add] at hst0
          have hst := Lib.hid hst0
          clear hst0
          generalize D.getD k 0 = d at *
          go_wp2_with (go_at_call 122; refine (bitsSub32 d 0 cr _ bd (by omega) hcr).mono ?_; rintro e w3 ⟨rfl, rfl⟩)
          go_round
          case rel => exact ⟨k + 1, _, _, by omega, by go_num, rfl, hRz.storeI k _ _ (by omega), hst.out, hBw.setCell (Nat.le_refl _) _, by simpa using hgs⟩
          case measure => simp [intOf]; omega
      · obtain rfl : k = D.length := by omega
        have hend := subInv_end hinv hl (by rw [V1.out, V2.out]; exact HV.out)
        rw [V1.out, V2.out] at hend
        have hnt := hRz.nt (n := D.length) (cap := D.length) (by simp [hinv.1]) (Nat.le_refl _) hend.2
        have HE := Lib.hid hend.1
        clear hend hinv
        go_wp2_with (refine (natTrim _ _ _ _ _ g (m - n) hnt (by omega) HE.out).mono ?_; rintro e w' ⟨rfl, rfl⟩)
        have ht := hnt.trimS HE.out
        go_ret2
        exact ⟨_, rfl, ht.mono (by have := hb1.size; have := HG.out; omega), bthen hb1 (by rw [HG.out]; exact hBw)⟩
end Go.Proofs.YtocpmekblkfdiaaGreatDoor
namespace Go.Proofs.YtocpmekblkfdiaaGreatDoor
open Go.RowKit
def SmallInv (xs zs : List Nat) (b k r : Nat) : Prop :=
  zs.length = xs.length ∧ (∀ x ∈ zs, x < 4294967296) ∧ (∀ j, j < k → zs.getD j 0 = 0) ∧ r < b ∧ val xs = val (xs.take k) + 4294967296 ^ k * r + b * val zs
theorem smallInv_zero (xs : List Nat) (b : Nat) (hb : 0 < b) : SmallInv xs (List.replicate xs.length 0) b xs.length 0 :=
  ⟨by simp, replicate_lt _, fun j _ => getD_replicate _ _, hb, by simp [val_replicate]⟩
theorem smallInv_step {xs zs : List Nat} {b i r x : Nat} (h : SmallInv xs zs b (i + 1) r) (hi : i < xs.length) (hx : xs.getD i 0 = x) (bx : x < 4294967296) :
    SmallInv xs (zs.set i ((r * 4294967296 + x) / b)) b i ((r * 4294967296 + x) % b) := by
  obtain ⟨h1, h2, h3, h4, h5⟩ := h
  have hq : (r * 4294967296 + x) / b < 4294967296 := by
    rw [Nat.div_lt_iff_lt_mul (by omega)]
    have : (r + 1) * 4294967296 ≤ b * 4294967296 := Nat.mul_le_mul_right _ h4
    omega
  refine ⟨by simpa using h1, mem_set_lt h2 hq, fun j hj => ?_, Nat.mod_lt _ (by omega), ?_⟩
  · rw [getD_set_ne (by omega)]; exact h3 j (by omega)
  · rw [val_set (by omega) (h3 i (by omega)), h5, val_take_last hi, hx, Nat.pow_succ]
    have e := Nat.div_add_mod (r * 4294967296 + x) b
    generalize (r * 4294967296 + x) / b = q at *
    generalize (r * 4294967296 + x) % b = s at *
    generalize 4294967296 ^ i = p at *
    have e1 : p * (b * q + s) = p * (r * 4294967296) + p * x := by rw [e, Nat.mul_add]
    rw [Nat.mul_add] at e1
    have e2 : p * (b * q) = b * (p * q) := Nat.mul_left_comm _ _ _
    have e3 : p * 4294967296 * r = p * (r * 4294967296) := by rw [Nat.mul_assoc, Nat.mul_comm r]
    rw [Nat.mul_add]
    omega
theorem smallInv_end {xs zs : List Nat} {b r : Nat} (h : SmallInv xs zs b 0 r) : val zs = val xs / b ∧ r = val xs % b := by
  obtain ⟨h1, h2, h3, h4, h5⟩ := h
  simp [val] at h5
  have hb : 0 < b := by omega
  constructor
  · rw [h5, Nat.add_mul_div_left _ _ hb, Nat.div_eq_of_lt h4, Nat.zero_add]
  · rw [h5, Nat.add_mul_mod_self_left, Nat.mod_eq_of_lt h4]
/-- What a function answers that hands back a natural in new memory, and a number of a kind. -/
def RetNatInt (n : Nat) (k : IntKind) (r : Int) (w : World) (e : Ending) (w' : World) : Prop :=
  ∃ v, e = .returned (.tuple #[v, .int k r]) ∧ Nt w.heap.size w' v (limbs n) ∧ Below w.heap.size w w'
theorem RetNatInt.mk {n : Nat} {k : IntKind} {r r' : Int} {w w' : World} {v : Value} (hr : r' = r) (h : Nt w.heap.size w' v (limbs n)) (hb : Below w.heap.size w w') : RetNatInt n k r w (.returned (.tuple #[v, .int k r'])) w' :=
  ⟨v, by rw [hr], h, hb⟩
set_option maxRecDepth 100000 in
set_option maxHeartbeats 1000000 in
theorem natSmall (w : World) (v : Value) (xs : List Nat) (base b : Nat) (h : Nt base w v xs) (hb0 : 0 < b) (hb1 : b < 4294967296) (hL : xs.length ≤ 8000000000000) :
    Calls Tryz.prog 125 #[v, .int .u32 b] w (RetNatInt (val xs / b) .u32 ((val xs % b : Nat) : Int) w) := by
  obtain ⟨ao, cap, rfl, hc⟩ := h.open
  have X := Lib.hid h.lt
  go_enter Tryz.func125, Tryz.ntmps125
  go_wp2_with (refine wpList_make_row _ rfl _ _ 22 46 rfl Tryz.underlying22 Tryz.infoU32 xs.length _ _ rfl rfl (by omega) (by omega) (by omega) ?_; intro w1 hR hB hsz)
  generalize hg : w.heap.size = g at *
  have HG := Lib.hid hg; clear hg
  go_loopw [7, 8] (fun c i wr => ∃ (k r : Nat) (zs : List Nat), k ≤ xs.length ∧ i = .int .i64 ((k : Int) - 1) ∧ c = .int .u32 r ∧ RowIs 46 wr g zs ∧ SmallInv xs zs b k r ∧ Below g w wr ∧ g < wr.heap.size) (fun _ i _ => ((intOf i) + 1).toNat)
  case atStart => exact ⟨xs.length, 0, _, Nat.le_refl _, rfl, rfl, hR, smallInv_zero xs b hb0, hB, hsz⟩
  case round =>
    obtain ⟨k, r, zs, hk, rfl, rfl, hRz, hinv, hBw, hgs⟩ := hrel
    have hzl := Lib.hid hinv.1
    by_cases h0 : k = 0
    · subst h0
      have hend := smallInv_end hinv
      have hnt := hRz.nt (n := xs.length) (cap := xs.length) hinv.1.symm (Nat.le_refl _) hinv.2.1
      have HE := Lib.hid hend.1
      have HE2 := Lib.hid hend.2
      clear hend hinv
      go_wp2_with (refine (natTrim _ _ _ _ _ g (val xs / b) hnt (by omega) HE.out).mono ?_; rintro e w' ⟨rfl, rfl⟩)
      have ht := hnt.trimS HE.out
      go_ret2
      exact RetNatInt.mk (by rw [HE2.out]) (by rw [HG.out]; exact ht) (by rw [HG.out]; exact hBw)
    · obtain ⟨i, rfl⟩ : ∃ i, k = i + 1 := ⟨k - 1, by omega⟩
      obtain ⟨b3, off, rfl, _, hb3, hcD⟩ := h.at_some (k := i) (by omega)
      have hd : wr.cell? ⟨b3, off + i, none⟩ = some (.int .u32 ((xs.getD i 0 : Nat) : Int)) := by rw [hBw.cell (by have := HG.out; show b3 < g; omega)]; exact hcD i (by omega)
      have bx := getD_lt X.out i
      have hr : r < b := hinv.2.2.2.1
      have hst := Lib.hid (smallInv_step hinv (by omega) rfl bx)
      clear hcD hinv
      generalize xs.getD i 0 = x at *
      have hi1 : ((i + 1 : Nat) : Int) - 1 = (i : Int) := by omega
      rw [hi1]
      clear hi1
      go_wp2_with fail
      refine (bitsDiv32 r x b _ hr bx hb1).mono ?_
      rintro e w3 ⟨rfl, hb3'⟩
      have hR3 := hRz.below hb3' hgs
      have hB3 := hBw.trans (hb3'.mono (by omega))
      have hgs3 := hR3.lt
      have hrow := hR3.cell (i := i) (by have := hzl.out; omega)
      have hfr := hR3.frozen i
      generalize zs.getD i 0 = z at *
      clear hb3' hRz hBw hgs hd
      go_wp2
      go_roundw
      case rel => exact ⟨i, _, _, by omega, rfl, rfl, hR3.storeI i _ _ rfl, hst.out, hB3.setCell (Nat.le_refl _) _, by simpa using hgs3⟩
      case measure => simp [intOf]
end Go.Proofs.YtocpmekblkfdiaaGreatDoor
namespace Go.Proofs.YtocpmekblkfdiaaGreatDoor
open Go.RowKit
/-- the least of 2^32 - 1 and the quotient of three limbs by two -/
def guessOf (u low b1 b2 : Nat) : Nat := min 4294967295 ((u * 4294967296 + low) / (b1 * 4294967296 + b2))
theorem guess_le {u low b1 b2 q r : Nat} (hq : q * b1 + r = u) (hb : 0 < b1) (hQ : q < 4294967296) (h : q * b2 ≤ r * 4294967296 + low) : q ≤ guessOf u low b1 b2 := by
  unfold guessOf
  refine Nat.le_min.2 ⟨by omega, ?_⟩
  rw [Nat.le_div_iff_mul_le (by omega), ← hq, Nat.mul_add, Nat.add_mul, ← Nat.mul_assoc]
  omega
theorem guess_lt {u low b1 b2 q r : Nat} (hq : q * b1 + r = u) (hb : 0 < b1) (h : r * 4294967296 + low < q * b2) : guessOf u low b1 b2 < q := by
  have h1 : (u * 4294967296 + low) / (b1 * 4294967296 + b2) < q := by
    refine Nat.lt_of_not_le fun hle => ?_
    rw [Nat.le_div_iff_mul_le (by omega), ← hq, Nat.mul_add, Nat.add_mul, ← Nat.mul_assoc] at hle
    omega
  unfold guessOf
  exact Nat.lt_of_le_of_lt (Nat.min_le_right 4294967295 ((u * 4294967296 + low) / (b1 * 4294967296 + b2))) h1
theorem guess_lt_big {u low b1 b2 q : Nat} (h : 4294967296 ≤ q) : guessOf u low b1 b2 < q := by
  unfold guessOf
  have := Nat.min_le_left 4294967295 ((u * 4294967296 + low) / (b1 * 4294967296 + b2))
  omega
/-- the step down: the sum stays, and if the rest passes a limb the number is found -/
theorem guess_down {u high mid low b1 b2 q r : Nat} (hu : u = high * 4294967296 + mid) (hhi : high ≤ b1) (hm : mid < 4294967296) (hq : q * b1 + r = u) (hb : 2147483648 ≤ b1) (bb2 : b2 < 4294967296)
    (hqB : q ≤ 4294967297) (hx : guessOf u low b1 b2 < q) :
    ∃ q', q = q' + 1 ∧ q' * b1 + (r + b1) = u ∧ (4294967296 ≤ r + b1 → q' = guessOf u low b1 b2) := by
  obtain ⟨q', rfl⟩ : ∃ q', q = q' + 1 := ⟨q - 1, by omega⟩
  rw [Nat.add_mul, Nat.one_mul] at hq
  refine ⟨q', rfl, by omega, fun hr => ?_⟩
  have hle : q' ≤ 4294967295 := by
    rcases Nat.lt_or_ge q' 4294967296 with h | h
    · omega
    · have e : q' = 4294967296 := by omega
      subst e
      have : high * 4294967296 ≤ b1 * 4294967296 := Nat.mul_le_mul_right _ hhi
      omega
  have h1 : q' ≤ guessOf u low b1 b2 := by
    refine guess_le (r := r + b1) (by omega) (by omega) (by omega) ?_
    have h2 : q' * b2 ≤ 4294967295 * 4294967295 := Nat.mul_le_mul hle (by omega)
    have h3 : 4294967296 * 4294967296 ≤ (r + b1) * 4294967296 := Nat.mul_le_mul_right _ hr
    omega
  omega
theorem guess_start {u high mid low b1 b2 : Nat} (hu : u = high * 4294967296 + mid) (hhi : high ≤ b1) (hm : mid < 4294967296) (hl : low < 4294967296) (hb : 2147483648 ≤ b1) (hb4 : b1 < 4294967296) :
    u / b1 * b1 + u % b1 = u ∧ u / b1 ≤ 4294967297 ∧ guessOf u low b1 b2 ≤ u / b1 ∧ u % b1 < 4294967296 := by
  refine ⟨by rw [Nat.mul_comm]; exact Nat.div_add_mod u b1, ?_, ?_, by have := Nat.mod_lt u (show 0 < b1 by omega); omega⟩
  · have : u / b1 < 4294967298 := by
      rw [Nat.div_lt_iff_lt_mul (by omega)]
      have : high * 4294967296 ≤ b1 * 4294967296 := Nat.mul_le_mul_right _ hhi
      omega
    omega
  · unfold guessOf
    refine Nat.le_trans (Nat.min_le_right 4294967295 _) ?_
    rw [Nat.le_div_iff_mul_le (by omega)]
    have h1 : (u * 4294967296 + low) / (b1 * 4294967296 + b2) * (b1 * 4294967296 + b2) ≤ u * 4294967296 + low := Nat.div_mul_le_self _ _
    generalize (u * 4294967296 + low) / (b1 * 4294967296 + b2) = Q at *
    rw [Nat.mul_add, ← Nat.mul_assoc] at h1
    have h2 : Q * b1 * 4294967296 < (u + 1) * 4294967296 := by rw [Nat.add_mul]; omega
    have := Nat.lt_of_mul_lt_mul_right h2
    omega
theorem prod_int (a b : Nat) (ha : a < 4294967296) (hb : b < 4294967296) : (0 : Int) ≤ (a : Int) * b ∧ (a : Int) * b ≤ 18446744065119617025 := by
  have := Nat.mul_le_mul (Nat.le_of_lt_succ ha) (Nat.le_of_lt_succ hb)
  rw [← Int.natCast_mul]
  omega
theorem vint_eq {k : IntKind} {a b : Int} (h : a = b) : Value.int k a = Value.int k b := by rw [h]
theorem ret_u64 {a b : Int} (h : a = b) : Ending.returned (.int .u64 a) = .returned (.int .u64 b) := by rw [h]
set_option maxRecDepth 100000 in
set_option maxHeartbeats 1000000 in
theorem natGuess (w : World) (high mid low b1 b2 : Nat) (hhi : high ≤ b1) (hm : mid < 4294967296) (hl : low < 4294967296) (hb : 2147483648 ≤ b1) (hb4 : b1 < 4294967296) (bb2 : b2 < 4294967296) :
    Calls Tryz.prog 218 #[.int .u32 high, .int .u32 mid, .int .u32 low, .int .u32 b1, .int .u32 b2] w fun e w' =>
      e = .returned (.int .u64 (guessOf (high * 4294967296 + mid) low b1 b2)) ∧ Below w.heap.size w w' := by
  obtain ⟨u, hu⟩ : ∃ u, u = high * 4294967296 + mid := ⟨_, rfl⟩
  rw [← hu]
  have HS := Lib.hid (guess_start (b2 := b2) hu hhi hm hl hb hb4)
  have HD := fun q r hq h1 h2 => @guess_down u high mid low b1 b2 q r hu hhi hm hq hb bb2 h1 h2
  have HD' := Lib.hid HD
  clear HD
  have h3 := or_hi_lo high mid (by omega) hm
  have hue : (high : Int) * 4294967296 + mid = (u : Int) := by omega
  have hub : u < 18446744073709551616 := by omega
  have hy0 : 1 ≤ b1 := by omega
  rw [hue] at h3
  clear hue hu
  obtain ⟨q0, hq0⟩ : ∃ q0, q0 = u / b1 := ⟨_, rfl⟩
  obtain ⟨r0, hr0⟩ : ∃ r0, r0 = u % b1 := ⟨_, rfl⟩
  have hS := HS.out
  rw [← hq0, ← hr0] at hS
  have hw : IntKind.u64.wrap ((u : Int) / b1) = (q0 : Int) := by
    rw [hq0, Int.natCast_ediv, IntKind.wrap_u64, ← Int.natCast_ediv]
    have := Nat.div_le_self u b1
    generalize u / b1 = qq at *
    omega
  have hw2 : (u : Int) % b1 = (r0 : Int) := by rw [hr0, Int.natCast_emod]
  have HS2 := Lib.hid hS
  clear hS HS hq0 hr0
  have HW := Lib.hid hw
  have HW2 := Lib.hid hw2
  have HLB := Lib.hid (fun q (h : 4294967296 ≤ q) => guess_lt_big (u := u) (low := low) (b1 := b1) (b2 := b2) h)
  have HLT := Lib.hid (fun q r (h1 : q * b1 + r = u) (h2 : r * 4294967296 + low < q * b2) => guess_lt h1 (by omega) h2)
  have HLE := Lib.hid (fun q r (h1 : q * b1 + r = u) (h2 : q < 4294967296) (h3 : q * b2 ≤ r * 4294967296 + low) => guess_le h1 (by omega) h2 h3)
  generalize hX : guessOf u low b1 b2 = X at *
  have HX := Lib.hid hX; clear hX
  go_enter Tryz.func218, Tryz.ntmps218
  go_wp2
  go_quiet (fail)
  go_wp2
  clear hw hw2 h3
  go_loop [12, 13] (fun a c => ∃ q r : Nat, a = .int .u64 q ∧ c = .int .u64 r ∧ Hid (q * b1 + r = u) ∧ r < 4294967296 ∧ q ≤ 4294967297 ∧ X ≤ q) (fun a _ => (intOf a).toNat)
  case atStart => exact ⟨q0, r0, rfl, vint_eq HW2.out, HS2.out.1, HS2.out.2.2.2, HS2.out.2.1, HS2.out.2.2.1⟩
  case round =>
    obtain ⟨q, r, rfl, rfl, hqr, hr, hq2, hXq⟩ := hrel
    have ho := or_hi_lo r low hr hl
    by_cases hbig : 4294967296 ≤ q
    · have hne : ((q : Int) / 4294967296 != 0) = true := by simp; omega
      have hlt := HLB.out q hbig
      obtain ⟨q', hqe, hq', hfin⟩ := HD'.out q r hqr.out hq2 hlt
      have HF := Lib.hid hfin
      have HQ := Lib.hid hq'
      have hq1 : 1 ≤ q := by omega
      have hq'' : q' = q - 1 := by omega
      subst hq''
      clear hfin hq' hqe
      by_cases hbrk : 4294967296 ≤ r + b1
      · have hne2 : (((r : Int) + b1) / 4294967296 != 0) = true := by simp; omega
        go_wp2
        go_ret
        exact ⟨ret_u64 (by have := HF.out hbrk; omega), below_drewN (Below.refl _ _) _⟩
      · have hne2 : (((r : Int) + b1) / 4294967296 != 0) = false := by simp; omega
        go_wp2
        go_round
        case rel => exact ⟨q - 1, r + b1, by go_num, by go_num, HQ, by omega, by omega, by omega⟩
        case measure => simp [intOf]; omega
    · have hne : ((q : Int) / 4294967296 != 0) = false := by simp; omega
      have hm1 := prod_int q b2 (by omega) bb2
      obtain ⟨hm0, hm1⟩ := hm1
      by_cases hgt : r * 4294967296 + low < q * b2
      · have hcmp : decide ((r : Int) * 4294967296 + low < (q : Int) * b2) = true := by rw [← Int.natCast_mul]; simp; omega
        have hlt := HLT.out q r hqr.out hgt
        obtain ⟨q', hqe, hq', hfin⟩ := HD'.out q r hqr.out hq2 hlt
        have HF := Lib.hid hfin
        have HQ := Lib.hid hq'
        have hq1 : 1 ≤ q := by omega
        have hq'' : q' = q - 1 := by omega
        subst hq''
        clear hfin hq' hqe
        by_cases hbrk : 4294967296 ≤ r + b1
        · have hne2 : (((r : Int) + b1) / 4294967296 != 0) = true := by simp; omega
          go_wp2
          go_ret
          exact ⟨ret_u64 (by have := HF.out hbrk; omega), below_drewN (Below.refl _ _) _⟩
        · have hne2 : (((r : Int) + b1) / 4294967296 != 0) = false := by simp; omega
          go_wp2
          go_round
          case rel => exact ⟨q - 1, r + b1, by go_num, by go_num, HQ, by omega, by omega, by omega⟩
          case measure => simp [intOf]; omega
      · have hcmp : decide ((r : Int) * 4294967296 + low < (q : Int) * b2) = false := by rw [← Int.natCast_mul]; simp; omega
        have hle := HLE.out q r hqr.out (by omega) (by omega)
        go_wp2
        go_ret
        exact ⟨ret_u64 (by omega), below_drewN (Below.refl _ _) _⟩
end Go.Proofs.YtocpmekblkfdiaaGreatDoor
namespace Go.Proofs.YtocpmekblkfdiaaGreatDoor
open Go.RowKit
/-- w' is w but for what block g holds -/
structure Only (g : Nat) (w w' : World) : Prop where
  os : w'.os = w.os
  tape : w'.tape = w.tape
  output : w'.output = w.output
  size : w'.heap.size = w.heap.size
  block : ∀ k, k ≠ g → w'.heap[k]? = w.heap[k]?
theorem Only.refl (g : Nat) (w : World) : Only g w w := ⟨rfl, rfl, rfl, rfl, fun _ _ => rfl⟩
theorem Only.setCell {g : Nat} {a w : World} (h : Only g a w) (i : Nat) (u : Value) : Only g a (w.setCell ⟨g, i, none⟩ u) :=
  ⟨h.os, h.tape, h.output, by simp [h.size], fun k hk => (Below.heap_setCell w ⟨g, i, none⟩ u k hk).trans (h.block k hk)⟩
theorem Only.below {g K : Nat} {w w' : World} (h : Only g w w') (hK : K ≤ g) : Below K w w' :=
  ⟨h.os, h.tape, h.output, by rw [h.size]; exact Nat.le_refl _, fun k hk => h.block k (by omega)⟩
theorem Only.row {E g gd : Nat} {w w' : World} {ds : List Nat} (h : Only g w w') (hd : RowIs E w gd ds) (hne : gd ≠ g) : RowIs E w' gd ds := by
  unfold RowIs at *
  rw [h.block gd hne]; exact hd
theorem mid_getD {pre us post : List Nat} {i k : Nat} (hi : pre.length = i) (hk : k < us.length) : (pre ++ us ++ post).getD (i + k) 0 = us.getD k 0 := by
  subst hi
  simp only [List.getD_eq_getElem?_getD]
  rw [List.getElem?_append_left (by simp; omega), List.getElem?_append_right (by omega)]
  simp
theorem mid_set {pre us post : List Nat} {i k x : Nat} (hi : pre.length = i) (hk : k < us.length) : (pre ++ us ++ post).set (i + k) x = pre ++ us.set k x ++ post := by
  subst hi
  rw [List.set_append, if_pos (by simp; omega), List.set_append, if_neg (by omega)]
  simp
theorem mid_len {pre us post : List Nat} {i k : Nat} (hi : pre.length = i) (hk : k < us.length) : i + k < (pre ++ us ++ post).length := by
  simp; omega
/-- the piece behind k limbs of the taking: carry c, borrow b -/
def TakeInv (us0 us ds : List Nat) (n q k c b : Nat) : Prop :=
  us.length = n + 1 ∧ (∀ x ∈ us, x < 4294967296) ∧ c < 4294967296 ∧ b ≤ 1 ∧ val us + q * val (ds.take k) = val us0 + 4294967296 ^ k * (c + b)
theorem takeInv_zero {us : List Nat} {n : Nat} (ds : List Nat) (q : Nat) (h : us.length = n + 1) (hl : ∀ x ∈ us, x < 4294967296) : TakeInv us us ds n q 0 0 0 :=
  ⟨h, hl, by omega, by omega, by simp [val]⟩
theorem take_key (u t b : Nat) (hu : u < 4294967296) (hb : b ≤ 1) : (u + 4294967296 - t % 4294967296 - b) % 4294967296 + t % 4294967296 + b = u + 4294967296 * (if u < t % 4294967296 + b then 1 else 0) := by
  split <;> omega
theorem takeInv_step {us0 us ds : List Nat} {n q k c b d u : Nat} (h : TakeInv us0 us ds n q k c b) (hk : k < n) (hn : ds.length = n) (hd : ds.getD k 0 = d) (bd : d < 4294967296) (hu : us.getD k 0 = u) (bu : u < 4294967296) (hq : q < 4294967296) :
    TakeInv us0 (us.set k ((u + 4294967296 - (c + q * d) % 4294967296 - b) % 4294967296)) ds n q (k + 1) ((c + q * d) / 4294967296) (if u < (c + q * d) % 4294967296 + b then 1 else 0) := by
  obtain ⟨h1, h2, h3, h4, h5⟩ := h
  have hm := Nat.mul_le_mul (Nat.le_of_lt_succ hq) (Nat.le_of_lt_succ bd)
  have key := take_key u (c + q * d) b bu h4
  refine ⟨by simpa using h1, mem_set_lt h2 (by omega), by omega, by split <;> omega, ?_⟩
  have hs := val_set_at (zs := us) (k := k) (x := (u + 4294967296 - (c + q * d) % 4294967296 - b) % 4294967296) (by omega)
  rw [hu] at hs
  rw [val_take_last (by omega), hd, Nat.pow_succ]
  generalize (u + 4294967296 - (c + q * d) % 4294967296 - b) % 4294967296 = z at *
  generalize (if u < (c + q * d) % 4294967296 + b then 1 else 0) = b' at *
  have hdm : (c + q * d) % 4294967296 + 4294967296 * ((c + q * d) / 4294967296) = c + q * d := by omega
  generalize (c + q * d) % 4294967296 = lo at *
  generalize (c + q * d) / 4294967296 = hi at *
  generalize 4294967296 ^ k = p at *
  have e1 : p * z + p * lo + p * b = p * u + p * (4294967296 * b') := by rw [← Nat.mul_add, ← Nat.mul_add, key, Nat.mul_add]
  have e2 : p * lo + p * (4294967296 * hi) = p * c + p * (q * d) := by rw [← Nat.mul_add, hdm, Nat.mul_add]
  have e3 : q * (val (ds.take k) + p * d) = q * val (ds.take k) + p * (q * d) := by rw [Nat.mul_add, Nat.mul_left_comm]
  have e4 : p * 4294967296 * (hi + b') = p * (4294967296 * hi) + p * (4294967296 * b') := by rw [Nat.mul_assoc, Nat.mul_add, Nat.mul_add]
  rw [e3, e4]
  rw [Nat.mul_add] at h5
  omega
/-- the last limb of the taking -/
theorem takeInv_last {us0 us ds : List Nat} {n q c b u : Nat} (h : TakeInv us0 us ds n q n c b) (hn : ds.length = n) (hu : us.getD n 0 = u) (bu : u < 4294967296) :
    (us.set n ((u + 4294967296 - c - b) % 4294967296)).length = n + 1 ∧ (∀ x ∈ us.set n ((u + 4294967296 - c - b) % 4294967296), x < 4294967296) ∧
    val (us.set n ((u + 4294967296 - c - b) % 4294967296)) + q * val ds = val us0 + 4294967296 ^ (n + 1) * (if u < c + b then 1 else 0) := by
  obtain ⟨h1, h2, h3, h4, h5⟩ := h
  have key := take_key u c b bu h4
  rw [Nat.mod_eq_of_lt h3] at key
  refine ⟨by simpa using h1, mem_set_lt h2 (by omega), ?_⟩
  have hs := val_set_at (zs := us) (k := n) (x := (u + 4294967296 - c - b) % 4294967296) (by omega)
  rw [hu] at hs
  rw [List.take_of_length_le (by omega)] at h5
  rw [Nat.pow_succ]
  generalize (u + 4294967296 - c - b) % 4294967296 = z at *
  generalize (if u < c + b then 1 else 0) = b' at *
  generalize 4294967296 ^ n = p at *
  have e1 : p * z + p * c + p * b = p * u + p * (4294967296 * b') := by rw [← Nat.mul_add, ← Nat.mul_add, key, Nat.mul_add]
  rw [Nat.mul_assoc]
  rw [Nat.mul_add] at h5
  omega
/-- the piece behind k limbs of the giving back -/
def GiveInv (us0 us ds : List Nat) (n k c : Nat) : Prop :=
  us.length = n + 1 ∧ (∀ x ∈ us, x < 4294967296) ∧ c ≤ 1 ∧ val us + 4294967296 ^ k * c = val us0 + val (ds.take k)
theorem giveInv_zero {us ds : List Nat} {n : Nat} (h : us.length = n + 1) (hl : ∀ x ∈ us, x < 4294967296) : GiveInv us us ds n 0 0 := ⟨h, hl, by omega, by simp [val]⟩
theorem giveInv_step {us0 us ds : List Nat} {n k c d u : Nat} (h : GiveInv us0 us ds n k c) (hk : k < n) (hn : ds.length = n) (hd : ds.getD k 0 = d) (bd : d < 4294967296) (hu : us.getD k 0 = u) (bu : u < 4294967296) :
    GiveInv us0 (us.set k ((u + d + c) % 4294967296)) ds n (k + 1) ((u + d + c) / 4294967296) := by
  obtain ⟨h1, h2, h3, h4⟩ := h
  refine ⟨by simpa using h1, mem_set_lt h2 (by omega), by omega, ?_⟩
  have hs := val_set_at (zs := us) (k := k) (x := (u + d + c) % 4294967296) (by omega)
  rw [hu] at hs
  rw [val_take_last (by omega), hd, Nat.pow_succ]
  have key : (u + d + c) % 4294967296 + 4294967296 * ((u + d + c) / 4294967296) = u + d + c := by omega
  generalize (u + d + c) % 4294967296 = lo at *
  generalize (u + d + c) / 4294967296 = hi at *
  generalize 4294967296 ^ k = p at *
  have e1 : p * lo + p * 4294967296 * hi = p * u + p * d + p * c := by rw [Nat.mul_assoc, ← Nat.mul_add, key, Nat.mul_add, Nat.mul_add]
  omega
theorem giveInv_last {us0 us ds : List Nat} {n c u : Nat} (h : GiveInv us0 us ds n n c) (hn : ds.length = n) (hu : us.getD n 0 = u) :
    (us.set n ((u + c) % 4294967296)).length = n + 1 ∧ (∀ x ∈ us.set n ((u + c) % 4294967296), x < 4294967296) ∧
    val (us.set n ((u + c) % 4294967296)) + 4294967296 ^ (n + 1) * ((u + c) / 4294967296) = val us0 + val ds := by
  obtain ⟨h1, h2, h3, h4⟩ := h
  refine ⟨by simpa using h1, mem_set_lt h2 (by omega), ?_⟩
  have hs := val_set_at (zs := us) (k := n) (x := (u + c) % 4294967296) (by omega)
  rw [hu] at hs
  rw [List.take_of_length_le (by omega)] at h4
  rw [Nat.pow_succ]
  have key : (u + c) % 4294967296 + 4294967296 * ((u + c) / 4294967296) = u + c := by omega
  generalize (u + c) % 4294967296 = lo at *
  generalize (u + c) / 4294967296 = hi at *
  generalize 4294967296 ^ n = p at *
  have e1 : p * lo + p * 4294967296 * hi = p * u + p * c := by rw [Nat.mul_assoc, ← Nat.mul_add, key, Nat.mul_add]
  omega
def takenOf (U D q : Nat) : Nat := if q * D ≤ U then U - q * D else U + D - q * D
/-- What nat.takes leaves. -/
def RetTakes (E g n : Nat) (pre us ds post : List Nat) (q : Nat) (w : World) (e : Ending) (w' : World) : Prop :=
  ∃ us', e = .returned (.bool (decide (val us < q * val ds))) ∧ RowIs E w' g (pre ++ us' ++ post) ∧ us'.length = n + 1 ∧ (∀ x ∈ us', x < 4294967296) ∧ val us' = takenOf (val us) (val ds) q ∧ Only g w w'
theorem takes_no {us us' ds : List Nat} {n q : Nat} (h : val us' + q * val ds = val us + 4294967296 ^ (n + 1) * 0) :
    val us' = takenOf (val us) (val ds) q ∧ decide (val us < q * val ds) = false := by
  rw [Nat.mul_zero, Nat.add_zero] at h
  unfold takenOf
  rw [if_pos (by omega)]
  exact ⟨by omega, by simp; omega⟩
theorem takes_yes {us us' us'' ds : List Nat} {n q c : Nat} (hl : us'.length = n + 1) (h2 : ∀ x ∈ us', x < 4294967296) (h : val us' + q * val ds = val us + 4294967296 ^ (n + 1) * 1)
    (hl2 : us''.length = n + 1) (h4 : ∀ x ∈ us'', x < 4294967296) (h5 : val us'' + 4294967296 ^ (n + 1) * c = val us' + val ds) (h6 : c ≤ 1) (hq : q * val ds ≤ val us + val ds) :
    val us'' = takenOf (val us) (val ds) q ∧ decide (val us < q * val ds) = true := by
  have l1 := val_lt h2
  have l2 := val_lt h4
  rw [hl] at l1
  rw [hl2] at l2
  rw [Nat.mul_one] at h
  unfold takenOf
  rw [if_neg (by omega)]
  refine ⟨?_, by simp; omega⟩
  generalize 4294967296 ^ (n + 1) = p at *
  have : c = 1 := by
    rcases Nat.eq_zero_or_pos c with h0 | h0
    · subst h0; rw [Nat.mul_zero] at h5; omega
    · omega
  subst this
  rw [Nat.mul_one] at h5
  omega
theorem bitsSub32I (x y b : Nat) (X Y B : Int) (w : World) (hX : X = (x : Int)) (hY : Y = (y : Int)) (hB : B = (b : Int)) (hx : x < 4294967296) (hy : y < 4294967296) (hb : b ≤ 1) :
    Calls Tryz.prog 122 #[.int .u32 X, .int .u32 Y, .int .u32 B] w fun e w' => e = .returned (.tuple #[.int .u32 (((x + 4294967296 - y - b) % 4294967296 : Nat) : Int), .int .u32 ((if x < y + b then 1 else 0 : Nat) : Int)]) ∧ w = w' := by
  subst hX hY hB
  exact bitsSub32 x y b w hx hy hb
set_option maxRecDepth 100000 in
set_option maxHeartbeats 2000000 in
theorem natTakes (w : World) (g gd i n cap q : Nat) (pre us post ds : List Nat) (hR : RowIs 46 w g (pre ++ us ++ post)) (hD : RowIs 46 w gd ds) (hne : gd ≠ g)
    (hpre : pre.length = i) (hus : us.length = n + 1) (hds : ds.length = n) (hlu : ∀ x ∈ us, x < 4294967296) (hld : ∀ x ∈ ds, x < 4294967296) (hq : q < 4294967296)
    (hfit : q * val ds ≤ val us + val ds) (hn : n ≤ 8000000000000) (_hi : i ≤ 8000000000000) (hcap : n + 1 ≤ cap) :
    Calls Tryz.prog 219 #[.slice (some ⟨g, i, none⟩) (n + 1) cap, .slice (some ⟨gd, 0, none⟩) n n, .int .u64 q] w (RetTakes 46 g n pre us ds post q w) := by
  have T0 := Lib.hid (takeInv_zero ds q hus hlu)
  have HF := Lib.hid hfit
  clear hfit
  have HP := Lib.hid hpre
  have HDS := Lib.hid hds
  have HLD := Lib.hid hld
  clear hpre hds hus
  go_enter Tryz.func219, Tryz.ntmps219
  go_wp2
  go_loopw [7, 8, 16] (fun c b j wr => ∃ (k cr bo : Nat) (us' : List Nat), k ≤ n ∧ j = .int .i64 k ∧ c = .int .u64 cr ∧ b = .int .u32 bo ∧ RowIs 46 wr g (pre ++ us' ++ post) ∧ TakeInv us us' ds n q k cr bo ∧ Only g w wr) (fun _ _ j _ => n - (intOf j).toNat)
  case atStart => exact ⟨0, 0, 0, us, Nat.zero_le _, rfl, rfl, rfl, hR, T0.out, Only.refl _ _⟩
  case round =>
    obtain ⟨k, cr, bo, us', hk, rfl, rfl, rfl, hRz, hinv, hO⟩ := hrel
    have hcr : cr < 4294967296 := hinv.2.2.1
    have hbo : bo ≤ 1 := hinv.2.2.2.1
    have hl' := Lib.hid hinv.1
    have hDz := hO.row hD hne
    by_cases hlt : k < n
    · have hd := hDz.cell (i := k) (by have := HDS.out; omega)
      have bd := getD_lt HLD.out k
      have hu := hRz.cell (i := i + k) (mid_len HP.out (by have := hl'.out; omega))
      rw [mid_getD HP.out (by have := hl'.out; omega)] at hu
      have bu := getD_lt hinv.2.1 k
      have hfr := hRz.frozen (i + k)
      have hst := Lib.hid (takeInv_step hinv hlt HDS.out rfl bd rfl bu hq)
      have hset := fun x => mid_set (post := post) (x := x) HP.out (show k < us'.length by have := hl'.out; omega)
      have HSET := Lib.hid hset
      clear hinv hset
      generalize ds.getD k 0 = d at *
      generalize us'.getD k 0 = u at *
      have hm := Nat.mul_le_mul (Nat.le_of_lt_succ hq) (Nat.le_of_lt_succ bd)
      have hm0 : (0 : Int) ≤ (q : Int) * d := by rw [← Int.natCast_mul]; omega
      have hm1 : (q : Int) * d ≤ 18446744065119617025 := by rw [← Int.natCast_mul]; omega
      go_wp2_with fail
      refine (bitsSub32I u ((cr + q * d) % 4294967296) bo _ _ _ _ rfl ?hY rfl bu (Nat.mod_lt _ (by omega)) hbo).mono ?_
      case hY => clear hm0 hm1; rw [← Int.natCast_mul]; omega
      rintro e w3 ⟨rfl, rfl⟩
      go_wp2
      go_roundw
      case rel => exact ⟨k + 1, _, _, _, by omega, by go_num, int_eq (by clear hm0 hm1; rw [← Int.natCast_mul]; omega), rfl, (HSET.out _) ▸ (hRz.storeI (i + k) _ _ rfl), hst.out, hO.setCell _ _⟩
      case measure => simp [intOf]; omega
    · obtain rfl : k = n := by omega
      have hu := hRz.cell (i := i + k) (mid_len HP.out (by have := hl'.out; omega))
      rw [mid_getD HP.out (by have := hl'.out; omega)] at hu
      have bu := getD_lt hinv.2.1 k
      have hfr := hRz.frozen (i + k)
      have hst := Lib.hid (takeInv_last hinv HDS.out rfl bu)
      have HSET := Lib.hid (fun x => mid_set (post := post) (x := x) HP.out (show k < us'.length by have := hl'.out; omega))
      clear hinv
      generalize us'.getD k 0 = u at *
      by_cases hb1 : u < cr + bo
      · have hif : (if u < cr + bo then 1 else 0 : Nat) = 1 := if_pos hb1
        rw [hif] at hst
        have HIF := Lib.hid hif; clear hif hb1
        go_wp2_with fail
        refine (bitsSub32I u cr bo _ _ _ _ rfl ?hY rfl bu hcr hbo).mono ?_
        case hY => omega
        rw [HIF.out]
        rintro e w3 ⟨rfl, rfl⟩
        have hO2 := hO.setCell (i + k) (.int .u32 (((u + 4294967296 - cr - bo) % 4294967296 : Nat) : Int))
        have hR2 := hRz.storeI (i + k) ((u + 4294967296 - cr - bo) % 4294967296) _ rfl
        rw [HSET.out] at hR2
        obtain ⟨hs1, hs2, hs3⟩ := hst.out
        have S3 := Lib.hid hs3
        have G0 := Lib.hid (giveInv_zero (ds := ds) hs1 hs2)
        generalize us'.set k ((u + 4294967296 - cr - bo) % 4294967296) = us2 at *
        generalize ((u + 4294967296 - cr - bo) % 4294967296 : Nat) = z2 at *
        clear hst HSET hs1 hs3 HIF hl'
        go_wp2
        clear hu
        generalize wr.setCell ⟨g, i + k, none⟩ (.int .u32 (z2 : Int)) = w4 at *
        clear hO hRz hDz
        go_loopw [11, 64] (fun c j wr => ∃ (m mo : Nat) (us3 : List Nat), m ≤ k ∧ j = .int .i64 m ∧ c = .int .u32 mo ∧ RowIs 46 wr g (pre ++ us3 ++ post) ∧ GiveInv us2 us3 ds k m mo ∧ Only g w wr) (fun _ j _ => k - (intOf j).toNat)
        case atStart => exact ⟨0, 0, us2, Nat.zero_le _, rfl, rfl, hR2, G0.out, hO2⟩
        case round =>
          clear hR2 hO2
          obtain ⟨m, mo, us3, hm, rfl, rfl, hR3, hg3, hO3⟩ := hrel
          have hmo : mo ≤ 1 := hg3.2.2.1
          have hl3 := Lib.hid hg3.1
          have hD3 := hO3.row hD hne
          by_cases hlt2 : m < k
          · have hd := hD3.cell (i := m) (by have := HDS.out; omega)
            have bd := getD_lt HLD.out m
            have hu := hR3.cell (i := i + m) (mid_len HP.out (by have := hl3.out; omega))
            rw [mid_getD HP.out (by have := hl3.out; omega)] at hu
            have bu3 := getD_lt hg3.2.1 m
            have hfr3 := hR3.frozen (i + m)
            have hst3 := Lib.hid (giveInv_step hg3 hlt2 HDS.out rfl bd rfl bu3)
            have HSET3 := Lib.hid (fun x => mid_set (post := post) (x := x) HP.out (show m < us3.length by have := hl3.out; omega))
            clear hg3
            generalize ds.getD m 0 = d at *
            generalize us3.getD m 0 = u3 at *
            go_wp2_with (go_at_call 263; refine (bitsAdd32 u3 d mo _ bu3 bd hmo).mono ?_; rintro e w5 ⟨rfl, rfl⟩)
            go_roundw
            case rel => exact ⟨m + 1, _, _, by omega, by go_num, int_eq (by omega), (HSET3.out _) ▸ (hR3.storeI (i + m) _ _ (by omega)), hst3.out, hO3.setCell _ _⟩
            case measure => simp [intOf]; omega
          · obtain rfl : m = k := by omega
            have hu := hR3.cell (i := i + m) (mid_len HP.out (by have := hl3.out; omega))
            rw [mid_getD HP.out (by have := hl3.out; omega)] at hu
            have bu3 := getD_lt hg3.2.1 m
            have hfr3 := hR3.frozen (i + m)
            obtain ⟨k1, k2, k3⟩ := giveInv_last hg3 HDS.out rfl
            have HSET3 := Lib.hid (fun x => mid_set (post := post) (x := x) HP.out (show m < us3.length by have := hl3.out; omega))
            have hfin := takes_yes (by have := T0.out; exact G0.out.1) hs2 S3.out k1 k2 k3 (by omega) HF.out
            have HE := Lib.hid hfin
            have K1 := Lib.hid k1
            clear hg3 hfin k1 k3
            generalize us3.getD m 0 = u3 at *
            go_wp2
            go_ret
            exact ⟨_, ret_bool HE.out.2.symm, (HSET3.out _) ▸ (hR3.storeI (i + m) _ _ (by omega)), K1.out, k2, HE.out.1, hO3.setCell _ _⟩
      · have hif : (if u < cr + bo then 1 else 0 : Nat) = 0 := if_neg hb1
        rw [hif] at hst
        have HIF := Lib.hid hif; clear hif hb1
        obtain ⟨hs1, hs2, hs3⟩ := hst.out
        have HE := Lib.hid (takes_no hs3)
        have S1 := Lib.hid hs1
        clear hs1 hs3 hst
        go_wp2_with fail
        refine (bitsSub32I u cr bo _ _ _ _ rfl ?hY rfl bu hcr hbo).mono ?_
        case hY => omega
        rw [HIF.out]
        rintro e w3 ⟨rfl, rfl⟩
        go_wp2
        go_ret
        exact ⟨_, ret_bool HE.out.2.symm, (HSET.out _) ▸ (hRz.storeI (i + k) _ _ rfl), S1.out, hs2, HE.out.1, hO.setCell _ _⟩
end Go.Proofs.YtocpmekblkfdiaaGreatDoor
