/- Contracts of vernierref1.DivMod, vernierref1.Gcd. Conditions: at most 5*10^11 limbs. -/
import Derived.Test.YtocpmekblkfdiaaGreatDoorGF
import Derived.Test.YtocpmekblkfdiaaGreatDoorRefShift
import Derived.Test.YtocpmekblkfdiaaGreatDoorGC
import Derived.Test.YtocpmekblkfdiaaGreatDoorGD
import Derived.Deep.LoopGhost
import Derived.Deep.RegionHeld3
namespace Go.Proofs.YtocpmekblkfdiaaGreatDoor
open Go.RowKit
theorem bit_at (xs : List Nat) (hx : ∀ x ∈ xs, x < 4294967296) (i : Nat) (hi : i / 32 < xs.length) : (val xs / 2 ^ i) % 2 = xs.getD (i / 32) 0 / 2 ^ (i % 32) % 2 := by
  have e : 2 ^ i = 4294967296 ^ (i / 32) * 2 ^ (i % 32) := by
    rw [pow32, ← Nat.pow_add, Nat.div_add_mod]
  rw [e, ← Nat.div_div_eq_div_mul, val_div_pow xs hx _ (by omega), val_drop_step hi]
  obtain ⟨q, hq⟩ : ∃ q, 4294967296 = 2 ^ (i % 32) * (2 * q) := by
    refine ⟨2 ^ (31 - i % 32), ?_⟩
    rw [show 2 * 2 ^ (31 - i % 32) = 2 ^ (32 - i % 32) by rw [← Nat.pow_succ']; congr 1; omega]
    exact (pow_parts (i % 32) (Nat.mod_lt _ (by omega))).symm
  rw [hq, Nat.mul_assoc, Nat.add_mul_div_left _ _ (Nat.two_pow_pos _), Nat.mul_assoc, Nat.add_mul_mod_self_left]
/-- the bits from k on are divided -/
def BitInv (xs zs : List Nat) (n k R : Nat) : Prop :=
  zs.length = xs.length ∧ (∀ x ∈ zs, x < 4294967296) ∧ R < n ∧ ∃ Q, val zs = 2 ^ k * Q ∧ val xs / 2 ^ k = Q * n + R
theorem bitInv_zero (xs : List Nat) (hx : ∀ x ∈ xs, x < 4294967296) (n : Nat) (hn : 0 < n) : BitInv xs (List.replicate xs.length 0) n (32 * xs.length) 0 := by
  refine ⟨by simp, replicate_lt _, hn, 0, by simp [val_replicate], ?_⟩
  rw [← pow32, Nat.div_eq_of_lt (val_lt hx)]
  simp
theorem bitInv_end {xs zs : List Nat} {n R : Nat} (h : BitInv xs zs n 0 R) : val zs = val xs / n ∧ R = val xs % n := by
  obtain ⟨h1, h2, h3, Q, h4, h5⟩ := h
  rw [Nat.pow_zero, Nat.one_mul] at h4
  rw [Nat.pow_zero, Nat.div_one] at h5
  rw [h4, h5]
  constructor
  · rw [Nat.mul_comm, Nat.mul_add_div (by omega), Nat.div_eq_of_lt h3, Nat.add_zero]
  · rw [Nat.mul_comm, Nat.mul_add_mod, Nat.mod_eq_of_lt h3]
theorem bitInv_no {xs zs : List Nat} {n i R R2 : Nat} (h : BitInv xs zs n (i + 1) R) (hR : R2 = 2 * R + (val xs / 2 ^ i) % 2) (hlt : R2 < n) : BitInv xs zs n i R2 := by
  obtain ⟨h1, h2, h3, Q, h4, h5⟩ := h
  refine ⟨h1, h2, hlt, 2 * Q, by rw [h4, Nat.pow_succ, Nat.mul_assoc], ?_⟩
  rw [Nat.pow_succ, ← Nat.div_div_eq_div_mul] at h5
  rw [hR, Nat.mul_assoc]
  generalize val xs / 2 ^ i = t at *
  generalize Q * n = qn at *
  omega
theorem bitInv_yes {xs zs : List Nat} {n i R R2 : Nat} (h : BitInv xs zs n (i + 1) R) (hi : i / 32 < xs.length) (hR : R2 = 2 * R + (val xs / 2 ^ i) % 2) (hge : n ≤ R2) :
    BitInv xs (zs.set (i / 32) (zs.getD (i / 32) 0 + 2 ^ (i % 32))) n i (R2 - n) ∧ zs.getD (i / 32) 0 ||| 2 ^ (i % 32) = zs.getD (i / 32) 0 + 2 ^ (i % 32) ∧ zs.getD (i / 32) 0 + 2 ^ (i % 32) < 4294967296 := by
  obtain ⟨h1, h2, h3, Q, h4, h5⟩ := h
  have hs : i % 32 < 32 := Nat.mod_lt _ (by omega)
  have hz : zs.getD (i / 32) 0 = 2 ^ (i % 32 + 1) * (Q % 2 ^ (31 - i % 32)) := by
    have a := val_div_pow zs h2 (i / 32) (by omega)
    have b := val_drop_step (xs := zs) (i := i / 32) (by omega)
    have c : val zs / 4294967296 ^ (i / 32) = 2 ^ (i % 32 + 1) * Q := by
      rw [h4, pow32, show i + 1 = 32 * (i / 32) + (i % 32 + 1) by omega, Nat.pow_add, Nat.mul_assoc, Nat.mul_div_cancel_left _ (Nat.two_pow_pos _)]
    have d : zs.getD (i / 32) 0 = (2 ^ (i % 32 + 1) * Q) % 4294967296 := by
      rw [← c, a, b, Nat.add_mul_mod_self_left, Nat.mod_eq_of_lt (getD_lt h2 _)]
    rw [d, show 4294967296 = 2 ^ (i % 32 + 1) * 2 ^ (31 - i % 32) by rw [← Nat.pow_add, show i % 32 + 1 + (31 - i % 32) = 32 by omega], Nat.mul_mod_mul_left]
  have hlt : Q % 2 ^ (31 - i % 32) < 2 ^ (31 - i % 32) := Nat.mod_lt _ (Nat.two_pow_pos _)
  have hB : 4294967296 = 2 ^ (i % 32 + 1) * 2 ^ (31 - i % 32) := by rw [← Nat.pow_add, show i % 32 + 1 + (31 - i % 32) = 32 by omega]
  have hsum : zs.getD (i / 32) 0 + 2 ^ (i % 32) < 4294967296 := by
    rw [hz]
    have a : 2 ^ (i % 32 + 1) * (Q % 2 ^ (31 - i % 32) + 1) ≤ 2 ^ (i % 32 + 1) * 2 ^ (31 - i % 32) := Nat.mul_le_mul_left _ hlt
    rw [← hB, Nat.mul_add, Nat.mul_one] at a
    have b : 2 ^ (i % 32 + 1) = 2 * 2 ^ (i % 32) := by rw [Nat.pow_succ, Nat.mul_comm]
    have c := Nat.two_pow_pos (i % 32)
    omega
  refine ⟨⟨by simpa using h1, mem_set_lt h2 hsum, by omega, 2 * Q + 1, ?_, ?_⟩, ?_, hsum⟩
  · have a := val_set_at (zs := zs) (k := i / 32) (x := zs.getD (i / 32) 0 + 2 ^ (i % 32)) (by omega)
    have e : 2 ^ i = 4294967296 ^ (i / 32) * 2 ^ (i % 32) := by rw [pow32, ← Nat.pow_add, Nat.div_add_mod]
    rw [Nat.mul_add, h4, Nat.pow_succ, e] at a
    rw [e]
    generalize 4294967296 ^ (i / 32) * 2 ^ (i % 32) = ps at *
    have e2 : ps * (2 * Q + 1) = ps * 2 * Q + ps := by rw [Nat.mul_add, Nat.mul_one, Nat.mul_assoc]
    rw [e2]
    generalize 4294967296 ^ (i / 32) * zs.getD (i / 32) 0 = pz at *
    generalize ps * 2 * Q = pq at *
    omega
  · rw [Nat.pow_succ, ← Nat.div_div_eq_div_mul] at h5
    rw [Nat.add_mul, Nat.one_mul, Nat.mul_assoc]
    generalize val xs / 2 ^ i = t at *
    generalize Q * n = qn at *
    omega
  · rw [hz, ← Nat.two_pow_add_eq_or_of_lt (i := i % 32 + 1) (Nat.pow_lt_pow_right (by omega) (by omega))]
theorem and_one_bit (x s : Nat) (hx : x < 4294967296) : bits .and .u32 ((x : Int) / 2 ^ s) 1 = ((x / 2 ^ s % 2 : Nat) : Int) := by
  have e : (x : Int) / 2 ^ s = ((x / 2 ^ s : Nat) : Int) := by rw [Int.natCast_ediv, Int.natCast_pow]; rfl
  have h := u32_and_nat (x / 2 ^ s) 1 (Nat.lt_of_le_of_lt (Nat.div_le_self _ _) hx) (by omega)
  rw [e]
  rw [show (1 : Int) = ((1 : Nat) : Int) from rfl, h, Nat.and_one_is_mod]
theorem or_shift {z s : Nat} (h : z ||| 2 ^ s = z + 2 ^ s) (hlt : z + 2 ^ s < 4294967296) : bits .or .u32 (z : Int) ((2 : Int) ^ s % 4294967296) = ((z + 2 ^ s : Nat) : Int) := by
  have e : (2 : Int) ^ s = ((2 ^ s : Nat) : Int) := by rw [Int.natCast_pow]; rfl
  have hp := Nat.two_pow_pos s
  rw [e, show ((2 ^ s : Nat) : Int) % 4294967296 = ((2 ^ s : Nat) : Int) from by omega, u32_or_nat _ _ (by omega) (by omega), h]
theorem limbs_len_two (R : Nat) : (limbs (2 * R)).length ≤ (limbs R).length + 1 := by
  have h := limbs_len_mul 2 R
  rw [show (limbs 2).length = 1 from rfl] at h
  omega
set_option maxRecDepth 100000 in
set_option maxHeartbeats 4000000 in
theorem refLongDiv (w : World) (v1 v2 : Value) (xs ys : List Nat) (b1 b2 : Nat) (h1 : Nt b1 w v1 xs) (h2 : Nt b2 w v2 ys) (hL1 : xs.length ≤ 500000000000) (hL2 : ys.length ≤ 500000000000)
    (hn1 : 0 < val ys) (x y : Nat) (o1 o2 : Bool) (ho : (o1 && o2) = false) (ho2 : (o2 && decide ((y : Int) < 4294967296)) = false)
    (A1 : Hid (∀ w1, Below w.heap.size w w1 → Calls Tryz.prog 144 #[v1] w1 fun e w' => e = .returned (.tuple #[.int .u64 (x : Int), .bool o1]) ∧ Below w1.heap.size w1 w'))
    (A2 : Hid (∀ w1, Below w.heap.size w w1 → Calls Tryz.prog 144 #[v2] w1 fun e w' => e = .returned (.tuple #[.int .u64 (y : Int), .bool o2]) ∧ Below w1.heap.size w1 w')) :
    Calls Tryz.prog 88 #[v1, v2] w fun e w' => ∃ v u, e = .returned (.tuple #[v, u, .bool true]) ∧ Nt w.heap.size w' v (limbs (val xs / val ys)) ∧ Nt w.heap.size w' u (limbs (val xs % val ys)) ∧ Below w.heap.size w w' := by
  have T2 := Lib.hid (refTrim w v2 ys b2 h2 (by omega))
  have X1 := Lib.hid h1.lt
  have X2 := Lib.hid h2.lt
  have hl0 : (limbs (val ys)).length ≠ 0 := fun h => by have := limbs_len_zero.1 h; omega
  have hz : (((limbs (val ys)).length : Int) == 0) = false := beq_eq_false_iff_ne.2 (by omega)
  have C2 := Lib.hid (fun w1 u zs b (hb : Below w.heap.size w w1) (hu : Nt b w1 u zs) (hl : zs.length ≤ 1000000000000) => refCmp w1 u v2 zs ys b b2 hu (h2.below hb (Nat.le_refl _)) (by omega) (by omega))
  have C3 := Lib.hid (fun w1 u zs b (hb : Below w.heap.size w w1) (hu : Nt b w1 u zs) (hl : zs.length ≤ 1000000000000) => refSub w1 u v2 zs ys b b2 hu (h2.below hb (Nat.le_refl _)) (by omega) (by omega))
  have LY := Lib.hid (limbs_len_val X2.out)
  have HN := Lib.hid hn1
  unfold RetNat at T2
  unfold RetCmp at C2
  unfold RetNatOk at C3
  have hcase : (o1 = false ∧ o2 = false) ∨ (o1 = true ∧ o2 = false) ∨ (o1 = false ∧ o2 = true ∧ decide ((y : Int) < 4294967296) = false) := by
    cases o1 <;> cases o2 <;> simp_all
  obtain ⟨ao1, c1, rfl, _⟩ := h1.open
  obtain ⟨ao2, c2, rfl, _⟩ := h2.open
  clear h2 hl0 hn1 ho ho2
  have HLY := LY.out
  generalize hn : val ys = n at *
  clear hn
  generalize hY : limbs n = Y at *
  have HY := Lib.hid hY
  clear hY
  have N1 := Lib.hid (rfl : xs.length = xs.length)
  generalize hn1' : xs.length = n1 at *
  replace N1 := Lib.hid hn1'
  clear hn1'
  generalize ys.length = n2 at *
  rcases hcase with ⟨rfl, rfl⟩ | ⟨rfl, rfl⟩ | ⟨rfl, rfl, hyb⟩
  all_goals
    go_enter Tryz.func88, Tryz.ntmps88
    go_wp2_with fail
    refine T2.out.mono ?_
    rintro e w1 ⟨u, rfl, t, hb⟩
    obtain ⟨ao, c, rfl, _⟩ := t.open
    go_wp2_with fail
    refine (A1.out _ hb).mono ?_
    rintro e w2 ⟨rfl, hb2⟩
    go_wp2_with fail
    refine (A2.out _ (bthen hb hb2)).mono ?_
    rintro e w3 ⟨rfl, hb3⟩
    have hb03 := bthen (bthen hb hb2) hb3
    clear hb hb2 hb3 t A1 A2 T2
    go_wp2_with (refine wpList_make_row _ rfl (.tmp 57) (.tmp 57) 22 46 rfl Tryz.underlying22 Tryz.infoU32 n1 _ _ rfl rfl (by omega) (by omega) (by omega) ?_; intro w4 hR hB4 hsz)
    go_wp2_with fail
    (try clear hyb)
    generalize hg : w3.heap.size = g at *
    have hwg : w.heap.size ≤ g := by rw [← hg]; exact hb03.size
    have HG := Lib.hid hg
    clear hg
    go_loopw [14, 15] (fun v i wr => ∃ (k R : Nat) (zs : List Nat), k ≤ 32 * n1 ∧ i = .int .i64 ((k : Int) - 1) ∧ Nt 0 wr v (limbs R) ∧ Hid (∃ b, w.heap.size ≤ b ∧ Nt b wr v (limbs R)) ∧ RowIs 46 wr g zs ∧ Hid (BitInv xs zs n k R) ∧ Below w.heap.size w wr ∧ g < wr.heap.size) (fun _ i _ => ((intOf i) + 1).toNat)
    case atStart => exact ⟨32 * n1, 0, _, Nat.le_refl _, by first | rfl | (congr 1; omega), Nt.nil _ _, Lib.hid ⟨w.heap.size, Nat.le_refl _, Nt.nil _ _⟩, hR, Lib.hid (by have := bitInv_zero xs X1.out n HN.out; rw [N1.out] at this; exact this), hb03.trans (hB4.mono hwg), hsz⟩
    case round =>
      obtain ⟨k, R, zs, hk, rfl, hr0, hr, hRz, hinv, hBw, hgs⟩ := hrel
      have hzl := Lib.hid hinv.out.1
      obtain ⟨aor, cr, rfl, _⟩ := hr0.open
      by_cases h0 : k = 0
      · subst h0
        obtain ⟨he1, he2⟩ := bitInv_end hinv.out
        obtain ⟨rb, hrb, hr2⟩ := hr.out
        have hnt := hRz.nt (n := n1) (cap := n1) (by rw [hzl.out, N1.out]) (Nat.le_refl _) hinv.out.2.1
        have Q1 := Lib.hid (refTrim wr _ zs _ hnt (by rw [hzl.out, N1.out]; omega))
        have hRl : (limbs R).length ≤ 8000000000000 := by
          have := limbs_len_mono (Nat.le_of_lt hinv.out.2.2.1)
          rw [HY.out] at this
          omega
        have Q2 := Lib.hid (fun w1 (hb : Below wr.heap.size wr w1) => refTrim w1 _ (limbs R) _ (hr2.below hb (Nat.le_refl _)) hRl)
        rw [he1] at Q1
        rw [val_limbs, he2] at Q2
        clear hnt hr0 hr hr2 hRl
        go_wp2_with fail
        refine Q1.out.mono ?_
        rintro e w5 ⟨u5, rfl, t5, hb5⟩
        go_wp2_with fail
        refine (Q2.out _ hb5).mono ?_
        rintro e w6 ⟨u6, rfl, t6, hb6⟩
        go_wp2
        go_ret3
        exact ⟨_, _, rfl, (t5.below hb6 (Nat.le_refl _)).mono hBw.size, t6.mono (Nat.le_trans hBw.size hb5.size), bthen hBw (bthen hb5 hb6)⟩
      · obtain ⟨i, rfl⟩ : ∃ i, k = i + 1 := ⟨k - 1, by omega⟩
        have hi1 : ((i + 1 : Nat) : Int) - 1 = (i : Int) := by omega
        rw [hi1]
        clear hi1
        have hil : i / 32 < n1 := by omega
        obtain ⟨b3, off, rfl, _, hb3, hcD⟩ := h1.at_some (k := i / 32) (by rw [N1.out]; exact hil)
        have hd : wr.cell? ⟨b3, off + i / 32, none⟩ = some (.int .u32 ((xs.getD (i / 32) 0 : Nat) : Int)) := by rw [hBw.cell hb3]; exact hcD (i / 32) (by rw [N1.out]; exact hil)
        have bx := getD_lt X1.out (i / 32)
        have HBt := Lib.hid (bit_at xs X1.out i (by rw [N1.out]; exact hil))
        have hRl : (limbs R).length ≤ 500000000000 := by
          have := limbs_len_mono (Nat.le_of_lt hinv.out.2.2.1)
          rw [HY.out] at this
          omega
        have S1 := Lib.hid (refShiftUp wr _ (limbs R) 0 1 hr0 (by omega) (by omega))
        rw [val_limbs, Nat.pow_one, Nat.mul_comm] at S1
        unfold RetNat at S1
        clear hcD hr0 hr
        go_wp2_with fail
        refine S1.out.mono ?_
        rintro e w5 ⟨u5, rfl, t5, hb5⟩
        have hd5 := cell_later hb5 hd
        have hbb5 := bthen hBw hb5
        have hgs5 := Nat.lt_of_lt_of_le hgs hb5.size
        have hR5 := hRz.below hb5 hgs
        have hslt : i % 32 < 32 := Nat.mod_lt _ (by omega)
        have hrow := hR5.cell (i := i / 32) (by rw [hzl.out, N1.out]; exact hil)
        have hfr := hR5.frozen (i / 32)
        have YES := Lib.hid (fun R2 => bitInv_yes (R2 := R2) hinv.out (by rw [N1.out]; exact hil))
        have NO := Lib.hid (fun R2 => bitInv_no (R2 := R2) hinv.out)
        rw [HBt.out] at YES NO
        have hrb0 := hBw.size
        have hb5s := hb5.size
        have hrow5 := hrow
        have hfr5 := hfr
        clear hd hb5 hRz hgs hBw hinv
        generalize xs.getD (i / 32) 0 = x at *
        generalize zs.getD (i / 32) 0 = z at *
        generalize hLi : i / 32 = L at *
        generalize hsi : i % 32 = s at *
        have e1 : (i : Int) / 32 = (L : Int) := by omega
        have e2 : (i : Int) % 32 = (s : Int) := by omega
        clear hLi hsi
        have hrb : w.heap.size ≤ wr.heap.size := hrb0
        have eb : bits .and .u32 ((x : Int) / 2 ^ s) 1 = ((x / 2 ^ s % 2 : Nat) : Int) := and_one_bit x s bx
        by_cases hbit : x / 2 ^ s % 2 = 1
        · have q3 : (bits .and .u32 ((x : Int) / 2 ^ s) 1 == 1) = true := by rw [eb, hbit]; rfl
          have hlit := nt_one 46 w5 1 1 rfl (by omega)
          have hba : Below w5.heap.size w5 (w5.alloc (.cells #[.int .u32 1] 46)) := (Below.refl _ _).alloc (Nat.le_refl _) _
          have D1 := Lib.hid (refAdd _ _ _ (limbs (2 * R)) [1] _ _ (t5.below hba (Nat.le_refl _)) hlit (Nat.le_trans (limbs_len_two R) (by omega)) (by simp))
          rw [val_limbs, show val [1] = 1 from rfl] at D1
          unfold RetNat at D1
          rw [World.size_alloc] at D1
          have lr2 : (limbs (2 * R + 1)).length ≤ 1000000000000 := by
            have a := limbs_len_add (2 * R) 1
            have b := limbs_len_two R
            rw [show (limbs 1).length = 1 from rfl] at a
            omega
          clear eb hlit
          go_wp2_with fail
          refine D1.out.mono ?_
          rintro e w6 ⟨u6, rfl, t6, hb6⟩
          have hbb6 : Below w.heap.size w w6 := hbb5.trans ((hba.trans (hb6.mono (Nat.le_succ _))).mono hbb5.size)
          have hb56 : Below w5.heap.size w5 w6 := hba.trans (hb6.mono (Nat.le_succ _))
          have hR6 := hR5.below hb56 hgs5
          have hrow6 := cell_later hb56 hrow
          have hfr6 := hR6.frozen L
          have hgs6 := Nat.lt_of_lt_of_le hgs5 hb56.size
          replace t6 := t6.mono (base' := wr.heap.size) (Nat.le_trans hb5s (Nat.le_succ _))
          clear hba hb6 hb56 D1 hR5 hrow hfr
          have D2 := Lib.hid (C2.out w6 u6 (limbs (2 * R + 1)) _ hbb6 t6 lr2)
          rw [val_limbs] at D2
          have D3 := Lib.hid (fun wz (hb : Below w6.heap.size w6 wz) => C3.out wz u6 (limbs (2 * R + 1)) _ (bthen hbb6 hb) (t6.below hb (Nat.le_refl _)) lr2)
          simp only [val_limbs] at D3
          by_cases hge : n ≤ 2 * R + 1
          · have q5 : decide (0 ≤ cmpI (2 * R + 1) n) = true := by have := @cmpI_lt_zero (2 * R + 1) n; simp; omega
            obtain ⟨y1, y2, y3⟩ := YES.out (2 * R + 1) (by rw [hbit]) hge
            have Y1 := Lib.hid y1
            have Y3 := Lib.hid (or_shift y2 y3)
            clear y1 y2 y3 YES NO
            rw [decide_eq_true hge] at D3
            generalize cmpI (2 * R + 1) n = cc at *
            go_wp2_with fail
            refine D2.out.mono ?_
            rintro e w7 ⟨rfl, hb7⟩
            go_wp2_with fail
            refine (D3.out _ hb7).mono ?_
            rintro e w8 ⟨u8, rfl, t8, hb8⟩
            have hbA := bthen hb7 hb8
            obtain ⟨hrow8, hfr8⟩ : w8.cell? ⟨g, L, none⟩ = some (.int .u32 (z : Int)) ∧ w8.frozen? ⟨g, L, none⟩ = false := ⟨by rw [hbA.cell (by show g < _; omega)]; exact hrow6, by rw [hbA.frozen (by show g < _; omega)]; exact hfr6⟩
            have e3 := Y3.out
            go_wp2
            go_roundw
            case rel => exact ⟨i, _, _, by omega, by first | rfl | (congr 1; omega), (t8.set (g := g) (by have := hb7.size; omega)).mono (Nat.zero_le _), Lib.hid ⟨_, by have := hb7.size; have := hbb6.size; omega, t8.set (g := g) (by have := hb7.size; omega)⟩, (hR6.below hbA (by omega)).storeI L _ _ rfl, Y1, (bthen hbb6 hbA).setCell hwg _, by have := hbA.size; simp; omega⟩
            case measure => simp [intOf]
          · have q5 : decide (0 ≤ cmpI (2 * R + 1) n) = false := by have := @cmpI_lt_zero (2 * R + 1) n; simp; omega
            have N2 := Lib.hid (NO.out (2 * R + 1) (by rw [hbit]) (by omega))
            clear YES NO D3
            generalize cmpI (2 * R + 1) n = cc at *
            go_wp2_with fail
            refine D2.out.mono ?_
            rintro e w7 ⟨rfl, hb7⟩
            go_wp2
            go_roundw
            case rel => exact ⟨i, _, _, by omega, by first | rfl | (congr 1; omega), (t6.below hb7 (Nat.le_refl _)).mono (Nat.zero_le _), Lib.hid ⟨_, hrb, t6.below hb7 (Nat.le_refl _)⟩, hR6.below hb7 (by omega), N2, bthen hbb6 hb7, by have := hb7.size; omega⟩
            case measure => simp [intOf]
        · have hbit0 : x / 2 ^ s % 2 = 0 := by omega
          have q3 : (bits .and .u32 ((x : Int) / 2 ^ s) 1 == 1) = false := by rw [eb, hbit0]; rfl
          have lr2 : (limbs (2 * R)).length ≤ 1000000000000 := Nat.le_trans (limbs_len_two R) (by omega)
          clear eb
          have D2 := Lib.hid (C2.out w5 u5 (limbs (2 * R)) _ hbb5 t5 lr2)
          rw [val_limbs] at D2
          have D3 := Lib.hid (fun wz (hb : Below w5.heap.size w5 wz) => C3.out wz u5 (limbs (2 * R)) _ (bthen hbb5 hb) (t5.below hb (Nat.le_refl _)) lr2)
          simp only [val_limbs] at D3
          by_cases hge : n ≤ 2 * R
          · have q5 : decide (0 ≤ cmpI (2 * R) n) = true := by have := @cmpI_lt_zero (2 * R) n; simp; omega
            obtain ⟨y1, y2, y3⟩ := YES.out (2 * R) (by rw [hbit0, Nat.add_zero]) hge
            have Y1 := Lib.hid y1
            have Y3 := Lib.hid (or_shift y2 y3)
            clear y1 y2 y3 YES NO
            rw [decide_eq_true hge] at D3
            generalize cmpI (2 * R) n = cc at *
            go_wp2_with fail
            refine D2.out.mono ?_
            rintro e w7 ⟨rfl, hb7⟩
            go_wp2_with fail
            refine (D3.out _ hb7).mono ?_
            rintro e w8 ⟨u8, rfl, t8, hb8⟩
            have hbA := bthen hb7 hb8
            obtain ⟨hrow8, hfr8⟩ : w8.cell? ⟨g, L, none⟩ = some (.int .u32 (z : Int)) ∧ w8.frozen? ⟨g, L, none⟩ = false := ⟨by rw [hbA.cell (by show g < _; omega)]; exact hrow5, by rw [hbA.frozen (by show g < _; omega)]; exact hfr5⟩
            have e3 := Y3.out
            go_wp2
            go_roundw
            case rel => exact ⟨i, _, _, by omega, by first | rfl | (congr 1; omega), (t8.set (g := g) (by have := hb7.size; omega)).mono (Nat.zero_le _), Lib.hid ⟨_, by have := hb7.size; have := hbb5.size; omega, t8.set (g := g) (by have := hb7.size; omega)⟩, (hR5.below hbA (by omega)).storeI L _ _ rfl, Y1, (bthen hbb5 hbA).setCell hwg _, by have := hbA.size; simp; omega⟩
            case measure => simp [intOf]
          · have q5 : decide (0 ≤ cmpI (2 * R) n) = false := by have := @cmpI_lt_zero (2 * R) n; simp; omega
            have N2 := Lib.hid (NO.out (2 * R) (by rw [hbit0, Nat.add_zero]) (by omega))
            clear YES NO D3
            generalize cmpI (2 * R) n = cc at *
            go_wp2_with fail
            refine D2.out.mono ?_
            rintro e w7 ⟨rfl, hb7⟩
            go_wp2
            go_roundw
            case rel => exact ⟨i, _, _, by omega, by first | rfl | (congr 1; omega), (t5.below hb7 (Nat.le_refl _)).mono (Nat.zero_le _), Lib.hid ⟨_, hrb, t5.below hb7 (Nat.le_refl _)⟩, hR5.below hb7 (by omega), N2, bthen hbb5 hb7, by have := hb7.size; omega⟩
            case measure => simp [intOf]
set_option maxRecDepth 100000 in
set_option maxHeartbeats 2000000 in
theorem refDivMod (w : World) (v1 v2 : Value) (xs ys : List Nat) (b1 b2 : Nat) (h1 : Nt b1 w v1 xs) (h2 : Nt b2 w v2 ys) (hL1 : xs.length ≤ 500000000000) (hL2 : ys.length ≤ 500000000000) :
    Calls Tryz.prog 88 #[v1, v2] w (RetDivMod (val xs) (val ys) w) := by
  have T2 := Lib.hid (refTrim w v2 ys b2 h2 (by omega))
  have X1 := Lib.hid h1.lt
  have X2 := Lib.hid h2.lt
  by_cases hn0 : val ys = 0
  · rw [hn0] at T2 ⊢
    unfold RetNat at T2
    rw [limbs_zero] at T2
    have hz : ((([] : List Nat).length : Int) == 0) = true := by decide
    go_enter Tryz.func88, Tryz.ntmps88
    go_wp2_with fail
    refine T2.out.mono ?_
    rintro e w1 ⟨u, rfl, t, hb⟩
    obtain ⟨ao, c, rfl, _⟩ := t.open
    go_wp2
    go_ret3
    exact ⟨_, _, rfl, by rw [Nat.div_zero]; exact Nt.nil _ _, by rw [if_pos rfl]; exact Nt.nil _ _, hb⟩
  · have A1 := Lib.hid (fun w1 (hb : Below w.heap.size w w1) => refTo w1 v1 xs b1 (h1.below hb (Nat.le_refl _)) (by omega))
    have A2 := Lib.hid (fun w1 (hb : Below w.heap.size w w1) => refTo w1 v2 ys b2 (h2.below hb (Nat.le_refl _)) (by omega))
    have hl0 : (limbs (val ys)).length ≠ 0 := fun h => hn0 (limbs_len_zero.1 h)
    have hz : (((limbs (val ys)).length : Int) == 0) = false := beq_eq_false_iff_ne.2 (by omega)
    have HRet : ∀ (e : Ending) (w' : World), (∃ v u, e = .returned (.tuple #[v, u, .bool true]) ∧ Nt w.heap.size w' v (limbs (val xs / val ys)) ∧ Nt w.heap.size w' u (limbs (val xs % val ys)) ∧ Below w.heap.size w w') → RetDivMod (val xs) (val ys) w e w' := by
      rintro e w' ⟨v, u, rfl, h1, h2, h3⟩
      exact ⟨v, u, by rw [show decide (val ys ≠ 0) = true by simp; exact hn0], h1, by rw [if_neg hn0]; exact h2, h3⟩
    have HR := Lib.hid HRet
    clear HRet
    have hn1 : 0 < val ys := Nat.pos_of_ne_zero hn0
    by_cases hy : val ys < 18446744073709551616
    · simp only [if_pos hy, decide_eq_true hy] at A2
      by_cases hx : val xs < 18446744073709551616
      · simp only [if_pos hx, decide_eq_true hx] at A1
        have O1 := Lib.hid (fun w1 => refOf w1 (val xs / val ys) (Nat.lt_of_le_of_lt (Nat.div_le_self _ _) hx))
        have O2 := Lib.hid (fun w1 => refOf w1 (val xs % val ys) (Nat.lt_of_le_of_lt (Nat.mod_le _ _) hx))
        rw [Int.natCast_ediv] at O1
        rw [Int.natCast_emod] at O2
        unfold RetNat at T2 O1 O2
        generalize val xs / val ys = q at *
        generalize val xs % val ys = r at *
        generalize limbs (val ys) = Y at *
        generalize val xs = m at *
        generalize val ys = n at *
        have h1' : ((n : Int) != 0) = true := by simp; omega
        have w1' : IntKind.u64.wrap ((m : Int) / n) = (m : Int) / n := by
          have a := Int.ediv_le_self (a := (m : Int)) n (by omega)
          have b := Int.ediv_nonneg (a := (m : Int)) (b := n) (by omega) (by omega)
          exact IntWalk.u64_in _ (by omega)
        have w2' : (m : Int).tmod n = (m : Int) % n := Int.tmod_eq_emod_of_nonneg (by omega)
        go_enter Tryz.func88, Tryz.ntmps88
        go_wp2_with fail
        refine T2.out.mono ?_
        rintro e w1 ⟨u, rfl, t, hb⟩
        obtain ⟨ao, c, rfl, _⟩ := t.open
        go_wp2_with fail
        refine (A1.out _ hb).mono ?_
        rintro e w2 ⟨rfl, hb2⟩
        go_wp2_with fail
        refine (A2.out _ (bthen hb hb2)).mono ?_
        rintro e w3 ⟨rfl, hb3⟩
        go_wp2_with fail
        have b0 : Below w3.heap.size w3 w3.drew := (Below.refl _ _).drew
        go_region_held3 (fun _ => True) (trivial)
          (first
            | ((go_simp; go_at_call 14; (with_reducible refine (O1.out w3.drew).mono ?_); rintro e w4 ⟨u1, rfl, t1, hb4⟩))
            | ((go_simp; go_at_call 14; (with_reducible refine (O2.out w4).mono ?_); rintro e w5 ⟨u2, rfl, t2, hb5⟩)))
        go_wp2
        go_ret3
        have hbA := bthen (bthen (bthen hb hb2) hb3) (bthen b0 hb4)
        exact HR.out _ _ ⟨_, _, rfl, (t1.below hb5 (Nat.le_refl _)).mono (bthen (bthen hb hb2) hb3).size, t2.mono hbA.size, bthen hbA hb5⟩
      · simp only [if_neg hx, decide_eq_false hx] at A1
        by_cases hs : val ys < 4294967296
        · have S1 := Lib.hid (fun w1 (hb : Below w.heap.size w w1) => refSmall w1 v1 xs b1 (val ys) (h1.below hb (Nat.le_refl _)) hn1 hs (by omega))
          have O2 := Lib.hid (fun w1 => refOf w1 (val xs % val ys) (by have := Nat.mod_lt (val xs) hn1; omega))
          unfold RetNat at T2 O2
          unfold RetNatInt at S1
          have hs' : decide ((val ys : Int) < 4294967296) = true := by simp; omega
          have SL := Lib.hid (fun w1 (hb : Below w.heap.size w w1) => S1.out w1 hb)
          clear S1
          generalize limbs (val xs / val ys) = Q at *
          generalize val xs % val ys = r at *
          generalize limbs (val ys) = Y at *
          generalize val ys = n at *
          go_enter Tryz.func88, Tryz.ntmps88
          go_wp2_with fail
          refine T2.out.mono ?_
          rintro e w1 ⟨u, rfl, t, hb⟩
          obtain ⟨ao, c, rfl, _⟩ := t.open
          go_wp2_with fail
          refine (A1.out _ hb).mono ?_
          rintro e w2 ⟨rfl, hb2⟩
          go_wp2_with fail
          refine (A2.out _ (bthen hb hb2)).mono ?_
          rintro e w3 ⟨rfl, hb3⟩
          go_wp2_with fail
          refine (SL.out _ (bthen (bthen hb hb2) hb3)).mono ?_
          rintro e w4 ⟨u4, rfl, t4, hb4⟩
          go_wp2_with fail
          refine (O2.out _).mono ?_
          rintro e w5 ⟨u5, rfl, t5, hb5⟩
          go_wp2
          go_ret3
          have hbA := bthen (bthen hb hb2) hb3
          exact HR.out _ _ ⟨_, _, rfl, (t4.below hb5 (Nat.le_refl _)).mono hbA.size, t5.mono (bthen hbA hb4).size, bthen hbA (bthen hb4 hb5)⟩
        · have hs' : decide ((val ys : Int) < 4294967296) = false := by simp; omega
          exact (refLongDiv w v1 v2 xs ys b1 b2 h1 h2 hL1 hL2 hn1 _ _ _ _ (by simp) (by simp [hs']) A1 A2).mono (fun e w' h => HR.out e w' h)
    · simp only [if_neg hy, decide_eq_false hy] at A2
      exact (refLongDiv w v1 v2 xs ys b1 b2 h1 h2 hL1 hL2 hn1 _ _ _ _ (by simp) (by simp) A1 A2).mono (fun e w' h => HR.out e w' h)
set_option maxRecDepth 100000 in
set_option maxHeartbeats 1000000 in
theorem refGcd (w : World) (v1 v2 : Value) (xs ys : List Nat) (b1 b2 : Nat) (h1 : Nt b1 w v1 xs) (h2 : Nt b2 w v2 ys) (hL1 : xs.length ≤ 500000000000) (hL2 : ys.length ≤ 500000000000) :
    Calls Tryz.prog 87 #[v1, v2] w (RetNat (Nat.gcd (val xs) (val ys)) w) := by
  have l1 := limbs_len_val h1.lt
  have l2 := limbs_len_val h2.lt
  have G1 := Lib.hid (refTrim w v1 xs b1 h1 (by omega))
  have G2 := Lib.hid (fun w1 (hb : Below w.heap.size w w1) => refTrim w1 v2 ys b2 (h2.below hb (Nat.le_refl _)) (by omega))
  clear h1 h2
  generalize val xs = m at *
  generalize val ys = n at *
  generalize xs.length = n1 at *
  generalize ys.length = n2 at *
  have hm : (limbs m).length ≤ 500000000000 := by omega
  have hn : (limbs n).length ≤ 500000000000 := by omega
  clear hL1 hL2 l1 l2
  go_enter Tryz.func87, Tryz.ntmps87
  go_wp2_with fail
  refine G1.out.mono ?_
  rintro e w1 ⟨u1, rfl, t1, hb1⟩
  go_wp2_with fail
  refine (G2.out w1 hb1).mono ?_
  rintro e w2 ⟨u2, rfl, t2, hb2⟩
  replace t1 := t1.below hb2 (Nat.le_refl _)
  replace t2 := t2.mono hb1.size
  have hb := bthen hb1 hb2
  clear hb1 hb2 G1 G2
  go_wp2
  generalize hg : w.heap.size = g0 at *
  have HG := Lib.hid hg
  clear hg
  go_loopg [5, 6] n (fun g s0 s1 wr => ∃ p q : Nat, g = q ∧ Nt g0 wr s0 (limbs p) ∧ Nt g0 wr s1 (limbs q) ∧ Hid (Nat.gcd p q = Nat.gcd m n) ∧ (limbs p).length ≤ 500000000000 ∧ (limbs q).length ≤ 500000000000 ∧ Below g0 w wr ∧ g0 ≤ wr.heap.size)
  case atStart => exact ⟨m, n, rfl, t1, t2, rfl, hm, hn, hb, by have := hb.size; have := HG.out; omega⟩
  case round =>
    obtain ⟨p, q, hgq, hp, hq, hpq, lp, lq, hBw, hgs⟩ := hrel
    obtain ⟨ao1, c1, rfl, hc1⟩ := hp.open
    obtain ⟨ao2, c2, rfl, hc2⟩ := hq.open
    by_cases hq0 : q = 0
    · subst hq0
      have hr : p = Nat.gcd m n := by rw [← hpq.out, Nat.gcd_zero_right]
      have HR := Lib.hid hr
      rw [limbs_zero]
      clear hr
      go_wp2
      go_ret
      exact ⟨_, rfl, by rw [HG.out, ← HR.out]; exact hp, by rw [HG.out]; exact hBw⟩
    · have hl0 : 0 < (limbs q).length := Nat.pos_of_ne_zero fun h => hq0 (limbs_len_zero.1 h)
      have CD := Lib.hid (refDivMod wr _ _ (limbs p) (limbs q) g0 g0 hp hq lp lq)
      rw [val_limbs, val_limbs] at CD
      have hlt : p % q < q := Nat.mod_lt _ (by omega)
      have hg2 : Nat.gcd q (p % q) = Nat.gcd m n := by rw [← hpq.out, Nat.gcd_comm p q, Nat.gcd_rec q p, Nat.gcd_comm]
      have HG2 := Lib.hid hg2
      have lr : (limbs (p % q)).length ≤ 500000000000 := Nat.le_trans (limbs_len_mono (Nat.le_of_lt hlt)) lq
      have hif : (if q = 0 then 0 else p % q) = p % q := if_neg hq0
      unfold RetDivMod at CD
      rw [hif] at CD
      have HQ := Lib.hid hgq
      clear hif hg2 hpq hgq
      generalize p % q = r at *
      go_wp2_with (refine CD.out.mono ?_; rintro e w3 ⟨v3, u3, rfl, _, hn3, hb3⟩)
      go_roundg r
      case measure => have := HQ.out; omega
      case rel => exact ⟨q, r, rfl, hq.below hb3 (Nat.le_refl _), hn3.mono hgs, HG2.out, lq, lr, hBw.trans (hb3.mono hgs), Nat.le_trans hgs hb3.size⟩
end Go.Proofs.YtocpmekblkfdiaaGreatDoor
