/- vernierref1.Shift beyond 4096 digits: it is held at 4096. Conditions: at most 10^12 limbs. -/
import Derived.Test.YtnjgliojkoeneaaGreatRefShift
namespace Go.Proofs.YtnjgliojkoeneaaGreat
open Go.RowKit
attribute [local go_sem ↓] Go.wp_at_zero Go.wp_at_succ
def shiftC (m : Nat) (n : Int) : Nat := if 0 ≤ n then m * 2 ^ n.toNat else m / 2 ^ (-n).toNat
theorem shiftC_up (m k : Nat) : shiftC m (k : Int) = m * 2 ^ k := by unfold shiftC; rw [if_pos (by omega)]; rfl
theorem shiftC_dn (m k : Nat) : shiftC m (-(k : Int)) = m / 2 ^ k := by
  unfold shiftC
  by_cases h : k = 0
  · subst h; simp
  · rw [if_neg (by omega), Int.neg_neg]; rfl
set_option maxRecDepth 100000 in
set_option maxHeartbeats 1000000 in
theorem refShiftUpB (w : World) (v : Value) (xs : List Nat) (base : Nat) (N : Int) (h : Nt base w v xs) (hN : 4096 < N) (hL : xs.length ≤ 1000000000000) :
    Calls Tryz.prog 51 #[v, .int .i64 N] w (RetNat (shiftC (val xs) 4096) w) := by
  obtain ⟨k, hk⟩ : ∃ k : Nat, k = 4096 := ⟨_, rfl⟩
  have hk2 : k ≤ 4096 := by omega
  have HKK : Hid ((4096 : Int) = (k : Int)) := Lib.hid (by omega)
  rw [HKK.out, shiftC_up]
  have q1 : (-4096 : Int) ≤ N := by omega
  have q2 : ¬ N ≤ 4096 := by omega
  clear hk
  have CT := Lib.hid (refTrim w v xs base h (by omega))
  have l1 := limbs_len_val h.lt
  obtain ⟨L, hLk⟩ : ∃ L, L = k / 32 := ⟨_, rfl⟩
  obtain ⟨by_, hby⟩ : ∃ b, b = k % 32 := ⟨_, rfl⟩
  have HK : Hid (k = 32 * L + by_) := Lib.hid (by omega)
  have hb32 : by_ < 32 := by omega
  have e1 : (k : Int) / 32 = (L : Int) := by omega
  have e2 : (k : Int) % 32 = (by_ : Int) := by omega
  have hLb : L ≤ 4096 := by omega
  have k0 : decide ((k : Int) < 0) = false := by simp
  clear hLk hby h
  generalize hm : val xs = m at *
  clear hm
  have X1 := Lib.hid (limbs_lt m)
  have V := Lib.hid (val_limbs m)
  unfold RetNat at CT
  generalize limbs m = T at *
  go_enter Tryz.func51, Tryz.ntmps51
  go_wp2_with fail
  rw [HKK.out]
  refine CT.out.mono ?_
  rintro e w1 ⟨u, rfl, t, hb⟩
  obtain ⟨ao, c, rfl, hcap⟩ := t.open
  have C1 := Lib.hid (fun w2 i (hb2 : Below w1.heap.size w1 w2) => refAt w2 _ _ _ i (t.below hb2 (Nat.le_refl _)))
  go_wp2_with (refine wpList_make_own _ rfl (.tmp 60) (.tmp 60) 22 50 rfl Tryz.underlying22 Tryz.infoU32 L _ _ rfl rfl (by omega) (by omega) (by omega) ?_; intro w2 hR hB hsz)
  try rw [e2]
  go_loopw [10, 12, 13, 14] (fun v c i _ wr => ∃ (j low : Nat) (zs : List Nat), j ≤ T.length + 1 ∧ i = .int .i64 j ∧ c = .int .u64 low ∧ wr.ownsRow w1.heap.size 50 1 v (L + j) (u32s zs) ∧ Hid (UpApp T zs L by_ j low) ∧ Below w1.heap.size w1 wr ∧ Hid (j = T.length + 1 → low = 0)) (fun _ _ i _ _ => (T.length + 1) - (intOf i).toNat)
  case atStart => exact ⟨0, 0, _, Nat.zero_le _, rfl, rfl, hR, Lib.hid (upApp_zero T L by_), hB, Lib.hid (by omega)⟩
  case round =>
    obtain ⟨j, low, zs, hj, rfl, rfl, hown, hinv, hBw, hlz⟩ := hrel
    have q2 : IntKind.i64.wrap ((T.length : Int) + 1) = ((T.length + 1 : Nat) : Int) := by rw [IntWalk.i64_in _ (by omega)]; omega
    by_cases hjl : j < T.length + 1
    · have q1 : (j : Int) < ((T.length + 1 : Nat) : Int) := by omega
      have bv := getD_lt X1.out j
      have D1 := Lib.hid (C1.out wr j hBw)
      have hst := Lib.hid (upApp_step hinv.out hb32 X1.out rfl)
      have hl0 : Hid (j + 1 = T.length + 1 → T.getD j 0 * 2 ^ by_ / 4294967296 = 0) := Lib.hid (by intro hj2; rw [getD_of_len (by omega)]; simp)
      have W1 := up_word by_ (T.getD j 0) low hb32 bv hinv.out.2.2.1
      generalize T.getD j 0 = x at *
      obtain ⟨w1', w2', w3', w4'⟩ := W1
      have bl : low < 4294967296 := Nat.lt_of_lt_of_le hinv.out.2.2.1 (Nat.le_trans (Nat.pow_le_pow_right (by omega) (by omega : by_ ≤ 32)) (by decide))
      have es : (x : Int) * 2 ^ by_ = ((x * 2 ^ by_ : Nat) : Int) := by rw [Int.natCast_mul, Int.natCast_pow]; rfl
      have eo : bits .or .u64 ((x * 2 ^ by_ : Nat) : Int) (low : Int) = ((x * 2 ^ by_ + low : Nat) : Int) := by
        rw [u64_or_nat _ _ (by omega) (by omega), w1']
      clear w1' w2' w3'
      generalize x * 2 ^ by_ = y at *
      have L1 : L + j + 1 ≤ 30000000000000 := by omega
      have L2 : w1.heap.size ≤ wr.heap.size + 1 := Nat.le_succ_of_le hBw.size
      have HX := Lib.hid (nt_one 50 wr ((y + low) % 4294967296) (((y + low : Nat) : Int) % 4294967296) (by omega) (Nat.mod_lt _ (by omega)))
      go_wp2_with fail
      refine D1.out.mono ?_
      rintro e w3 ⟨rfl, rfl⟩
      go_wp2_with (at_builtin; refine wpList_append_row _ rfl _ _ 22 50 rfl Tryz.underlying22 Tryz.infoU32 w1.heap.size wr.heap.size (L + j) _ _ zs [(y + low) % 4294967296] rfl (hown.alloc _) rfl HX.out L1 (by rw [World.size_alloc]; exact L2) ?_; intro v' w3 ho hg)
      have hB1 : Below w1.heap.size w1 w3 := ((hBw.alloc hBw.size _).grown hg (by rw [World.size_alloc]; exact L2) (fun b hb => (hown.lt b hb).1))
      go_wp2
      go_roundw
      case rel => exact ⟨j + 1, y / 4294967296, _, by omega, by go_num, int_eq (by omega), ho, hst, hB1, hl0⟩
      case measure => simp [intOf]; omega
    · obtain rfl : j = T.length + 1 := by omega
      have q1 : ¬ ((T.length + 1 : Nat) : Int) < ((T.length + 1 : Nat) : Int) := by omega
      have hE := Lib.hid (upApp_end hinv.out (hlz.out rfl) HK.out V.out)
      have hnt := Nt.of_owns hown hinv.out.1.symm hinv.out.2.1
      have CT2 := Lib.hid (refTrim wr _ zs _ hnt (by have := hinv.out.1; omega))
      rw [hE.out] at CT2
      clear hnt hown
      go_wp2_with fail
      refine CT2.out.mono ?_
      rintro e w3 ⟨u, rfl, t2, hb2⟩
      go_wp2
      go_ret
      exact ⟨_, rfl, t2.mono (Nat.le_trans hb.size hBw.size), bthen hb (bthen hBw hb2)⟩
set_option maxRecDepth 100000 in
set_option maxHeartbeats 1000000 in
theorem refShiftDownB (w : World) (v : Value) (xs : List Nat) (base : Nat) (N : Int) (h : Nt base w v xs) (hN : N < -4096) (hL : xs.length ≤ 1000000000000) :
    Calls Tryz.prog 51 #[v, .int .i64 N] w (RetNat (shiftC (val xs) (-4096)) w) := by
  obtain ⟨k, hk⟩ : ∃ k : Nat, k = 4096 := ⟨_, rfl⟩
  have hk2 : k ≤ 4096 := by omega
  have hk1 : 1 ≤ k := by omega
  have HKK : Hid ((-4096 : Int) = -(k : Int)) := Lib.hid (by omega)
  rw [HKK.out, shiftC_dn]
  have q1 : ¬ (-4096 : Int) ≤ N := by omega
  have q2 : N ≤ -4096 := by omega
  clear hk
  have CT := Lib.hid (refTrim w v xs base h (by omega))
  have l1 := limbs_len_val h.lt
  have h1 : (-4096 : Int) ≤ -(k : Int) := by omega
  obtain ⟨L, hLk⟩ : ∃ L, L = k / 32 := ⟨_, rfl⟩
  obtain ⟨by_, hby⟩ : ∃ b, b = k % 32 := ⟨_, rfl⟩
  have hkk : k = 32 * L + by_ := by omega
  have hb32 : by_ < 32 := by omega
  have e1 : (k : Int) / 32 = (L : Int) := by omega
  have e2 : (k : Int) % 32 = (by_ : Int) := by omega
  have HK := Lib.hid hkk
  have hLb : L ≤ 4096 := by omega
  clear hkk hLk hby h
  generalize hm : val xs = m at *
  clear hm
  have X1 := Lib.hid (limbs_lt m)
  unfold RetNat at CT
  by_cases hle : (limbs m).length ≤ L
  · have hr := Lib.hid (drop_none m L by_ k HK.out hle)
    generalize limbs m = A at *
    go_enter Tryz.func51, Tryz.ntmps51
    go_wp2_with fail
    rw [HKK.out]
    refine CT.out.mono ?_
    rintro e w1 ⟨u, rfl, t, hb⟩
    obtain ⟨ao, c, rfl, _⟩ := t.open
    go_wp2
    go_ret
    exact ⟨_, rfl, by rw [hr.out]; exact Nt.nil _ _, hb⟩
  · have hlt : L < (limbs m).length := by omega
    have HV := Lib.hid (drop_val m L by_ k HK.out (by omega))
    clear hle
    generalize limbs m = A at *
    have k1 : decide (A.length ≤ L) = false := by simp; exact hlt
    have k2 : decide (0 < k) = true := by simp; omega
    have TX := Lib.hid (fun x (hx : x ∈ A.drop L) => X1.out x (List.mem_of_mem_drop hx))
    go_enter Tryz.func51, Tryz.ntmps51
    go_wp2_with fail
    rw [HKK.out]
    refine CT.out.mono ?_
    rintro e w1 ⟨u, rfl, t, hb⟩
    obtain ⟨ao, c, rfl, hcap⟩ := t.open
    obtain ⟨b, off, rfl, _, _, _⟩ := t.at_some hlt
    have td := t.drop L (Nat.le_of_lt hlt)
    have HTL : Hid (A.length - L = (A.drop L).length) := Lib.hid List.length_drop.symm
    go_wp2
    have C1 := Lib.hid (fun w2 i (hb2 : Below w1.heap.size w1 w2) => refAt w2 _ _ _ i (td.below hb2 (Nat.le_refl _)))
    generalize A.drop L = T at *
    clear td
    rw [e2]
    go_loopw [8, 9] (fun v i wr => ∃ (j : Nat) (zs : List Nat), j ≤ A.length - L ∧ i = .int .i64 j ∧ wr.ownsRow w1.heap.size 50 1 v j (u32s zs) ∧ Hid (DownApp T zs by_ j) ∧ Below w1.heap.size w1 wr) (fun _ i _ => (A.length - L) - (intOf i).toNat)
    case atStart => exact ⟨0, [], Nat.zero_le _, rfl, World.ownsRow_nil _ _ _ _, Lib.hid (downApp_zero T by_), Below.refl _ _⟩
    case round =>
      obtain ⟨j, zs, hj, rfl, hown, hinv, hBw⟩ := hrel
      by_cases hjl : j < A.length - L
      · have bv := getD_lt TX.out j
        have bv2 := getD_lt TX.out (j + 1)
        have D1 := Lib.hid (C1.out wr j hBw)
        have D2 := C1.out wr (j + 1) hBw
        rw [show ((j + 1 : Nat) : Int) = (j : Int) + 1 from by omega] at D2
        replace D2 := Lib.hid D2
        have hst := Lib.hid (downApp_step hinv.out TX.out hb32 (by have := HTL.out; omega) rfl)
        generalize T.getD j 0 = x at *
        generalize T.getD (j + 1) 0 = x1 at *
        have hor := or_lo_hi x x1 bv2 bv
        have bu : x + x1 * 4294967296 < 18446744073709551616 := by omega
        generalize x + x1 * 4294967296 = u at *
        have L1 : j + 1 ≤ 30000000000000 := by omega
        have L2 : w1.heap.size ≤ wr.heap.size + 1 := Nat.le_succ_of_le hBw.size
        have HX := Lib.hid (nt_one 50 wr (u / 2 ^ by_ % 4294967296) ((u : Int) / 2 ^ by_ % 4294967296) (by rw [Int.natCast_emod, Int.natCast_ediv, Int.natCast_pow]; rfl) (Nat.mod_lt _ (by omega)))
        go_wp2_with fail
        refine D1.out.mono ?_
        rintro e w2 ⟨rfl, rfl⟩
        go_wp2_with fail
        refine D2.out.mono ?_
        rintro e w2 ⟨rfl, rfl⟩
        go_wp2_with (at_builtin; refine wpList_append_row _ rfl _ _ 22 50 rfl Tryz.underlying22 Tryz.infoU32 w1.heap.size wr.heap.size j _ _ zs [u / 2 ^ by_ % 4294967296] rfl (hown.alloc _) rfl HX.out L1 (by rw [World.size_alloc]; exact L2) ?_; intro v' w2 ho hg)
        have hB1 : Below w1.heap.size w1 w2 := ((hBw.alloc hBw.size _).grown hg (by rw [World.size_alloc]; exact L2) (fun b hb => (hown.lt b hb).1))
        go_wp2
        go_roundw
        case rel => exact ⟨j + 1, _, by omega, by go_num, ho, hst, hB1⟩
        case measure => simp [intOf]; omega
      · obtain rfl : j = A.length - L := by omega
        have hE := Lib.hid (downApp_end (T := T) (by have := HTL.out; rw [← this]; exact hinv.out) TX.out)
        have hnt := Nt.of_owns hown hinv.out.1.symm hinv.out.2.1
        have CT2 := Lib.hid (refTrim wr _ zs _ hnt (by have := hinv.out.1; omega))
        rw [hE.out, HV.out] at CT2
        clear hnt hown
        go_wp2_with fail
        refine CT2.out.mono ?_
        rintro e w2 ⟨u, rfl, t2, hb2⟩
        go_wp2
        go_ret
        exact ⟨_, rfl, t2.mono (Nat.le_trans hb.size hBw.size), bthen hb (bthen hBw hb2)⟩
end Go.Proofs.YtnjgliojkoeneaaGreat
