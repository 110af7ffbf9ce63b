/- Contracts of vernierref1.at, vernierref1.Add. Conditions: at most 10^12 limbs. Contract of vernierref1.Sub. Conditions: at most 10^12 limbs. Contract of vernierref1.Mul. Conditions: at most 10^12 limbs. Contracts of vernierref1.small, vernierref1.To, vernierref1.Bits. Conditions: at most 10^12 limbs. -/
import Derived.Test.YtocpmekblkfdiaaGreatDoorNatAdd
import Derived.Test.YtocpmekblkfdiaaGreatDoorGA
import Derived.Test.YtocpmekblkfdiaaGreatDoorGK
import Derived.Test.YtocpmekblkfdiaaGreatDoorGB
import Derived.BigQuiet
import Derived.Deep.QuietTactic
namespace Go.Proofs.YtocpmekblkfdiaaGreatDoor
open Go.RowKit
set_option maxHeartbeats 400000 in
theorem refAt (w : World) (v : Value) (xs : List Nat) (base k : Nat) (h : Nt base w v xs) :
    Calls Tryz.prog 61 #[v, .int .i64 (k : Int)] w fun e w' => e = .returned (.int .u64 ((xs.getD k 0 : Nat) : Int)) ∧ w = w' := by
  by_cases hk : k < xs.length
  · obtain ⟨ao, c, rfl, _⟩ := h.open
    obtain ⟨b, off, rfl, _, hb, hc⟩ := h.at_some hk
    have hd := hc k hk
    have bd := getD_lt h.lt k
    clear hc h
    generalize xs.getD k 0 = x at *
    generalize xs.length = n at *
    go_enter Tryz.func61, Tryz.ntmps61
    go_wp2
    go_ret
    exact ⟨rfl, rfl⟩
  · rw [getD_of_len (by omega)]
    obtain ⟨ao, c, rfl, _⟩ := h.open
    clear h
    generalize xs.length = n at *
    go_enter Tryz.func61, Tryz.ntmps61
    go_wp2
    go_ret
    exact ⟨rfl, rfl⟩
/-- the sum's limbs, after k of them: what has been appended, and the carry -/
def AddApp (D F zs : List Nat) (k c : Nat) : Prop :=
  zs.length = k ∧ (∀ x ∈ zs, x < 4294967296) ∧ c ≤ 1 ∧ val zs + 4294967296 ^ k * c = val (D.take k) + val (F.take k)
theorem addApp_zero (D F : List Nat) : AddApp D F [] 0 0 := ⟨rfl, by simp, by omega, by simp [val]⟩
theorem val_snoc (zs : List Nat) (x : Nat) : val (zs ++ [x]) = val zs + 4294967296 ^ zs.length * x := by
  rw [val_append]; simp [val]
theorem snoc_lt {zs : List Nat} {x : Nat} (h : ∀ y ∈ zs, y < 4294967296) (hx : x < 4294967296) : ∀ y ∈ zs ++ [x], y < 4294967296 := by
  intro y hy
  rcases List.mem_append.1 hy with h' | h'
  · exact h y h'
  · simp at h'; omega
theorem addApp_step {D F zs : List Nat} {k c x : Nat} (h : AddApp D F zs k c) (hx : x = c + D.getD k 0 + F.getD k 0) (hD : ∀ x ∈ D, x < 4294967296) (hF : ∀ x ∈ F, x < 4294967296) :
    AddApp D F (zs ++ [x % 4294967296]) (k + 1) (x / 4294967296) := by
  obtain ⟨h1, h2, h4, h5⟩ := h
  have d := getD_lt hD k
  have f := getD_lt hF k
  refine ⟨by simp [h1], snoc_lt h2 (by omega), by omega, ?_⟩
  rw [val_snoc, h1, val_take_any, val_take_any, Nat.pow_succ]
  generalize 4294967296 ^ k = p at *
  have e : x = x % 4294967296 + 4294967296 * (x / 4294967296) := by omega
  have e2 : p * x = p * (x % 4294967296) + p * 4294967296 * (x / 4294967296) := by
    rw [Nat.mul_assoc, ← Nat.mul_add, ← e]
  have e3 : p * x = p * c + p * D.getD k 0 + p * F.getD k 0 := by rw [hx, Nat.mul_add, Nat.mul_add]
  omega
theorem addApp_end {D F zs : List Nat} {k c : Nat} (h : AddApp D F zs k c) (hk : max D.length F.length + 1 ≤ k) (hD : ∀ x ∈ D, x < 4294967296) (hF : ∀ x ∈ F, x < 4294967296) : val zs = val D + val F := by
  obtain ⟨h1, h2, h4, h5⟩ := h
  rw [List.take_of_length_le (by omega), List.take_of_length_le (by omega)] at h5
  have v1 := val_lt hD
  have v2 := val_lt hF
  have p1 : 4294967296 ^ D.length ≤ 4294967296 ^ (max D.length F.length) := Nat.pow_le_pow_right (by omega) (by omega)
  have p2 : 4294967296 ^ F.length ≤ 4294967296 ^ (max D.length F.length) := Nat.pow_le_pow_right (by omega) (by omega)
  have p3 : 4294967296 ^ (max D.length F.length + 1) ≤ 4294967296 ^ k := Nat.pow_le_pow_right (by omega) hk
  rw [Nat.pow_succ] at p3
  have hc : c = 0 := by
    rcases Nat.lt_or_ge c 1 with h | h
    · omega
    · have : c = 1 := by omega
      subst this
      omega
  subst hc
  omega
theorem nt_one (E : Nat) (w : World) (x : Nat) (vx : Int) (hx : vx = (x : Int)) (hl : x < 4294967296) :
    Nt w.heap.size (w.alloc (.cells #[.int .u32 vx] E)) (.slice (some ⟨w.heap.size, 0, none⟩) 1 1) [x] := by
  have h : RowIs E (w.alloc (.cells #[.int .u32 vx] E)) w.heap.size [x] := by
    subst hx
    exact heap_alloc_new w _
  exact h.nt rfl (Nat.le_refl _) (by intro y hy; simp at hy; omega)
set_option maxRecDepth 100000 in
set_option maxHeartbeats 1000000 in
theorem refAdd (w : World) (v1 v2 : Value) (xs ys : List Nat) (b1 b2 : Nat) (h1 : Nt b1 w v1 xs) (h2 : Nt b2 w v2 ys) (hL1 : xs.length ≤ 1000000000000) (hL2 : ys.length ≤ 1000000000000) :
    Calls Tryz.prog 19 #[v1, v2] w (RetNat (val xs + val ys) w) := by
  have C1 := Lib.hid (fun w1 k (hb : Below w.heap.size w w1) => refAt w1 v1 xs b1 k (h1.below hb (Nat.le_refl _)))
  have C2 := Lib.hid (fun w1 k (hb : Below w.heap.size w w1) => refAt w1 v2 ys b2 k (h2.below hb (Nat.le_refl _)))
  have X1 := Lib.hid h1.lt
  have X2 := Lib.hid h2.lt
  obtain ⟨ao1, c1, rfl, _⟩ := h1.open
  obtain ⟨ao2, c2, rfl, _⟩ := h2.open
  clear h1 h2
  have N1 := Lib.hid (rfl : xs.length = xs.length)
  have N2 := Lib.hid (rfl : ys.length = ys.length)
  generalize hn1 : xs.length = n1 at *
  generalize hn2 : ys.length = n2 at *
  replace N1 := Lib.hid hn1
  replace N2 := Lib.hid hn2
  clear hn1 hn2
  rcases Nat.lt_or_ge n1 n2 with hmx | hmx
  all_goals
    go_enter Tryz.func19, Tryz.ntmps19
    go_wp2
    go_loopw [5, 6, 7] (fun v c i wr => ∃ (k cr : Nat) (zs : List Nat), k ≤ max n1 n2 + 1 ∧ i = .int .i64 k ∧ c = .int .u64 cr ∧ wr.ownsRow w.heap.size 46 1 v k (u32s zs) ∧ AddApp xs ys zs k cr ∧ Below w.heap.size w wr) (fun _ _ i _ => max n1 n2 + 1 - (intOf i).toNat)
    case atStart => exact ⟨0, 0, [], Nat.zero_le _, rfl, rfl, by exact World.ownsRow_nil _ _ _ _, addApp_zero xs ys, Below.refl _ _⟩
    case round =>
      obtain ⟨k, cr, zs, hk, rfl, rfl, hown, hinv, hBw⟩ := hrel
      have hcr : cr ≤ 1 := hinv.2.2.1
      have HI := Lib.hid hinv
      clear hinv
      by_cases hlt : k < max n1 n2 + 1
      · have q1 : (k : Int) < max (n1 : Int) (n2 : Int) + 1 := by omega
        have bd := getD_lt X1.out k
        have bf := getD_lt X2.out k
        have hst := Lib.hid (addApp_step HI.out rfl X1.out X2.out)
        have D1 := Lib.hid (C1.out wr k hBw)
        have D2 := Lib.hid (C2.out wr k hBw)
        generalize xs.getD k 0 = d at *
        generalize ys.getD k 0 = f at *
        have HX := Lib.hid (nt_one 46 wr ((cr + d + f) % 4294967296) (((cr : Int) + d + f) % 4294967296) (by omega) (by omega))
        go_wp2_with fail
        refine D1.out.mono ?_
        rintro e w1 ⟨rfl, rfl⟩
        go_wp2_with fail
        refine D2.out.mono ?_
        rintro e w1 ⟨rfl, rfl⟩
        have L1 : k + 1 ≤ 30000000000000 := by omega
        have L2 : w.heap.size ≤ wr.heap.size + 1 := Nat.le_succ_of_le hBw.size
        go_wp2_with (at_builtin; refine wpList_append_row _ rfl _ _ 22 46 rfl Tryz.underlying22 Tryz.infoU32 w.heap.size wr.heap.size k _ _ zs [(cr + d + f) % 4294967296] rfl (hown.alloc _) rfl HX.out L1 (by rw [World.size_alloc]; exact L2) ?_; intro v' w1 ho hg)
        have hB1 : Below w.heap.size w w1 := ((hBw.alloc hBw.size _).grown hg (by rw [World.size_alloc]; exact L2) (fun b hb => (hown.lt b hb).1))
        go_wp2
        go_roundw
        case rel => exact ⟨k + 1, _, _, by omega, by go_num, int_eq (by omega), ho, hst.out, hB1⟩
        case measure => simp [intOf]; omega
      · have q1 : ¬ (k : Int) < max (n1 : Int) (n2 : Int) + 1 := by omega
        have hend := Lib.hid (addApp_end HI.out (by rw [N1.out, N2.out]; omega) X1.out X2.out)
        have hnt := Nt.of_owns hown HI.out.1.symm HI.out.2.1
        have CT := Lib.hid (refTrim wr u5 zs _ hnt (by have := HI.out.1; omega))
        rw [hend.out] at CT
        clear hnt hown
        go_wp2_with fail
        refine CT.out.mono ?_
        rintro e w1 ⟨u, rfl, t, hb⟩
        go_wp2
        go_ret
        exact ⟨_, rfl, t.mono hBw.size, bthen hBw hb⟩
end Go.Proofs.YtocpmekblkfdiaaGreatDoor
namespace Go.Proofs.YtocpmekblkfdiaaGreatDoor
open Go.RowKit
/-- the difference's limbs, after k of them: what has been appended, and the borrow -/
def SubApp (D F zs : List Nat) (k c : Nat) : Prop :=
  zs.length = k ∧ (∀ x ∈ zs, x < 4294967296) ∧ c ≤ 1 ∧ val zs + val (F.take k) = val (D.take k) + 4294967296 ^ k * c
theorem subApp_zero (D F : List Nat) : SubApp D F [] 0 0 := ⟨rfl, by simp, by omega, by simp [val]⟩
theorem subApp_step {D F zs : List Nat} {k c z c' : Nat} (h : SubApp D F zs k c) (hz : z + (F.getD k 0 + c) = D.getD k 0 + 4294967296 * c') (hz1 : z < 4294967296) (hc' : c' ≤ 1) :
    SubApp D F (zs ++ [z]) (k + 1) c' := by
  obtain ⟨h1, h2, h4, h5⟩ := h
  refine ⟨by simp [h1], snoc_lt h2 hz1, hc', ?_⟩
  rw [val_snoc, h1, val_take_any, val_take_any, Nat.pow_succ]
  generalize 4294967296 ^ k = p at *
  have e2 : p * z + (p * F.getD k 0 + p * c) = p * D.getD k 0 + p * 4294967296 * c' := by
    rw [← Nat.mul_add, ← Nat.mul_add, hz, Nat.mul_add, Nat.mul_assoc]
  omega
theorem subApp_end {D F zs : List Nat} {c : Nat} (h : SubApp D F zs D.length c) (hD : ∀ x ∈ D, x < 4294967296) (hle : val F ≤ val D) : val zs = val D - val F := by
  obtain ⟨h1, h2, h4, h5⟩ := h
  have v1 := val_lt hD
  have v2 := val_lt h2
  rw [h1] at v2
  have hF : val (F.take D.length) = val F := by
    have e : val F = val (F.take D.length) + 4294967296 ^ (F.take D.length).length * val (F.drop D.length) := by
      rw [← val_append, List.take_append_drop]
    by_cases hl : F.length ≤ D.length
    · rw [List.take_of_length_le hl]
    · have hlen : (F.take D.length).length = D.length := by simp; omega
      rw [hlen] at e
      rcases Nat.eq_zero_or_pos (val (F.drop D.length)) with h0 | h0
      · rw [h0] at e; omega
      · have := Nat.mul_le_mul_left (4294967296 ^ D.length) h0
        omega
  rw [List.take_length, hF] at h5
  have hc : c = 0 := by
    rcases Nat.lt_or_ge c 1 with h | h
    · omega
    · have : c = 1 := by omega
      subst this
      omega
  subst hc
  omega
set_option maxRecDepth 100000 in
set_option maxHeartbeats 1000000 in
theorem refSub (w : World) (v1 v2 : Value) (xs ys : List Nat) (b1 b2 : Nat) (h1 : Nt b1 w v1 xs) (h2 : Nt b2 w v2 ys) (hL1 : xs.length ≤ 1000000000000) (hL2 : ys.length ≤ 1000000000000) :
    Calls Tryz.prog 57 #[v1, v2] w (RetNatOk (val xs - val ys) (decide (val ys ≤ val xs)) w) := by
  have C1 := Lib.hid (fun w1 k (hb : Below w.heap.size w w1) => refAt w1 v1 xs b1 k (h1.below hb (Nat.le_refl _)))
  have C2 := Lib.hid (fun w1 k (hb : Below w.heap.size w w1) => refAt w1 v2 ys b2 k (h2.below hb (Nat.le_refl _)))
  have X1 := Lib.hid h1.lt
  have X2 := Lib.hid h2.lt
  have CC := Lib.hid (refCmp w v1 v2 xs ys b1 b2 h1 h2 (by omega) (by omega))
  obtain ⟨ao1, c1, rfl, _⟩ := h1.open
  obtain ⟨ao2, c2, rfl, _⟩ := h2.open
  clear h1 h2
  unfold RetCmp at CC
  by_cases hlt : val xs < val ys
  · have hz : decide (cmpI (val xs) (val ys) < 0) = true := by simp only [cmpI_lt_zero]; simp; exact hlt
    have e1 : val xs - val ys = 0 := by omega
    have e2 : decide (val ys ≤ val xs) = false := by simp; exact hlt
    rw [e1, e2]
    clear e1 e2 hlt
    generalize cmpI (val xs) (val ys) = cc at *
    generalize xs.length = n1 at *
    generalize ys.length = n2 at *
    go_enter Tryz.func57, Tryz.ntmps57
    go_wp2_with fail
    refine CC.out.mono ?_
    rintro e w1 ⟨rfl, hb⟩
    go_wp2
    go_ret2
    exact ⟨_, rfl, Nt.nil _ _, hb⟩
  · have hz : decide (cmpI (val xs) (val ys) < 0) = false := by simp only [cmpI_lt_zero]; simp; omega
    have e2 : decide (val ys ≤ val xs) = true := by simp; omega
    rw [e2]
    have HLe := Lib.hid (by omega : val ys ≤ val xs)
    clear e2 hlt
    have N1 := Lib.hid (rfl : xs.length = xs.length)
    generalize hn1 : xs.length = n1 at *
    generalize ys.length = n2 at *
    replace N1 := Lib.hid hn1
    clear hn1
    generalize cmpI (val xs) (val ys) = cc at *
    go_enter Tryz.func57, Tryz.ntmps57
    go_wp2_with fail
    refine CC.out.mono ?_
    rintro e w1 ⟨rfl, hb0⟩
    clear CC
    go_wp2
    go_loopw [6, 7, 8, 9, 10] (fun v c i _ _ wr => ∃ (k cr : Nat) (zs : List Nat), k ≤ n1 ∧ i = .int .i64 k ∧ c = .int .u64 cr ∧ wr.ownsRow w.heap.size 46 1 v k (u32s zs) ∧ SubApp xs ys zs k cr ∧ Below w.heap.size w wr) (fun _ _ i _ _ _ => n1 - (intOf i).toNat)
    case atStart => exact ⟨0, 0, [], Nat.zero_le _, rfl, rfl, World.ownsRow_nil _ _ _ _, subApp_zero xs ys, hb0⟩
    case round =>
      obtain ⟨k, cr, zs, hk, rfl, rfl, hown, hinv, hBw⟩ := hrel
      have hcr : cr ≤ 1 := hinv.2.2.1
      have HI := Lib.hid hinv
      clear hinv
      by_cases hlt : k < n1
      · have bd := getD_lt X1.out k
        have bf := getD_lt X2.out k
        have hst := Lib.hid (fun z c' => subApp_step (z := z) (c' := c') HI.out)
        have D1 := Lib.hid (C1.out wr k hBw)
        have D2 := Lib.hid (C2.out wr k hBw)
        generalize xs.getD k 0 = d at *
        generalize ys.getD k 0 = f at *
        have L1 : k + 1 ≤ 30000000000000 := by omega
        have L2 : w.heap.size ≤ wr.heap.size + 1 := Nat.le_succ_of_le hBw.size
        by_cases hdf : d < f + cr
        · have q1 : (d : Int) < (f : Int) + cr := by omega
          have HX := Lib.hid (nt_one 46 wr (d + 4294967296 - (f + cr)) ((d : Int) + 4294967296 - (f + cr)) (by omega) (by omega))
          go_wp2_with fail
          refine D1.out.mono ?_
          rintro e w1 ⟨rfl, rfl⟩
          go_wp2_with fail
          refine D2.out.mono ?_
          rintro e w1 ⟨rfl, rfl⟩
          go_wp2_with (at_builtin; refine wpList_append_row _ rfl _ _ 22 46 rfl Tryz.underlying22 Tryz.infoU32 w.heap.size wr.heap.size k _ _ zs [d + 4294967296 - (f + cr)] rfl (hown.alloc _) rfl HX.out L1 (by rw [World.size_alloc]; exact L2) ?_; intro v' w1 ho hg)
          have hB1 : Below w.heap.size w w1 := ((hBw.alloc hBw.size _).grown hg (by rw [World.size_alloc]; exact L2) (fun b hb => (hown.lt b hb).1))
          go_wp2
          go_roundw
          case rel => exact ⟨k + 1, 1, _, by omega, by go_num, rfl, ho, hst.out _ _ (by omega) (by omega) (by omega), hB1⟩
          case measure => simp [intOf]; omega
        · have q1 : ¬ (d : Int) < (f : Int) + cr := by omega
          have HX := Lib.hid (nt_one 46 wr (d - (f + cr)) ((d : Int) - (f + cr)) (by omega) (by omega))
          go_wp2_with fail
          refine D1.out.mono ?_
          rintro e w1 ⟨rfl, rfl⟩
          go_wp2_with fail
          refine D2.out.mono ?_
          rintro e w1 ⟨rfl, rfl⟩
          go_wp2_with (at_builtin; refine wpList_append_row _ rfl _ _ 22 46 rfl Tryz.underlying22 Tryz.infoU32 w.heap.size wr.heap.size k _ _ zs [d - (f + cr)] rfl (hown.alloc _) rfl HX.out L1 (by rw [World.size_alloc]; exact L2) ?_; intro v' w1 ho hg)
          have hB1 : Below w.heap.size w w1 := ((hBw.alloc hBw.size _).grown hg (by rw [World.size_alloc]; exact L2) (fun b hb => (hown.lt b hb).1))
          go_wp2
          go_roundw
          case rel => exact ⟨k + 1, 0, _, by omega, by go_num, rfl, ho, hst.out _ _ (by omega) (by omega) (by omega), hB1⟩
          case measure => simp [intOf]; omega
      · obtain rfl : k = n1 := by omega
        have hend := Lib.hid (subApp_end (by rw [N1.out]; exact HI.out) X1.out HLe.out)
        have hnt := Nt.of_owns hown HI.out.1.symm HI.out.2.1
        have CT := Lib.hid (refTrim wr u6 zs _ hnt (by have := HI.out.1; omega))
        rw [hend.out] at CT
        clear hnt hown
        go_wp2_with fail
        refine CT.out.mono ?_
        rintro e w1 ⟨u, rfl, t, hb⟩
        go_wp2
        go_ret2
        exact ⟨_, rfl, t.mono hBw.size, bthen hBw hb⟩
end Go.Proofs.YtocpmekblkfdiaaGreatDoor
namespace Go.Proofs.YtocpmekblkfdiaaGreatDoor
open Go.RowKit
theorem mulIn_stay {A C zs : List Nat} {i : Nat} (h : MulIn A C zs i C.length 0) (hi : i < A.length) : MulOut A C zs (i + 1) := by
  obtain ⟨h1, h2, h3, h4, h5⟩ := h
  refine ⟨h1, h2, fun j hj => h3 j (by omega), ?_⟩
  rw [Nat.mul_zero, Nat.add_zero] at h5
  rw [h5, List.take_length, val_take_last hi, Nat.add_mul]
theorem RowIs.drewN {E : Nat} {w : World} {g : Nat} {zs : List Nat} (h : RowIs E w g zs) (n : Nat) : RowIs E (w.drewN n) g zs := h
/-- inside round i: as MulIn, or all is done -/
def MulAt (A C zs : List Nat) (i k c : Nat) : Prop := (k ≤ C.length ∧ MulIn A C zs i k c) ∨ (k = C.length + 1 ∧ c = 0 ∧ MulOut A C zs (i + 1))
set_option maxRecDepth 100000 in
set_option maxHeartbeats 4000000 in
theorem refMul1 (w : World) (v1 v2 : Value) (xs ys : List Nat) (b1 b2 : Nat) (h1 : Nt b1 w v1 xs) (h2 : Nt b2 w v2 ys) (hL1 : xs.length ≤ 1000000000000) (hL2 : ys.length ≤ 1000000000000) :
    Calls Tryz.prog 59 #[v1, v2] w (RetNat (val xs * val ys) w) := by
  have C2 := Lib.hid (fun w1 k (hb : Below w.heap.size w w1) => refAt w1 v2 ys b2 k (h2.below hb (Nat.le_refl _)))
  have X1 := Lib.hid h1.lt
  have X2 := Lib.hid h2.lt
  obtain ⟨ao1, c1, rfl, _⟩ := h1.open
  obtain ⟨ao2, c2, rfl, _⟩ := h2.open
  clear h2
  go_enter Tryz.func59, Tryz.ntmps59
  go_wp2_with (refine wpList_make_row _ rfl _ _ 22 46 rfl Tryz.underlying22 Tryz.infoU32 (xs.length + ys.length) _ _ rfl rfl (by omega) (by omega) (by omega) ?_; intro w1 hR hB hsz)
  generalize hg : w.heap.size = g at *
  have HG := Lib.hid hg; clear hg
  go_loopw [6, 7, 8] (fun i _ _ wr => ∃ (k : Nat) (zs : List Nat), k ≤ xs.length ∧ i = .int .i64 k ∧ RowIs 46 wr g zs ∧ MulOut xs ys zs k ∧ Below g w wr ∧ g < wr.heap.size) (fun i _ _ _ => xs.length - (intOf i).toNat)
  case atStart => exact ⟨0, _, Nat.zero_le _, rfl, hR, mulOut_zero xs ys, hB, hsz⟩
  case round =>
    obtain ⟨i, zs, hi, rfl, hRz, hinv, hBw, hgs⟩ := hrel
    by_cases hlt : i < xs.length
    · obtain ⟨b, off, rfl, _, hb, hcD⟩ := h1.at_some hlt
      have hd := hcD i hlt
      have ba := getD_lt X1.out i
      clear hcD
      have hin := mulIn_zero hinv
      clear hinv
      generalize hA : xs.getD i 0 = a at *
      have HA := Lib.hid hA; clear hA
      obtain ⟨wo, rfl⟩ : ∃ wo : World, wo = wr := ⟨_, rfl⟩
      go_wp2
      go_loopw [7, 8] (fun c j wr => ∃ (k cr : Nat) (zs : List Nat), j = .int .i64 k ∧ c = .int .u64 cr ∧ RowIs 46 wr g zs ∧ Hid (MulAt xs ys zs i k cr) ∧ Below g w wr ∧ g < wr.heap.size) (fun _ j _ => ys.length + 1 - (intOf j).toNat)
      case atStart => exact ⟨0, 0, zs, rfl, rfl, hRz, Lib.hid (.inl ⟨Nat.zero_le _, hin⟩), hBw, hgs⟩
      case round =>
        clear hRz hin hBw hgs zs
        obtain ⟨k, cr, zs, rfl, rfl, hRz, hAt, hBw, hgs⟩ := hrel
        have hda : wr.cell? ⟨b, off + i, none⟩ = some (.int .u32 (a : Int)) := by rw [hBw.cell (by have := HG.out; show b < g; omega)]; exact hd
        have q0 : (0 : Int) ≤ (i : Int) := by omega
        have q01 : (i : Int) < (xs.length : Int) := by omega
        rcases hAt.out with ⟨hk, hin⟩ | ⟨hk, hc0, hout⟩
        · have hcr : cr < 4294967296 := hin.2.2.2.1
          have hzl := Lib.hid hin.1
          clear hAt
          by_cases hlt2 : k < ys.length
          · have bb := getD_lt X2.out k
            have hrow := hRz.cell (i := i + k) (by have := hin.1; omega)
            have bz := getD_lt hin.2.1 (i + k)
            have hfr := hRz.frozen (i + k)
            have hst := Lib.hid (mulIn_step hin hlt hlt2 HA.out rfl rfl ba bb bz)
            have D2 := Lib.hid (fun w1 hb => C2.out w1 k hb)
            clear hin
            generalize ys.getD k 0 = b2' at *
            generalize zs.getD (i + k) 0 = z at *
            have hm := mul_bd a b2' ba bb
            have hm0 : (0 : Int) ≤ (a : Int) * b2' := by rw [← Int.natCast_mul]; omega
            have hm1 : (a : Int) * b2' ≤ 18446744065119617025 := by rw [← Int.natCast_mul]; omega
            have q2 : IntKind.i64.wrap ((i : Int) + k) = ((i + k : Nat) : Int) := by rw [IntWalk.i64_in _ (by omega)]; omega
            have q3 : (0 : Int) ≤ ((i + k : Nat) : Int) := by omega
            have q4 : ((i + k : Nat) : Int) < ((xs.length + ys.length : Nat) : Int) := by omega
            have q5 : (k : Int) < (ys.length : Int) := by omega
            have e1 : IntKind.u64.wrap ((a : Int) * b2') = ((a * b2' : Nat) : Int) := by rw [IntWalk.u64_in _ (by omega)]; exact (Int.natCast_mul a b2').symm
            have e2 : IntKind.u64.wrap ((cr : Int) + ((a * b2' : Nat) : Int)) = ((cr + a * b2' : Nat) : Int) := by rw [IntWalk.u64_in _ (by omega)]; omega
            have e3 : IntKind.u64.wrap (((cr + a * b2' : Nat) : Int) + z) = ((cr + a * b2' + z : Nat) : Int) := by rw [IntWalk.u64_in _ (by omega)]; omega
            clear hm0 hm1
            rw [← Nat.add_assoc] at hst
            generalize a * b2' = ab at *
            go_wp2_with fail
            go_quiet ((go_at_call 61; exact Calls.quiet_of_same ((D2.out _ (by first | exact hBw | exact hBw.drew | exact below_drewN hBw _)).mono (fun _ _ h => ⟨h.1, h.2.symm⟩))))
            clear e1 e2 e3
            go_wp2
            go_roundw
            case rel => exact ⟨k + 1, _, _, by go_num, int_eq (by omega), (RowIs.drewN hRz _).storeI (i + k) _ _ (by omega), Lib.hid (.inl ⟨by omega, hst.out⟩), (below_drewN hBw _).setCell (Nat.le_refl _) _, by simpa using hgs⟩
            case measure => simp [intOf]; omega
          · obtain rfl : k = ys.length := by omega
            have q5 : ¬ ((ys.length : Nat) : Int) < (ys.length : Int) := by omega
            by_cases hc0 : cr = 0
            · subst hc0
              have hst := Lib.hid (mulIn_stay hin hlt)
              clear hin
              go_wp2
              go_roundw
              case rel => exact ⟨i + 1, _, by omega, by go_num, hRz, hst.out, hBw, hgs⟩
              case measure => simp [intOf]; omega
            · have q6 : (0 : Int) < (cr : Int) := by omega
              have hst := Lib.hid (mulIn_end hin hlt)
              have hz := Lib.hid (hin.2.2.1 (i + ys.length) (Nat.le_refl _))
              have hrow := hRz.cell (i := i + ys.length) (by have := hin.1; omega)
              have hfr := hRz.frozen (i + ys.length)
              rw [hz.out] at hrow
              have D2 := Lib.hid (fun w1 hb => C2.out w1 ys.length hb)
              rw [getD_of_len (Nat.le_refl _)] at D2
              clear hin
              have q2 : IntKind.i64.wrap ((i : Int) + (ys.length : Nat)) = ((i + ys.length : Nat) : Int) := by rw [IntWalk.i64_in _ (by omega)]; omega
              have q3 : (0 : Int) ≤ ((i + ys.length : Nat) : Int) := by omega
              have q4 : ((i + ys.length : Nat) : Int) < ((xs.length + ys.length : Nat) : Int) := by omega
              have e1 : IntKind.u64.wrap ((cr : Int) + 0) = (cr : Int) := by rw [IntWalk.u64_in _ (by omega)]; omega
              go_wp2_with fail
              go_quiet ((go_at_call 61; exact Calls.quiet_of_same ((D2.out _ (by first | exact hBw | exact hBw.drew | exact below_drewN hBw _)).mono (fun _ _ h => ⟨h.1, h.2.symm⟩))))
              clear e1
              go_wp2
              go_roundw
              case rel => exact ⟨ys.length + 1, 0, _, by go_num, int_eq (by omega), (RowIs.drewN hRz _).storeI (i + ys.length) cr _ (by omega), Lib.hid (.inr ⟨rfl, rfl, hst.out⟩), (below_drewN hBw _).setCell (Nat.le_refl _) _, by simpa using hgs⟩
              case measure => simp [intOf]
        · subst hc0 hk
          have hst := Lib.hid hout
          clear hout hAt
          have q5 : ¬ ((ys.length + 1 : Nat) : Int) < (ys.length : Int) := by omega
          go_wp2
          go_roundw
          case rel => exact ⟨i + 1, _, by omega, by go_num, hRz, hst.out, hBw, hgs⟩
          case measure => simp [intOf]; omega
    · obtain rfl : i = xs.length := by omega
      have HE := Lib.hid (mulOut_end hinv)
      have hnt := hRz.nt (n := xs.length + ys.length) (cap := xs.length + ys.length) hinv.1.symm (Nat.le_refl _) hinv.2.1
      have CT := Lib.hid (refTrim wr _ zs _ hnt (by have := hinv.1; omega))
      rw [HE.out] at CT
      clear hinv hnt
      go_wp2_with fail
      refine CT.out.mono ?_
      rintro e w1 ⟨u, rfl, t, hb⟩
      go_wp2
      go_ret
      exact ⟨_, rfl, t.mono (by have := HG.out; have := hBw.size; omega), by rw [HG.out]; exact hBw.trans (hb.mono (by have := hBw.size; omega))⟩
end Go.Proofs.YtocpmekblkfdiaaGreatDoor
namespace Go.Proofs.YtocpmekblkfdiaaGreatDoor
open Go.RowKit
set_option maxRecDepth 100000 in
set_option maxHeartbeats 1000000 in
theorem refSmall (w : World) (v : Value) (xs : List Nat) (base b : Nat) (h : Nt base w v xs) (hb0 : 0 < b) (hb1 : b < 4294967296) (hL : xs.length ≤ 1000000000000) :
    Calls Tryz.prog 145 #[v, .int .u64 b] w (RetNatInt (val xs / b) .u64 ((val xs % b : Nat) : Int) w) := by
  obtain ⟨ao, cap, rfl, hc⟩ := h.open
  have X := Lib.hid h.lt
  go_enter Tryz.func145, Tryz.ntmps145
  go_wp2_with (refine wpList_make_row _ rfl _ _ 22 46 rfl Tryz.underlying22 Tryz.infoU32 xs.length _ _ rfl rfl (by omega) (by omega) (by omega) ?_; intro w1 hR hB hsz)
  generalize hg : w.heap.size = g at *
  have HG := Lib.hid hg; clear hg
  go_loopw [7, 8] (fun c i wr => ∃ (k r : Nat) (zs : List Nat), k ≤ xs.length ∧ i = .int .i64 ((k : Int) - 1) ∧ c = .int .u64 r ∧ RowIs 46 wr g zs ∧ SmallInv xs zs b k r ∧ Below g w wr ∧ g < wr.heap.size) (fun _ i _ => ((intOf i) + 1).toNat)
  case atStart => exact ⟨xs.length, 0, _, Nat.le_refl _, rfl, rfl, hR, smallInv_zero xs b hb0, hB, hsz⟩
  case round =>
    obtain ⟨k, r, zs, hk, rfl, rfl, hRz, hinv, hBw, hgs⟩ := hrel
    have hzl := Lib.hid hinv.1
    by_cases h0 : k = 0
    · subst h0
      have hend := smallInv_end hinv
      have hnt := hRz.nt (n := xs.length) (cap := xs.length) hinv.1.symm (Nat.le_refl _) hinv.2.1
      have HE := Lib.hid hend.1
      have HE2 := Lib.hid hend.2
      have CT := Lib.hid (refTrim wr _ zs _ hnt (by have := hinv.1; omega))
      rw [HE.out] at CT
      clear hend hinv hnt
      go_wp2_with fail
      refine CT.out.mono ?_
      rintro e w1 ⟨u, rfl, t, hb⟩
      go_wp2
      go_ret2
      exact RetNatInt.mk (by rw [HE2.out]) (t.mono (by have := HG.out; omega)) (by rw [HG.out]; exact hBw.trans (hb.mono (by omega)))
    · obtain ⟨i, rfl⟩ : ∃ i, k = i + 1 := ⟨k - 1, by omega⟩
      obtain ⟨b3, off, rfl, _, hb3, hcD⟩ := h.at_some (k := i) (by omega)
      have hd : wr.cell? ⟨b3, off + i, none⟩ = some (.int .u32 ((xs.getD i 0 : Nat) : Int)) := by rw [hBw.cell (by have := HG.out; show b3 < g; omega)]; exact hcD i (by omega)
      have bx := getD_lt X.out i
      have hr : r < b := hinv.2.2.2.1
      have hst := smallInv_step hinv (by omega) rfl bx
      have hq1 := Lib.hid (getD_lt hst.2.1 i)
      rw [getD_set_self (by rw [hzl.out]; omega)] at hq1
      replace hst := Lib.hid hst
      clear hcD hinv
      have hrow := hRz.cell (i := i) (by have := hzl.out; omega)
      have hfr := hRz.frozen i
      generalize zs.getD i 0 = z at *
      generalize xs.getD i 0 = x at *
      have hi1 : ((i + 1 : Nat) : Int) - 1 = (i : Int) := by omega
      rw [hi1]
      clear hi1
      have hor := or_hi_lo r x (by omega) bx
      have hy0 : 1 ≤ b := by omega
      have h1 : ((b : Int) != 0) = true := by simp; omega
      go_wp2
      go_roundw
      case rel => exact ⟨i, _, _, by omega, rfl, by rw [show ((r : Int) * 4294967296 + x) % b = ((r * 4294967296 + x) % b : Nat) from by rw [show ((r : Int) * 4294967296 + x) = ((r * 4294967296 + x : Nat) : Int) from by omega, ← Int.natCast_emod]], hRz.storeI i _ _ (div_cast r x b hq1.out), hst.out, hBw.setCell (Nat.le_refl _) _, by simpa using hgs⟩
      case measure => simp [intOf]
theorem val_drop_step {xs : List Nat} {i : Nat} (hi : i < xs.length) : val (xs.drop i) = xs.getD i 0 + 4294967296 * val (xs.drop (i + 1)) := by
  rw [List.drop_eq_getElem_cons hi, List.getD_eq_getElem?_getD, List.getElem?_eq_getElem hi]
  rfl
set_option maxRecDepth 100000 in
set_option maxHeartbeats 1000000 in
theorem refTo (w : World) (v : Value) (xs : List Nat) (base : Nat) (h : Nt base w v xs) (hL : xs.length ≤ 1000000000000) :
    Calls Tryz.prog 144 #[v] w fun e w' => e = .returned (.tuple #[.int .u64 ((if val xs < 18446744073709551616 then val xs else 0 : Nat) : Int), .bool (decide (val xs < 18446744073709551616))]) ∧ Below w.heap.size w w' := by
  have CT := Lib.hid (refTrim w v xs base h (by omega))
  have hl := limbs_len_val h.lt
  clear h
  generalize val xs = m at *
  have V := Lib.hid (val_limbs m)
  have X := Lib.hid (limbs_lt m)
  have hbig : 18446744073709551616 = 4294967296 ^ 2 := by decide
  by_cases hlen : 2 < (limbs m).length
  · have hm : ¬ m < 18446744073709551616 := by
      intro hc
      rw [hbig] at hc
      have := limbs_len_le hc
      omega
    rw [if_neg hm, decide_eq_false hm]
    have q1 : (2 : Int) < ((limbs m).length : Int) := by omega
    clear hbig hm
    unfold RetNat at CT
    generalize limbs m = A at *
    go_enter Tryz.func144, Tryz.ntmps144
    go_wp2_with fail
    refine CT.out.mono ?_
    rintro e w1 ⟨u, rfl, t, hb⟩
    obtain ⟨ao, c, rfl, _⟩ := t.open
    go_wp2
    go_ret2
    exact ⟨rfl, hb⟩
  · have hm : m < 18446744073709551616 := by
      rw [hbig]
      exact lt_of_limbs_len (by omega)
    rw [if_pos hm, decide_eq_true hm]
    have q1 : ¬ (2 : Int) < ((limbs m).length : Int) := by omega
    clear hbig
    unfold RetNat at CT
    have HM := Lib.hid hm
    clear hm
    generalize limbs m = A at *
    go_enter Tryz.func144, Tryz.ntmps144
    go_wp2_with fail
    refine CT.out.mono ?_
    rintro e w1 ⟨u, rfl, t, hb⟩
    obtain ⟨ao, c, rfl, _⟩ := t.open
    go_wp2
    go_loop [5, 6] (fun c i => ∃ (k n : Nat), k ≤ A.length ∧ i = .int .i64 ((k : Int) - 1) ∧ c = .int .u64 n ∧ Hid (n = val (A.drop k)) ∧ n < 18446744073709551616 ∧ (1 ≤ k → n < 4294967296)) (fun _ i => ((intOf i) + 1).toNat)
    case atStart => exact ⟨A.length, 0, Nat.le_refl _, rfl, rfl, Lib.hid (by rw [List.drop_length]; rfl), by omega, by omega⟩
    case round =>
      obtain ⟨k, n, hk, rfl, rfl, hn, hn1, hn2⟩ := hrel
      by_cases h0 : k = 0
      · subst h0
        have he : n = m := by rw [hn.out, List.drop_zero]; exact V.out
        subst he
        go_wp2
        go_ret2
        exact ⟨rfl, hb⟩
      · obtain ⟨i, rfl⟩ : ∃ i, k = i + 1 := ⟨k - 1, by omega⟩
        obtain ⟨b3, off, rfl, _, hb3, hcD⟩ := t.at_some (k := i) (by omega)
        have hd := hcD i (by omega)
        have bx := getD_lt X.out i
        have hs := Lib.hid (val_drop_step (xs := A) (i := i) (by omega))
        have hn3 := hn2 (by omega)
        have hdl : i = 1 → n = 0 := by
          rintro rfl
          rw [hn.out, List.drop_of_length_le (by omega)]
          rfl
        have HDL := Lib.hid hdl
        clear hcD hn2 hdl
        generalize A.getD i 0 = x at *
        have hi1 : ((i + 1 : Nat) : Int) - 1 = (i : Int) := by omega
        rw [hi1]
        clear hi1
        have hor := or_hi_lo n x (by omega) bx
        go_wp2
        go_round
        case rel => exact ⟨i, n * 4294967296 + x, by omega, rfl, int_eq (by omega), Lib.hid (by rw [hs.out, ← hn.out]; omega), by omega, by intro h1; have := HDL.out (by omega); omega⟩
        case measure => simp [intOf]
theorem pow32 (k : Nat) : 4294967296 ^ k = 2 ^ (32 * k) := by rw [show 4294967296 = 2 ^ 32 from rfl, ← Nat.pow_mul]
end Go.Proofs.YtocpmekblkfdiaaGreatDoor
