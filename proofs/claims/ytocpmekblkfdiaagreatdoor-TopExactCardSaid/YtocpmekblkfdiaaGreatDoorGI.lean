/- Contracts of rat.Int, rat.Div. Conditions: at most 10^11 limbs. Contract of rat.Div. Conditions: at most 10^11 limbs. Contract of rat.Floor. Conditions: at most 10^11 limbs. Contracts of the three functions that compare rows of limbs: slices.Equal, and limbs of the law and of the reference. Conditions: at most 8*10^12 limbs. Contract of rat.Same. Conditions: at most 10^11 limbs. -/
import Derived.Test.YtocpmekblkfdiaaGreatDoorGE
import Derived.Test.YtocpmekblkfdiaaGreatDoorGD
import Derived.Deep.DeepCutAuto
namespace Go.Proofs.YtocpmekblkfdiaaGreatDoor
open Go.RowKit
theorem int_parts (n : Int) : nm (n : Rat) = n.natAbs ∧ ((n : Rat)).den = 1 ∧ ng (n : Rat) = decide (n < 0) := ⟨rfl, rfl, rfl⟩
set_option maxRecDepth 100000 in
set_option maxHeartbeats 1000000 in
theorem ratInt (w : World) (n : Int) (h1 : -9223372036854775808 ≤ n) (h2 : n < 9223372036854775808) :
    Calls Tryz.prog 27 #[.int .i64 n] w (RetRat (n : Rat) w) := by
  have G1 := Lib.hid (fun w1 => natOf w1 n.natAbs (by omega))
  have G2 := Lib.hid (fun w1 => natOf w1 1 (by omega))
  have hE : Hid (∀ w' v1 v2, Nt w.heap.size w' v1 (limbs n.natAbs) → Nt w.heap.size w' v2 (limbs 1) → RatC w.heap.size w' (.agg #[.bool (decide (n < 0)), v1, v2]) (n : Rat)) :=
    Lib.hid (fun w' v1 v2 m1 m2 => ⟨_, _, by rw [(int_parts n).2.2], m1, m2⟩)
  have hcast : ((n.natAbs : Nat) : Int) = if n < 0 then -n else n := by split <;> omega
  by_cases hn : n < 0
  · have e1 : IntKind.u64.wrap n = n + 18446744073709551616 := by rw [IntKind.wrap_u64]; omega
    rw [if_pos hn] at hcast
    have e2 : IntKind.u64.wrap (-(n + 18446744073709551616)) = -n := by rw [IntKind.wrap_u64]; omega
    rw [decide_eq_true hn] at hE
    simp only [hcast] at G1
    go_enter Tryz.func27, Tryz.ntmps27
    go_wp2_with fail
    have hb0 : Below w.heap.size w (w.alloc (.cells #[.bool false, .slice none 0 0, .slice none 0 0] 24)) := (Below.refl _ _).alloc (Nat.le_refl _) _
    have hB0 := Box3.new 24 w (.bool false) (.slice none 0 0) (.slice none 0 0)
    generalize (w.alloc (.cells #[.bool false, .slice none 0 0, .slice none 0 0] 24)) = w0 at *
    have hg0 : w.heap.size < w0.heap.size := hB0.cells.2.2.2.2.2.2
    refine (G1.out w0).mono ?_
    rintro e w1 ⟨u1, rfl, t1, hb1⟩
    obtain ⟨ao1, c1, rfl, _⟩ := t1.open
    go_wp2_with fail
    refine (G2.out w1).mono ?_
    rintro e w2 ⟨u2, rfl, t2, hb2⟩
    obtain ⟨ao2, c2, rfl, _⟩ := t2.open
    have hg1 : w.heap.size < w1.heap.size := Nat.lt_of_lt_of_le hg0 hb1.size
    have hb3 := bthen hb1 hb2
    obtain ⟨k0, k1, k2, f0, f1, f2, hg2⟩ := (hB0.below hb3 hg0).cells
    go_wp2
    obtain ⟨r0, r1, r2, _⟩ := ((hB0.below hb3 hg0).stored (.bool true) (.slice ao1 (limbs n.natAbs).length c1) (.slice ao2 (limbs 1).length c2)).cells
    exact bodyPost_ret (v := .agg #[.bool true, .slice ao1 (limbs n.natAbs).length c1, .slice ao2 (limbs 1).length c2]) (by simp [results, Tryz.results27, go_sem, r0, r1, r2]) rfl
      ⟨_, rfl, hE.out _ _ _ (((t1.below hb2 (Nat.le_refl _)).set3 hg0).mono (by omega)) ((t2.set3 hg1).mono (by omega)), below_set3 (bthen hb0 hb3) (by omega)⟩
  · have e1 : IntKind.u64.wrap n = n := by rw [IntKind.wrap_u64]; omega
    rw [if_neg hn] at hcast
    rw [decide_eq_false hn] at hE
    simp only [hcast] at G1
    go_enter Tryz.func27, Tryz.ntmps27
    go_wp2_with fail
    have hb0 : Below w.heap.size w (w.alloc (.cells #[.bool false, .slice none 0 0, .slice none 0 0] 24)) := (Below.refl _ _).alloc (Nat.le_refl _) _
    have hB0 := Box3.new 24 w (.bool false) (.slice none 0 0) (.slice none 0 0)
    generalize (w.alloc (.cells #[.bool false, .slice none 0 0, .slice none 0 0] 24)) = w0 at *
    have hg0 : w.heap.size < w0.heap.size := hB0.cells.2.2.2.2.2.2
    refine (G1.out w0).mono ?_
    rintro e w1 ⟨u1, rfl, t1, hb1⟩
    obtain ⟨ao1, c1, rfl, _⟩ := t1.open
    go_wp2_with fail
    refine (G2.out w1).mono ?_
    rintro e w2 ⟨u2, rfl, t2, hb2⟩
    obtain ⟨ao2, c2, rfl, _⟩ := t2.open
    have hg1 : w.heap.size < w1.heap.size := Nat.lt_of_lt_of_le hg0 hb1.size
    have hb3 := bthen hb1 hb2
    obtain ⟨k0, k1, k2, f0, f1, f2, hg2⟩ := (hB0.below hb3 hg0).cells
    go_wp2
    obtain ⟨r0, r1, r2, _⟩ := ((hB0.below hb3 hg0).stored (.bool false) (.slice ao1 (limbs n.natAbs).length c1) (.slice ao2 (limbs 1).length c2)).cells
    exact bodyPost_ret (v := .agg #[.bool false, .slice ao1 (limbs n.natAbs).length c1, .slice ao2 (limbs 1).length c2]) (by simp [results, Tryz.results27, go_sem, r0, r1, r2]) rfl
      ⟨_, rfl, hE.out _ _ _ (((t1.below hb2 (Nat.le_refl _)).set3 hg0).mono (by omega)) ((t2.set3 hg1).mono (by omega)), below_set3 (bthen hb0 hb3) (by omega)⟩
end Go.Proofs.YtocpmekblkfdiaaGreatDoor
namespace Go.Proofs.YtocpmekblkfdiaaGreatDoor
open Go.RowKit
/-- What a function answers that hands back a rational, normal, in new memory, and whether there is one. -/
def RetRatOk (q : Rat) (ok : Bool) (w : World) (e : Ending) (w' : World) : Prop :=
  ∃ v, e = .returned (.tuple #[v, .bool ok]) ∧ RatC w.heap.size w' v q ∧ Below w.heap.size w w'
set_option maxRecDepth 100000 in
set_option maxHeartbeats 1000000 in
theorem ratDiv (w : World) (v1 v2 : Value) (a b : Rat) (h1 : RatR 100000000000 w v1 a) (h2 : RatR 100000000000 w v2 b) :
    Calls Tryz.prog 25 #[v1, v2] w (RetRatOk (a / b) (!decide (b = 0)) w) := by
  have N1 := Lib.hid (fun w1 (hb : Below w.heap.size w w1) => ratNorm w1 v2 b ((h2.below hb (Nat.le_refl _)).more (by omega)))
  have z2 := h2.size (by omega)
  have CM := Lib.hid (fun w1 u (hb : Below w.heap.size w w1) (hu : RatR 100000000000 w1 u b⁻¹) => ratMul w1 v1 u a b⁻¹ (h1.below hb (Nat.le_refl _)) hu)
  have CI := Lib.hid (fun w1 => ratInt w1 0 (by omega) (by omega))
  rw [← Rat.div_def] at CM
  obtain ⟨s1, ao1, n1, c1, ao2, n2, c2, rfl⟩ := h1.open
  obtain ⟨s2, ao3, n3, c3, ao4, n4, c4, rfl⟩ := h2.open
  clear h1 h2
  go_enter Tryz.func25, Tryz.ntmps25
  go_upto_region 1 with fail
  obtain ⟨K, rfl, hb0, hB1, hB2, hB3⟩ := boxes3 w (.bool s1) (.slice ao1 n1 c1) (.slice ao2 n2 c2) (.bool s2) (.slice ao3 n3 c3) (.slice ao4 n4 c4)
  generalize (((w.alloc (.cells #[.bool s1, .slice ao1 n1 c1, .slice ao2 n2 c2] 24)).alloc (.cells #[.bool s2, .slice ao3 n3 c3, .slice ao4 n4 c4] 24)).alloc (.cells #[.bool false, .slice none 0 0, .slice none 0 0] 24)) = w0 at *
  obtain ⟨k0, k1, k2, f0, f1, f2, hg1⟩ := hB1.cells
  obtain ⟨l0, l1, l2, g0, g1, g2, hg2⟩ := hB2.cells
  have hg3 := hB3.cells.2.2.2.2.2.2
  go_wp2_with fail
  refine (N1.out w0 hb0).mono ?_
  rintro e w2 ⟨u, rfl, ⟨v1, v2, rfl, m1, m2⟩, hb2⟩
  have hB1' := hB1.below hb2 hg1
  have hB2' := hB2.below hb2 hg2
  have hB3' := hB3.below hb2 hg3
  have hb02 := bthen hb0 hb2
  obtain ⟨i0, i1, i2, _, _, _, hg4⟩ := hB1'.cells
  obtain ⟨j0, j1, j2, e0, e1, e2, hg5⟩ := hB2'.cells
  have hbS := below_set3 (x := .bool (ng b)) (y := v1) (z := v2) hb02 (by omega : w.heap.size ≤ w.heap.size + 1)
  have hB3S := hB3'.other (x := .bool (ng b)) (y := v1) (z := v2) (by omega : w.heap.size + 1 + 1 ≠ w.heap.size + 1)
  have hg6 := hB3S.cells.2.2.2.2.2.2
  have hR : RatR 100000000000 (S3 w2 (w.heap.size + 1) (.bool (ng b)) v1 v2) (.agg #[.bool (ng b), v2, v1]) b⁻¹ :=
    ⟨_, _, _, _, _, rfl, (m2.set3 hg2).mono (Nat.zero_le _), (m1.set3 hg2).mono (Nat.zero_le _), by rw [val_limbs, val_limbs, ← qv_inv, qv_self], Nat.le_trans (rs_den b) z2, Nat.le_trans (rs_nm b) z2⟩
  obtain ⟨ao5, c5, rfl, _⟩ := m1.open
  obtain ⟨ao6, c6, rfl, _⟩ := m2.open
  have C1 := Lib.hid (CM.out _ _ hbS hR)
  have C2 := Lib.hid (CI.out (S3 w2 (w.heap.size + 1) (.bool (ng b)) (.slice ao5 (limbs (nm b)).length c5) (.slice ao6 (limbs b.den).length c6)))
  by_cases hz : b = 0
  · have ht : (((limbs (nm b)).length : Int) == 0) = true := by rw [beq_iff_eq]; have := limbs_len_zero.2 (nm_zero.2 hz); omega
    have hd : (!decide (b = 0)) = false := by rw [decide_eq_true hz]; rfl
    have hq : a / b = ((0 : Int) : Rat) := by rw [hz, Rat.div_def, Rat.inv_zero, Rat.mul_zero]; rfl
    have HD := Lib.hid hd
    have HQ := Lib.hid hq
    clear N1 CM CI C1 hd hq hz hR m1 m2
    generalize limbs (nm b) = A at *
    generalize limbs b.den = B at *
    generalize ng b = sb at *
    go_wp2_with fail
    refine C2.out.mono ?_
    rintro e w3 ⟨u3, rfl, t3, hb3⟩
    obtain ⟨s8, ao8, n8, c8, ao9, n9, c9, rfl⟩ := t3.open
    have hB3n := hB3S.below hb3 hg6
    obtain ⟨o0, o1, o2, d0, d1, d2, hg7⟩ := hB3n.cells
    go_wp2
    obtain ⟨r0, r1, r2, _⟩ := (hB3n.stored (.bool s8) (.slice ao8 n8 c8) (.slice ao9 n9 c9)).cells
    exact bodyPost_ret (v := .tuple #[.agg #[.bool s8, .slice ao8 n8 c8, .slice ao9 n9 c9], .bool false]) (by simp [results, Tryz.results25, go_sem, r0, r1, r2]) rfl
      ⟨_, by rw [HD.out], by rw [HQ.out]; exact (t3.set3 hg6).mono hbS.size, below_set3 (bthen hbS hb3) (by omega)⟩
  · have ht : (((limbs (nm b)).length : Int) == 0) = false := by rw [beq_eq_false_iff_ne]; intro hc; exact hz (nm_zero.1 (limbs_len_zero.1 (by omega)))
    have hd : (!decide (b = 0)) = true := by rw [decide_eq_false hz]; rfl
    have HD := Lib.hid hd
    clear N1 CM CI C2 hd hz hR m1 m2
    generalize limbs (nm b) = A at *
    generalize limbs b.den = B at *
    generalize ng b = sb at *
    go_wp2_with fail
    refine C1.out.mono ?_
    rintro e w3 ⟨u3, rfl, t3, hb3⟩
    obtain ⟨s8, ao8, n8, c8, ao9, n9, c9, rfl⟩ := t3.open
    have hB3n := hB3S.below hb3 hg6
    obtain ⟨o0, o1, o2, d0, d1, d2, hg7⟩ := hB3n.cells
    go_wp2
    obtain ⟨r0, r1, r2, _⟩ := (hB3n.stored (.bool s8) (.slice ao8 n8 c8) (.slice ao9 n9 c9)).cells
    exact bodyPost_ret (v := .tuple #[.agg #[.bool s8, .slice ao8 n8 c8, .slice ao9 n9 c9], .bool true]) (by simp [results, Tryz.results25, go_sem, r0, r1, r2]) rfl
      ⟨_, by rw [HD.out], (t3.set3 hg6).mono hbS.size, below_set3 (bthen hbS hb3) (by omega)⟩
end Go.Proofs.YtocpmekblkfdiaaGreatDoor
namespace Go.Proofs.YtocpmekblkfdiaaGreatDoor
open Go.RowKit
/-- how many wholes lie below, without the sign -/
def flN (q : Rat) : Nat := if ng q = true ∧ 0 < nm q % q.den then nm q / q.den + 1 else nm q / q.den
theorem flN_spec (q : Rat) : q.floor = sg (ng q) (flN q) := by
  rw [Rat.floor_def]
  have hd : 0 < q.den := q.den_pos
  unfold flN ng nm sg
  by_cases h : q.num < 0
  · simp only [h, decide_true, if_true, true_and]
    obtain ⟨m, hm⟩ : ∃ m : Nat, q.num = -(m : Int) := ⟨q.num.natAbs, by omega⟩
    rw [hm, Int.natAbs_neg, Int.natAbs_natCast]
    generalize q.den = d at *
    have h1 := Nat.div_add_mod m d
    have h2 := Nat.mod_lt m hd
    generalize m / d = k at *
    generalize m % d = r at *
    have hc : (d : Int) * (k : Int) + r = m := by rw [← h1]; push_cast; rfl
    by_cases hr : 0 < r
    · rw [if_pos hr]
      refine ((Int.ediv_emod_unique (by omega : (0 : Int) < d) (r := (d : Int) - r)).2 ⟨?_, by omega, by omega⟩).1
      rw [Int.mul_neg]
      push_cast
      rw [Int.mul_add]
      omega
    · rw [if_neg hr]
      refine ((Int.ediv_emod_unique (by omega : (0 : Int) < d) (r := 0)).2 ⟨?_, by omega, by omega⟩).1
      rw [Int.mul_neg]
      omega
  · simp only [h, decide_false, Bool.false_eq_true, if_false, false_and]
    obtain ⟨m, hm⟩ : ∃ m : Nat, q.num = (m : Int) := ⟨q.num.natAbs, by omega⟩
    rw [hm, Int.natAbs_natCast]
    exact (Int.natCast_ediv m q.den).symm
theorem fl_parts (q : Rat) : nm (q.floor : Rat) = flN q ∧ ng (q.floor : Rat) = (ng q && decide (0 < (limbs (flN q)).length)) := by
  have h := flN_spec q
  refine ⟨?_, ?_⟩
  · rw [(int_parts _).1, h, sg_natAbs]
  · rw [(int_parts _).2.2, h]
    have h0 := @limbs_len_zero (flN q)
    cases hs : ng q
    · simp [sg]
    · by_cases hz : flN q = 0
      · rw [hz]; simp [sg, limbs_zero]
      · have : 0 < (limbs (flN q)).length := Nat.pos_of_ne_zero fun hc => hz (h0.1 hc)
        rw [decide_eq_true this]
        simp [sg]; omega
set_option maxRecDepth 100000 in
set_option maxHeartbeats 1000000 in
theorem ratFloor (w : World) (v : Value) (q : Rat) (h : RatR 100000000000 w v q) :
    Calls Tryz.prog 114 #[v] w (RetRat ((q.floor : Int) : Rat) w) := by
  have N1 := Lib.hid (fun w1 (hb : Below w.heap.size w w1) => ratNorm w1 v q ((h.below hb (Nat.le_refl _)).more (by omega)))
  have z1 := h.size (by omega)
  have zn := rs_nm q
  have zd := rs_den q
  have CD := Lib.hid (fun w1 u1 u2 b1 b2 (t1 : Nt b1 w1 u1 (limbs (nm q))) (t2 : Nt b2 w1 u2 (limbs q.den)) => natDivMod w1 u1 u2 _ _ b1 b2 t1 t2 (by omega) (by omega))
  simp only [val_limbs] at CD
  have hdn : (if q.den = 0 then 0 else nm q % q.den) = nm q % q.den := if_neg q.den_nz
  unfold RetDivMod at CD
  rw [hdn] at CD
  have hql : (limbs (nm q / q.den)).length ≤ 100000000000 := by
    have := limbs_len_mono (Nat.div_le_self (nm q) q.den)
    omega
  have hE : Hid (∀ w' u1 u2, Nt w.heap.size w' u1 (limbs (flN q)) → Nt w.heap.size w' u2 (limbs 1) → RatC w.heap.size w' (.agg #[.bool (ng q && decide (0 < (limbs (flN q)).length)), u1, u2]) ((q.floor : Int) : Rat)) :=
    Lib.hid (fun w' u1 u2 m1 m2 => ⟨_, _, by rw [(fl_parts q).2], by rw [(fl_parts q).1]; exact m1, m2⟩)
  obtain ⟨s1, ao1, n1, c1, ao2, n2, c2, rfl⟩ := h.open
  clear h z1 zn zd hdn
  go_enter Tryz.func114, Tryz.ntmps114
  go_upto_region 1 with fail
  obtain ⟨K, rfl, hb0, hB1, hB2⟩ := boxes2 w (.bool s1) (.slice ao1 n1 c1) (.slice ao2 n2 c2)
  generalize ((w.alloc (.cells #[.bool s1, .slice ao1 n1 c1, .slice ao2 n2 c2] 24)).alloc (.cells #[.bool false, .slice none 0 0, .slice none 0 0] 24)) = w0 at *
  obtain ⟨k0, k1, k2, f0, f1, f2, hg1⟩ := hB1.cells
  have hg2 := hB2.cells.2.2.2.2.2.2
  go_wp2_with fail
  refine (N1.out w0 hb0).mono ?_
  rintro e w2 ⟨u, rfl, ⟨v1, v2, rfl, m1, m2⟩, hb2⟩
  have hB1' := (hB1.below hb2 hg1).stored (.bool (ng q)) v1 v2
  obtain ⟨i0, i1, i2, _, _, _, _⟩ := (hB1.below hb2 hg1).cells
  have hB2' := (hB2.below hb2 hg2).other (x := .bool (ng q)) (y := v1) (z := v2) (by omega : w.heap.size + 1 ≠ w.heap.size)
  have hbS := below_set3 (x := .bool (ng q)) (y := v1) (z := v2) (bthen hb0 hb2) (Nat.le_refl _)
  have C1 := Lib.hid (CD.out _ _ _ _ _ (m1.set3 (x := .bool (ng q)) (y := v1) (z := v2) hg1) (m2.set3 (x := .bool (ng q)) (y := v1) (z := v2) hg1))
  obtain ⟨ao5, c5, rfl, _⟩ := m1.open
  obtain ⟨ao6, c6, rfl, _⟩ := m2.open
  go_wp2_with fail
  refine C1.out.mono ?_
  rintro e w3 ⟨u1, u2, rfl, t1, t2, hb3⟩
  have hg5 := hB1'.cells.2.2.2.2.2.2
  have hg6 := hB2'.cells.2.2.2.2.2.2
  have hB1n := hB1'.below hb3 hg5
  have hB2n := hB2'.below hb3 hg6
  have hbA := bthen hbS hb3
  have hbig : w.heap.size + 1 + 1 ≤ (S3 w2 w.heap.size (.bool (ng q)) (.slice ao5 (limbs (nm q)).length c5) (.slice ao6 (limbs q.den).length c6)).heap.size := by rw [size_S3]; have := hb2.size; omega
  replace t1 := t1.mono hbig
  clear hB1 hB2 hB1' hB2' N1 CD C1 m1 m2 hb3 i0 i1 i2 k0 k1 k2 hbS hbig hb0 hb2
  have hFN : flN q = if ng q = true ∧ 0 < nm q % q.den then nm q / q.den + 1 else nm q / q.den := rfl
  obtain ⟨ao7, c7, rfl, _⟩ := t1.open
  obtain ⟨ao8, c8, rfl, _⟩ := t2.open
  have hrl := @limbs_len_zero (nm q % q.den)
  have GA := Lib.hid (fun w1 x (hb : Below w3.heap.size w3 w1) (m2 : Nt 0 w1 x (limbs 1)) => natAdd w1 _ x _ _ ((t1.below hb (Nat.le_refl _)).mono (Nat.zero_le _)) m2 (by omega) (by rw [show (limbs 1).length = 1 from rfl]; omega))
  have G0 : Hid (∀ w1, Calls Tryz.prog 64 #[.int .u64 1] w1 (RetNat 1 w1)) := Lib.hid (fun w1 => natOf w1 1 (by omega))
  have SG := Lib.hid (fun w1 ao c x ys b1 b2 (m1 : Nt b1 w1 (.slice ao (limbs (flN q)).length c) (limbs (flN q))) (m2 : Nt b2 w1 x ys) => ratSigned w1 (ng q) false _ _ _ _ b1 b2 m1 m2)
  simp only [val_limbs] at GA
  generalize hsF : (ng q && decide (0 < (limbs (flN q)).length)) = sF at *
  clear hsF
  obtain ⟨k0, k1, k2, _, _, _, hgA⟩ := hB1n.cells
  have hgB := hB2n.cells.2.2.2.2.2.2
  generalize ng q = sq at *
  generalize limbs (nm q) = A at *
  generalize limbs q.den = B at *
  have hC : (sq = true ∧ 0 < (limbs (nm q % q.den)).length ∧ flN q = nm q / q.den + 1) ∨ (sq = true ∧ (limbs (nm q % q.den)).length = 0 ∧ flN q = nm q / q.den) ∨ (sq = false ∧ flN q = nm q / q.den) := by
    cases sq
    · right; right; exact ⟨rfl, by rw [hFN, if_neg (fun h => by cases h.1)]⟩
    · by_cases hr : 0 < nm q % q.den
      · left; exact ⟨rfl, Nat.pos_of_ne_zero fun hc => by have := hrl.1 hc; omega, by rw [hFN, if_pos ⟨rfl, hr⟩]⟩
      · right; left; exact ⟨rfl, hrl.2 (by omega), by rw [hFN, if_neg (fun h => hr h.2)]⟩
  clear hrl hFN
  generalize limbs (nm q % q.den) = R at *
  rcases hC with ⟨rfl, hr, hFN⟩ | ⟨rfl, hr, hFN⟩ | ⟨rfl, hFN⟩
  · rw [← hFN] at GA
    clear hFN
    unfold RetNat at GA
    generalize limbs (flN q) = F at *
    generalize limbs (nm q / q.den) = Q at *
    go_wp2_with fail
    refine (G0.out w3).mono ?_
    rintro e w4 ⟨u4, rfl, t4, hb4⟩
    obtain ⟨aoO, cO, rfl, _⟩ := t4.open
    go_wp2_with fail
    refine (GA.out w4 _ hb4 (t4.mono (Nat.zero_le _))).mono ?_
    rintro e wz ⟨uF, rfl, tF, hb5⟩
    obtain ⟨aoF, cF, rfl, _⟩ := tF.open
    have hb45 := bthen hb4 hb5
    have hB1z := hB1n.below hb45 hgA
    have hB2z := hB2n.below hb45 hgB
    have hbz := bthen hbA hb45
    replace tF := tF.mono (show w.heap.size + 1 + 1 ≤ w4.heap.size by have := hb4.size; omega)
    clear GA t1 t2 t4 hB1n hB2n hbA hb4 hb5 hb45 k0 k1 k2 hgA hgB
    go_wp2_with fail
    obtain ⟨k0, k1, k2, _, _, _, hgA⟩ := hB1z.cells
    have hgB := hB2z.cells.2.2.2.2.2.2
    go_region_held3 (fun w' => w'.cell? ⟨w.heap.size, 0, none⟩ = some (.bool true)) (first | exact k0 | exact i0 | exact o0 | exact (cS3 (by omega)).trans o0 | go_keep)
      (first
        | ((go_simp; go_at_call 64; (with_reducible refine (G0.out wz.drew).mono ?_); rintro e w5 ⟨u5, rfl, t5, hb5⟩; have hb5' := bthen (Below.refl wz.heap.size wz).drew hb5; obtain ⟨ao9, c9, rfl, _⟩ := t5.open; obtain ⟨i0, i1, i2, _, _, _, _⟩ := (hB1z.below hb5' hgA).cells))
        | ((go_simp; go_at_call 102; (with_reducible refine (SG.out w5 _ _ _ _ _ _ (tF.below hb5' (Nat.le_refl _)) t5).mono ?_); rintro e w6 ⟨rfl, hb6⟩; have hb6' := bthen hb5' hb6; obtain ⟨o0, o1, o2, _, _, _, hg7⟩ := (hB1z.below hb6' hgA).cells; obtain ⟨h0, h1, h2, d0, d1, d2, hg8⟩ := (hB2z.below hb6' hgB).cells)))
    go_wp2_with fail
    obtain ⟨r0, r1, r2, _⟩ := ((hB2z.below hb6' hgB).stored (.bool sF) (.slice aoF F.length cF) (.slice ao9 (limbs 1).length c9)).cells
    exact bodyPost_ret (v := .agg #[.bool sF, .slice aoF F.length cF, .slice ao9 (limbs 1).length c9]) (by simp [results, Tryz.results114, go_sem, r0, r1, r2]) rfl
      ⟨_, rfl, hE.out _ _ _ (((tF.below hb6' (Nat.le_refl _)).set3 (by omega)).mono (by omega)) (((t5.below hb6 (Nat.le_refl _)).set3 (by exact hgB)).mono (by exact Nat.le_of_lt hgA)), below_set3 (bthen hbz hb6') (by omega)⟩
  · simp only [hFN] at hE SG
    clear hFN GA
    generalize limbs (nm q / q.den) = F at *
    have hB1z := hB1n
    have hB2z := hB2n
    have hbz := hbA
    have tF := t1
    clear hgA hgB
    generalize w3 = wz at *
    generalize ao7 = aoF at *
    generalize c7 = cF at *
    go_wp2_with fail
    obtain ⟨k0, k1, k2, _, _, _, hgA⟩ := hB1z.cells
    have hgB := hB2z.cells.2.2.2.2.2.2
    go_region_held3 (fun w' => w'.cell? ⟨w.heap.size, 0, none⟩ = some (.bool true)) (first | exact k0 | exact i0 | exact o0 | exact (cS3 (by omega)).trans o0 | go_keep)
      (first
        | ((go_simp; go_at_call 64; (with_reducible refine (G0.out wz.drew).mono ?_); rintro e w5 ⟨u5, rfl, t5, hb5⟩; have hb5' := bthen (Below.refl wz.heap.size wz).drew hb5; obtain ⟨ao9, c9, rfl, _⟩ := t5.open; obtain ⟨i0, i1, i2, _, _, _, _⟩ := (hB1z.below hb5' hgA).cells))
        | ((go_simp; go_at_call 102; (with_reducible refine (SG.out w5 _ _ _ _ _ _ (tF.below hb5' (Nat.le_refl _)) t5).mono ?_); rintro e w6 ⟨rfl, hb6⟩; have hb6' := bthen hb5' hb6; obtain ⟨o0, o1, o2, _, _, _, hg7⟩ := (hB1z.below hb6' hgA).cells; obtain ⟨h0, h1, h2, d0, d1, d2, hg8⟩ := (hB2z.below hb6' hgB).cells)))
    go_wp2_with fail
    obtain ⟨r0, r1, r2, _⟩ := ((hB2z.below hb6' hgB).stored (.bool sF) (.slice aoF F.length cF) (.slice ao9 (limbs 1).length c9)).cells
    exact bodyPost_ret (v := .agg #[.bool sF, .slice aoF F.length cF, .slice ao9 (limbs 1).length c9]) (by simp [results, Tryz.results114, go_sem, r0, r1, r2]) rfl
      ⟨_, rfl, hE.out _ _ _ (((tF.below hb6' (Nat.le_refl _)).set3 (by omega)).mono (by omega)) (((t5.below hb6 (Nat.le_refl _)).set3 (by exact hgB)).mono (by exact Nat.le_of_lt hgA)), below_set3 (bthen hbz hb6') (by omega)⟩
  · simp only [hFN] at hE SG
    clear hFN GA
    generalize limbs (nm q / q.den) = F at *
    have hB1z := hB1n
    have hB2z := hB2n
    have hbz := hbA
    have tF := t1
    clear hgA hgB
    generalize w3 = wz at *
    generalize ao7 = aoF at *
    generalize c7 = cF at *
    go_wp2_with fail
    obtain ⟨k0, k1, k2, _, _, _, hgA⟩ := hB1z.cells
    have hgB := hB2z.cells.2.2.2.2.2.2
    go_region_held3 (fun w' => w'.cell? ⟨w.heap.size, 0, none⟩ = some (.bool false)) (first | exact k0 | exact i0 | exact o0 | exact (cS3 (by omega)).trans o0 | go_keep)
      (first
        | ((go_simp; go_at_call 64; (with_reducible refine (G0.out wz.drew).mono ?_); rintro e w5 ⟨u5, rfl, t5, hb5⟩; have hb5' := bthen (Below.refl wz.heap.size wz).drew hb5; obtain ⟨ao9, c9, rfl, _⟩ := t5.open; obtain ⟨i0, i1, i2, _, _, _, _⟩ := (hB1z.below hb5' hgA).cells))
        | ((go_simp; go_at_call 102; (with_reducible refine (SG.out w5 _ _ _ _ _ _ (tF.below hb5' (Nat.le_refl _)) t5).mono ?_); rintro e w6 ⟨rfl, hb6⟩; have hb6' := bthen hb5' hb6; obtain ⟨o0, o1, o2, _, _, _, hg7⟩ := (hB1z.below hb6' hgA).cells; obtain ⟨h0, h1, h2, d0, d1, d2, hg8⟩ := (hB2z.below hb6' hgB).cells)))
    go_wp2_with fail
    obtain ⟨r0, r1, r2, _⟩ := ((hB2z.below hb6' hgB).stored (.bool sF) (.slice aoF F.length cF) (.slice ao9 (limbs 1).length c9)).cells
    exact bodyPost_ret (v := .agg #[.bool sF, .slice aoF F.length cF, .slice ao9 (limbs 1).length c9]) (by simp [results, Tryz.results114, go_sem, r0, r1, r2]) rfl
      ⟨_, rfl, hE.out _ _ _ (((tF.below hb6' (Nat.le_refl _)).set3 (by omega)).mono (by omega)) (((t5.below hb6 (Nat.le_refl _)).set3 (by exact hgB)).mono (by exact Nat.le_of_lt hgA)), below_set3 (bthen hbz hb6') (by omega)⟩
end Go.Proofs.YtocpmekblkfdiaaGreatDoor
namespace Go.Proofs.YtocpmekblkfdiaaGreatDoor
open Go.RowKit
end Go.Proofs.YtocpmekblkfdiaaGreatDoor
namespace Go.Proofs.YtocpmekblkfdiaaGreatDoor
open Go.RowKit
end Go.Proofs.YtocpmekblkfdiaaGreatDoor
