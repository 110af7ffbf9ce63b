/- Contract of rat.Div. Conditions: at most 10^11 limbs. -/
import Derived.Test.YtdojdghhbjjoeaaRatInt
namespace Go.Proofs.Ytdojdghhbjjoeaa
open Go.RowKit

/-- What a function answers that hands back a rational, normal, in new memory, and whether there is one. -/
def RetRatOk (q : Rat) (ok : Bool) (w : World) (e : Ending) (w' : World) : Prop :=
  ∃ v, e = .returned (.tuple #[v, .bool ok]) ∧ RatC w.heap.size w' v q ∧ Below w.heap.size w w'

set_option maxRecDepth 100000 in
set_option maxHeartbeats 1000000 in
theorem ratDiv (w : World) (v1 v2 : Value) (a b : Rat) (h1 : RatR 100000000000 w v1 a) (h2 : RatR 100000000000 w v2 b) :
    Calls Try.prog 23 #[v1, v2] w (RetRatOk (a / b) (!decide (b = 0)) w) := by
  have N1 := Lib.hid (fun w1 (hb : Below w.heap.size w w1) => ratNorm w1 v2 b ((h2.below hb (Nat.le_refl _)).more (by omega)))
  have z2 := h2.size (by omega)
  have CM := Lib.hid (fun w1 u (hb : Below w.heap.size w w1) (hu : RatR 100000000000 w1 u b⁻¹) => ratMul w1 v1 u a b⁻¹ (h1.below hb (Nat.le_refl _)) hu)
  have CI := Lib.hid (fun w1 => ratInt w1 0 (by omega) (by omega))
  rw [← Rat.div_def] at CM
  obtain ⟨s1, ao1, n1, c1, ao2, n2, c2, rfl⟩ := h1.open
  obtain ⟨s2, ao3, n3, c3, ao4, n4, c4, rfl⟩ := h2.open
  clear h1 h2
  go_enter Try.func23, Try.ntmps23
  go_upto_region 1 with fail
  obtain ⟨K, rfl, hb0, hB1, hB2, hB3⟩ := boxes3 w (.bool s1) (.slice ao1 n1 c1) (.slice ao2 n2 c2) (.bool s2) (.slice ao3 n3 c3) (.slice ao4 n4 c4)
  generalize (((w.alloc (.cells #[.bool s1, .slice ao1 n1 c1, .slice ao2 n2 c2] 24)).alloc (.cells #[.bool s2, .slice ao3 n3 c3, .slice ao4 n4 c4] 24)).alloc (.cells #[.bool false, .slice none 0 0, .slice none 0 0] 24)) = w0 at *
  obtain ⟨k0, k1, k2, f0, f1, f2, hg1⟩ := hB1.cells
  obtain ⟨l0, l1, l2, g0, g1, g2, hg2⟩ := hB2.cells
  have hg3 := hB3.cells.2.2.2.2.2.2
  go_wp2_with fail
  refine (N1.out w0 hb0).mono ?_
  rintro e w2 ⟨u, rfl, ⟨v1, v2, rfl, m1, m2⟩, hb2⟩
  have hB1' := hB1.below hb2 hg1
  have hB2' := hB2.below hb2 hg2
  have hB3' := hB3.below hb2 hg3
  have hb02 := bthen hb0 hb2
  obtain ⟨i0, i1, i2, _, _, _, hg4⟩ := hB1'.cells
  obtain ⟨j0, j1, j2, e0, e1, e2, hg5⟩ := hB2'.cells
  have hbS := below_set3 (x := .bool (ng b)) (y := v1) (z := v2) hb02 (by omega : w.heap.size ≤ w.heap.size + 1)
  have hB3S := hB3'.other (x := .bool (ng b)) (y := v1) (z := v2) (by omega : w.heap.size + 1 + 1 ≠ w.heap.size + 1)
  have hg6 := hB3S.cells.2.2.2.2.2.2
  have hR : RatR 100000000000 (S3 w2 (w.heap.size + 1) (.bool (ng b)) v1 v2) (.agg #[.bool (ng b), v2, v1]) b⁻¹ :=
    ⟨_, _, _, _, _, rfl, (m2.set3 hg2).mono (Nat.zero_le _), (m1.set3 hg2).mono (Nat.zero_le _), by rw [val_limbs, val_limbs, ← qv_inv, qv_self], Nat.le_trans (rs_den b) z2, Nat.le_trans (rs_nm b) z2⟩
  obtain ⟨ao5, c5, rfl, _⟩ := m1.open
  obtain ⟨ao6, c6, rfl, _⟩ := m2.open
  have C1 := Lib.hid (CM.out _ _ hbS hR)
  have C2 := Lib.hid (CI.out (S3 w2 (w.heap.size + 1) (.bool (ng b)) (.slice ao5 (limbs (nm b)).length c5) (.slice ao6 (limbs b.den).length c6)))
  by_cases hz : b = 0
  · have ht : (((limbs (nm b)).length : Int) == 0) = true := by rw [beq_iff_eq]; have := limbs_len_zero.2 (nm_zero.2 hz); omega
    have hd : (!decide (b = 0)) = false := by rw [decide_eq_true hz]; rfl
    have hq : a / b = ((0 : Int) : Rat) := by rw [hz, Rat.div_def, Rat.inv_zero, Rat.mul_zero]; rfl
    have HD := Lib.hid hd
    have HQ := Lib.hid hq
    clear N1 CM CI C1 hd hq hz hR m1 m2
    generalize limbs (nm b) = A at *
    generalize limbs b.den = B at *
    generalize ng b = sb at *
    go_wp2_with fail
    refine C2.out.mono ?_
    rintro e w3 ⟨u3, rfl, t3, hb3⟩
    obtain ⟨s8, ao8, n8, c8, ao9, n9, c9, rfl⟩ := t3.open
    have hB3n := hB3S.below hb3 hg6
    obtain ⟨o0, o1, o2, d0, d1, d2, hg7⟩ := hB3n.cells
    go_wp2
    obtain ⟨r0, r1, r2, _⟩ := (hB3n.stored (.bool s8) (.slice ao8 n8 c8) (.slice ao9 n9 c9)).cells
    exact bodyPost_ret (v := .tuple #[.agg #[.bool s8, .slice ao8 n8 c8, .slice ao9 n9 c9], .bool false]) (by simp [results, Try.results23, go_sem, r0, r1, r2]) rfl
      ⟨_, by rw [HD.out], by rw [HQ.out]; exact (t3.set3 hg6).mono hbS.size, below_set3 (bthen hbS hb3) (by omega)⟩
  · have ht : (((limbs (nm b)).length : Int) == 0) = false := by rw [beq_eq_false_iff_ne]; intro hc; exact hz (nm_zero.1 (limbs_len_zero.1 (by omega)))
    have hd : (!decide (b = 0)) = true := by rw [decide_eq_false hz]; rfl
    have HD := Lib.hid hd
    clear N1 CM CI C2 hd hz hR m1 m2
    generalize limbs (nm b) = A at *
    generalize limbs b.den = B at *
    generalize ng b = sb at *
    go_wp2_with fail
    refine C1.out.mono ?_
    rintro e w3 ⟨u3, rfl, t3, hb3⟩
    obtain ⟨s8, ao8, n8, c8, ao9, n9, c9, rfl⟩ := t3.open
    have hB3n := hB3S.below hb3 hg6
    obtain ⟨o0, o1, o2, d0, d1, d2, hg7⟩ := hB3n.cells
    go_wp2
    obtain ⟨r0, r1, r2, _⟩ := (hB3n.stored (.bool s8) (.slice ao8 n8 c8) (.slice ao9 n9 c9)).cells
    exact bodyPost_ret (v := .tuple #[.agg #[.bool s8, .slice ao8 n8 c8, .slice ao9 n9 c9], .bool true]) (by simp [results, Try.results23, go_sem, r0, r1, r2]) rfl
      ⟨_, by rw [HD.out], (t3.set3 hg6).mono hbS.size, below_set3 (bthen hbS hb3) (by omega)⟩

end Go.Proofs.Ytdojdghhbjjoeaa
