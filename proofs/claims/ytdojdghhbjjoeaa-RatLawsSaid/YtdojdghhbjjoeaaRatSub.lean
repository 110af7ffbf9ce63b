/- Contracts of rat.Sub, rat.Zero, rat.Cmp. Conditions: at most 10^11 limbs. -/
import Derived.Test.YtdojdghhbjjoeaaRatAdd
import Derived.Test.YtdojdghhbjjoeaaRatNeg
namespace Go.Proofs.Ytdojdghhbjjoeaa
open Go.RowKit

set_option maxRecDepth 100000 in
set_option maxHeartbeats 1000000 in
theorem ratSub (w : World) (v1 v2 : Value) (a b : Rat) (h1 : RatR 100000000000 w v1 a) (h2 : RatR 100000000000 w v2 b) :
    Calls Try.prog 24 #[v1, v2] w (RetRat (a - b) w) := by
  have N1 := Lib.hid (fun w1 (hb : Below w.heap.size w w1) => ratNeg w1 v2 b ((h2.below hb (Nat.le_refl _)).more (by omega)))
  have z2 := h2.size (by omega)
  have N2 := Lib.hid (fun w1 u (hb : Below w.heap.size w w1) (hu : RatR 100000000000 w1 u (-b)) => ratAdd w1 v1 u a (-b) (h1.below hb (Nat.le_refl _)) hu)
  rw [← Rat.sub_eq_add_neg] at N2
  obtain ⟨s1, ao1, n1, c1, ao2, n2, c2, rfl⟩ := h1.open
  obtain ⟨s2, ao3, n3, c3, ao4, n4, c4, rfl⟩ := h2.open
  clear h1 h2
  go_enter Try.func24, Try.ntmps24
  go_upto_region 1 with fail
  obtain ⟨K, rfl, hb0, hB1, hB2, hB3⟩ := boxes3 w (.bool s1) (.slice ao1 n1 c1) (.slice ao2 n2 c2) (.bool s2) (.slice ao3 n3 c3) (.slice ao4 n4 c4)
  generalize (((w.alloc (.cells #[.bool s1, .slice ao1 n1 c1, .slice ao2 n2 c2] 24)).alloc (.cells #[.bool s2, .slice ao3 n3 c3, .slice ao4 n4 c4] 24)).alloc (.cells #[.bool false, .slice none 0 0, .slice none 0 0] 24)) = w0 at *
  obtain ⟨k0, k1, k2, f0, f1, f2, hg1⟩ := hB1.cells
  obtain ⟨l0, l1, l2, g0, g1, g2, hg2⟩ := hB2.cells
  have hg3 := hB3.cells.2.2.2.2.2.2
  go_wp2_with fail
  go_region_held3 (fun w' => w'.cell? ⟨w.heap.size, 0, none⟩ = some (.bool s1) ∧ w'.cell? ⟨w.heap.size, 1, none⟩ = some (.slice ao1 n1 c1) ∧ w'.cell? ⟨w.heap.size, 2, none⟩ = some (.slice ao2 n2 c2) ∧ w'.cell? ⟨w.heap.size + 1, 0, none⟩ = some (.bool s2) ∧ w'.cell? ⟨w.heap.size + 1, 1, none⟩ = some (.slice ao3 n3 c3) ∧ w'.cell? ⟨w.heap.size + 1, 2, none⟩ = some (.slice ao4 n4 c4))
    (first | exact ⟨k0, k1, k2, l0, l1, l2⟩ | exact ⟨i0, i1, i2, j0, j1, j2⟩ | exact ⟨o0, o1, o2, p0, p1, p2⟩ | exact ⟨(cS3 (by omega)).trans o0, (cS3 (by omega)).trans o1, (cS3 (by omega)).trans o2, (cS3 (by omega)).trans p0, (cS3 (by omega)).trans p1, (cS3 (by omega)).trans p2⟩ | go_keep)
    (first
      | ((go_simp; go_at_call 26; (with_reducible refine (N1.out w0.drew hb0.drew).mono ?_); rintro e w2 ⟨u1, rfl, t1, hb2⟩; have hb2' := bthen (Below.refl w0.heap.size w0).drew hb2; obtain ⟨i0, i1, i2, _, _, _, hg4⟩ := (hB1.below hb2' hg1).cells; obtain ⟨j0, j1, j2, _, _, _, hg4⟩ := (hB2.below hb2' hg2).cells))
      | ((go_simp; go_at_call 19; (with_reducible refine (N2.out w2 u1 (bthen hb0 hb2') (t1.rawK (by rw [rs_neg]; exact z2))).mono ?_); rintro e w3 ⟨u2, rfl, t2, hb3⟩; have hb3' := bthen hb2' hb3; obtain ⟨o0, o1, o2, _, _, _, hg5⟩ := (hB1.below hb3' hg1).cells; obtain ⟨p0, p1, p2, _, _, _, hg5⟩ := (hB2.below hb3' hg2).cells; obtain ⟨h0, h1, h2, d0, d1, d2, hg8⟩ := (hB3.below hb3' hg3).cells; obtain ⟨s8, ao8, n8, c8, ao9, n9, c9, rfl⟩ := t2.open)))
  go_wp2_with fail
  obtain ⟨r0, r1, r2, _⟩ := ((hB3.below hb3' hg3).stored (.bool s8) (.slice ao8 n8 c8) (.slice ao9 n9 c9)).cells
  exact bodyPost_ret (v := .agg #[.bool s8, .slice ao8 n8 c8, .slice ao9 n9 c9]) (by simp [results, Try.results24, go_sem, r0, r1, r2]) rfl
    ⟨_, rfl, (t2.set3 (by have := hb2'.size; omega)).mono (by have := hb2'.size; omega), below_set3 (bthen hb0 hb3') (by omega)⟩

theorem fieldN (a b c : Value) (w : World) : (Instr.field 24 (.agg #[a, b, c]) 1).run Try.prog w = .ok b w := by kernel_rfl
theorem fieldD (a b c : Value) (w : World) : (Instr.field 24 (.agg #[a, b, c]) 2).run Try.prog w = .ok c w := by kernel_rfl

/-- two boxes -/
theorem boxesAB (w : World) (a b c d e f : Value) : ∃ K, K = w.heap.size ∧
    Below K w ((w.alloc (.cells #[a, b, c] 24)).alloc (.cells #[d, e, f] 24)) ∧
    Box3 24 ((w.alloc (.cells #[a, b, c] 24)).alloc (.cells #[d, e, f] 24)) K a b c ∧
    Box3 24 ((w.alloc (.cells #[a, b, c] 24)).alloc (.cells #[d, e, f] 24)) (K + 1) d e f := by
  refine ⟨_, rfl, ((Below.refl _ _).alloc (Nat.le_refl _) _).alloc (by simp) _, ?_, ?_⟩
  · exact (Box3.new 24 w a b c).below ((Below.refl _ _).alloc (Nat.le_refl _) _) (by simp)
  · have h := Box3.new 24 (w.alloc (.cells #[a, b, c] 24)) d e f
    rw [World.size_alloc] at h
    exact h

/-- one box -/
theorem boxes1 (w : World) (a b c : Value) : ∃ K, K = w.heap.size ∧
    Below K w (w.alloc (.cells #[a, b, c] 24)) ∧ Box3 24 (w.alloc (.cells #[a, b, c] 24)) K a b c :=
  ⟨_, rfl, (Below.refl _ _).alloc (Nat.le_refl _) _, Box3.new _ w a b c⟩

set_option maxRecDepth 100000 in
set_option maxHeartbeats 1000000 in
theorem ratZero (w : World) (v : Value) (q : Rat) (h : RatR 1000000000000 w v q) :
    Calls Try.prog 54 #[v] w fun e w' => e = .returned (.bool (decide (q = 0))) ∧ Below w.heap.size w w' := by
  have N1 := Lib.hid (fun w1 (hb : Below w.heap.size w w1) => ratNorm w1 v q (h.below hb (Nat.le_refl _)))
  obtain ⟨s1, ao1, n1, c1, ao2, n2, c2, rfl⟩ := h.open
  clear h
  have hz : (((limbs (nm q)).length : Int) == 0) = decide (q = 0) := by
    rw [Bool.eq_iff_iff]
    simp only [beq_iff_eq, decide_eq_true_eq]
    rw [← nm_zero, ← limbs_len_zero]
    omega
  go_enter Try.func54, Try.ntmps54
  go_upto_region 1 with fail
  obtain ⟨K, rfl, hb0, hB1⟩ := boxes1 w (.bool s1) (.slice ao1 n1 c1) (.slice ao2 n2 c2)
  generalize (w.alloc (.cells #[.bool s1, .slice ao1 n1 c1, .slice ao2 n2 c2] 24)) = w0 at *
  obtain ⟨k0, k1, k2, f0, f1, f2, hg1⟩ := hB1.cells
  go_wp2_with fail
  refine (N1.out w0 hb0).mono ?_
  rintro e w2 ⟨u, rfl, ⟨v1, v2, rfl, m1, m2⟩, hb2⟩
  obtain ⟨ao3, c3, rfl, _⟩ := m1.open
  obtain ⟨ao4, c4, rfl, _⟩ := m2.open
  generalize (limbs (nm q)).length = n3 at *
  have HZ := Lib.hid hz
  clear hz
  have hfd := fieldN (.bool (ng q)) (.slice ao3 n3 c3) (.slice ao4 (limbs q.den).length c4)
  go_wp2
  rw [HZ.out]
  exact bodyPost_ret (by simp [results, Try.results54, go_sem]) rfl ⟨rfl, bthen hb0 hb2⟩

/-- the sign of a difference -/
def cmpQ (a b : Rat) : Int := if a < b then -1 else if b < a then 1 else 0

theorem ng_sub (a b : Rat) : ng (a - b) = decide (a < b) := by
  unfold ng
  rw [Bool.eq_iff_iff]
  simp only [decide_eq_true_eq]
  rw [← Rat.not_le, Rat.le_iff_sub_nonneg, ← Rat.num_nonneg]
  omega
theorem sub_len (a b : Rat) : (limbs (nm (a - b))).length = 0 ↔ a = b := by
  rw [limbs_len_zero, nm_zero]
  exact ⟨fun h => by
    have h1 := Rat.le_iff_sub_nonneg b a
    rw [h] at h1
    have h2 : b - a = 0 := by rw [← Rat.neg_sub, h]; rfl
    have h3 := Rat.le_iff_sub_nonneg a b
    rw [h2] at h3
    exact Rat.le_antisymm (h3.2 Rat.le_refl) (h1.2 Rat.le_refl), fun h => by rw [h]; exact Rat.sub_self⟩
theorem cmpQ_cases (a b : Rat) : (ng (a - b) = true ∧ cmpQ a b = -1) ∨ (ng (a - b) = false ∧ 0 < (limbs (nm (a - b))).length ∧ cmpQ a b = 1) ∨ (ng (a - b) = false ∧ (limbs (nm (a - b))).length = 0 ∧ cmpQ a b = 0) := by
  rw [ng_sub]
  unfold cmpQ
  by_cases h : a < b
  · left; simp [h]
  · right
    by_cases he : a = b
    · right
      exact ⟨decide_eq_false h, (sub_len a b).2 he, by subst he; rw [if_neg h, if_neg h]⟩
    · left
      refine ⟨decide_eq_false h, Nat.pos_of_ne_zero fun hc => he ((sub_len a b).1 hc), ?_⟩
      have : b < a := Rat.lt_iff_le_and_ne.2 ⟨Rat.not_lt.1 h, fun hc => he hc.symm⟩
      rw [if_neg h, if_pos this]

set_option maxRecDepth 100000 in
set_option maxHeartbeats 1000000 in
theorem ratCmp (w : World) (v1 v2 : Value) (a b : Rat) (h1 : RatR 100000000000 w v1 a) (h2 : RatR 100000000000 w v2 b) :
    Calls Try.prog 28 #[v1, v2] w fun e w' => e = .returned (.int .i64 (cmpQ a b)) ∧ Below w.heap.size w w' := by
  have N1 := Lib.hid (fun w1 (hb : Below w.heap.size w w1) => ratSub w1 v1 v2 a b (h1.below hb (Nat.le_refl _)) (h2.below hb (Nat.le_refl _)))
  obtain ⟨s1, ao1, n1, c1, ao2, n2, c2, rfl⟩ := h1.open
  obtain ⟨s2, ao3, n3, c3, ao4, n4, c4, rfl⟩ := h2.open
  clear h1 h2
  have hC := cmpQ_cases a b
  generalize cmpQ a b = r at *
  go_enter Try.func28, Try.ntmps28
  go_upto_region 1 with fail
  obtain ⟨K, rfl, hb0, hB1, hB2⟩ := boxesAB w (.bool s1) (.slice ao1 n1 c1) (.slice ao2 n2 c2) (.bool s2) (.slice ao3 n3 c3) (.slice ao4 n4 c4)
  generalize ((w.alloc (.cells #[.bool s1, .slice ao1 n1 c1, .slice ao2 n2 c2] 24)).alloc (.cells #[.bool s2, .slice ao3 n3 c3, .slice ao4 n4 c4] 24)) = w0 at *
  obtain ⟨k0, k1, k2, f0, f1, f2, hg1⟩ := hB1.cells
  obtain ⟨l0, l1, l2, g0, g1, g2, hg2⟩ := hB2.cells
  go_wp2_with fail
  refine (N1.out w0 hb0).mono ?_
  rintro e w2 ⟨u, rfl, ⟨v1, v2, rfl, m1, m2⟩, hb2⟩
  obtain ⟨ao5, c5, rfl, _⟩ := m1.open
  obtain ⟨ao6, c6, rfl, _⟩ := m2.open
  generalize (limbs (nm (a - b))).length = n5 at *
  have hb3 := (bthen hb0 hb2).alloc (bthen hb0 hb2).size (.cells #[.bool (ng (a - b)), .slice ao5 n5 c5, .slice ao6 (limbs (a - b).den).length c6] 24)
  generalize ng (a - b) = sg at *
  rcases hC with ⟨rfl, rfl⟩ | ⟨rfl, hp, rfl⟩ | ⟨rfl, rfl, rfl⟩
  · go_wp2
    exact bodyPost_ret (by simp [results, Try.results28, go_sem]) rfl ⟨rfl, hb3⟩
  · go_wp2
    exact bodyPost_ret (by simp [results, Try.results28, go_sem]) rfl ⟨rfl, hb3⟩
  · go_wp2
    exact bodyPost_ret (by simp [results, Try.results28, go_sem]) rfl ⟨rfl, hb3⟩

end Go.Proofs.Ytdojdghhbjjoeaa
