/- Contract of rat.Mul. Conditions: at most 10^11 limbs. Contract of rat.Add. Conditions: at most 10^11 limbs. Contract of rat.signed. No condition. Contract of rat.Neg. Conditions: at most 10^12 limbs. Contracts of rat.Sub, rat.Zero, rat.Cmp. Conditions: at most 10^11 limbs. -/
import Derived.Test.YtjfaefgabaimaaaGreatGD
namespace Go.Proofs.YtjfaefgabaimaaaGreat
open Go.RowKit
end Go.Proofs.YtjfaefgabaimaaaGreat
namespace Go.Proofs.YtjfaefgabaimaaaGreat
open Go.RowKit
theorem add_same (a b : Rat) (h : ng a = ng b) : a + b = qv (ng a) (nm a * b.den + nm b * a.den) (a.den * b.den) := by
  rw [← qv_add _ _ _ _ _ a.den_nz b.den_nz]
  conv => lhs; rw [← qv_self a, ← qv_self b, ← h]
theorem add_left (a b : Rat) (h : ng a ≠ ng b) (hle : nm b * a.den ≤ nm a * b.den) : a + b = qv (ng a) (nm a * b.den - nm b * a.den) (a.den * b.den) := by
  have := qv_sub (ng a) (ng b) (nm a) a.den (nm b) b.den h a.den_nz b.den_nz
  rw [if_pos hle, qv_self, qv_self] at this
  exact this
theorem add_right (a b : Rat) (h : ng a ≠ ng b) (hlt : ¬ nm b * a.den ≤ nm a * b.den) : a + b = qv (ng b) (nm b * a.den - nm a * b.den) (a.den * b.den) := by
  have := qv_sub (ng a) (ng b) (nm a) a.den (nm b) b.den h a.den_nz b.den_nz
  rw [if_neg hlt, qv_self, qv_self] at this
  exact this
end Go.Proofs.YtjfaefgabaimaaaGreat
namespace Go.Proofs.YtjfaefgabaimaaaGreat
open Go.RowKit
theorem Box3.other1 {t g' : Nat} {w : World} {g : Nat} {a b c x : Value} (h : Box3 t w g a b c) (hne : g ≠ g') : Box3 t (w.setCell ⟨g', 0, none⟩ x) g a b c := by
  unfold Box3 at *
  rw [heap_setCell_other _ _ _ _ hne]
  exact h
theorem below_set1 {B g : Nat} {w0 w : World} {x : Value} (h : Below B w0 w) (hg : B ≤ g) : Below B w0 (w.setCell ⟨g, 0, none⟩ x) := h.setCell (by exact hg) _
theorem boxes2 (w : World) (a b c : Value) : ∃ K, K = w.heap.size ∧
    Below K w ((w.alloc (.cells #[a, b, c] 24)).alloc (.cells #[.bool false, .slice none 0 0, .slice none 0 0] 24)) ∧
    Box3 24 ((w.alloc (.cells #[a, b, c] 24)).alloc (.cells #[.bool false, .slice none 0 0, .slice none 0 0] 24)) K a b c ∧
    Box3 24 ((w.alloc (.cells #[a, b, c] 24)).alloc (.cells #[.bool false, .slice none 0 0, .slice none 0 0] 24)) (K + 1) (.bool false) (.slice none 0 0) (.slice none 0 0) := by
  refine ⟨_, rfl, ((Below.refl _ _).alloc (Nat.le_refl _) _).alloc (by simp) _, ?_, ?_⟩
  · exact (Box3.new 24 w a b c).below ((Below.refl _ _).alloc (Nat.le_refl _) _) (by simp)
  · have h := Box3.new 24 (w.alloc (.cells #[a, b, c] 24)) (.bool false) (.slice none 0 0) (.slice none 0 0)
    rw [World.size_alloc] at h
    exact h
set_option maxRecDepth 100000 in
set_option maxHeartbeats 1000000 in
theorem ratSigned (w : World) (s s0 : Bool) (v1 v2 : Value) (xs ys : List Nat) (b1 b2 : Nat) (h1 : Nt b1 w v1 xs) (h2 : Nt b2 w v2 ys) :
    Calls Tryz.prog 127 #[.bool s, .agg #[.bool s0, v1, v2]] w
      fun e w' => e = .returned (.agg #[.bool (s && decide (0 < xs.length)), v1, v2]) ∧ Below w.heap.size w w' := by
  obtain ⟨ao1, c1, rfl, _⟩ := h1.open
  obtain ⟨ao2, c2, rfl, _⟩ := h2.open
  generalize xs.length = n at *
  generalize ys.length = n2 at *
  clear h1 h2
  cases s
  all_goals
    go_enter Tryz.func127, Tryz.ntmps127
    go_upto_region 1 with fail
    obtain ⟨K, rfl, hb0, hB1, hB2⟩ := boxes2 w (.bool s0) (.slice ao1 n c1) (.slice ao2 n2 c2)
    generalize ((w.alloc (.cells #[.bool s0, .slice ao1 n c1, .slice ao2 n2 c2] 24)).alloc (.cells #[.bool false, .slice none 0 0, .slice none 0 0] 24)) = w0 at *
    obtain ⟨k0, k1, k2, f0, f1, f2, hg1⟩ := hB1.cells
    obtain ⟨l0, l1, l2, g0, g1, g2, hg2⟩ := hB2.cells
    generalize hK : w.heap.size = K at *
    go_wp2
  · obtain ⟨r0, r1, r2, _⟩ := ((hB2.other1 (x := .bool false) (by omega : K + 1 ≠ K)).stored (.bool false) (.slice ao1 n c1) (.slice ao2 n2 c2)).cells
    subst hK
    exact bodyPost_ret (v := .agg #[.bool false, .slice ao1 n c1, .slice ao2 n2 c2]) (by simp [results, Tryz.results127, go_sem, r0, r1, r2]) rfl
      ⟨rfl, below_set3 (below_set1 hb0 (Nat.le_refl _)) (by omega)⟩
  · obtain ⟨r0, r1, r2, _⟩ := ((hB2.other1 (x := .bool (decide (0 < n))) (by omega : K + 1 ≠ K)).stored (.bool (decide (0 < n))) (.slice ao1 n c1) (.slice ao2 n2 c2)).cells
    subst hK
    exact bodyPost_ret (v := .agg #[.bool (decide (0 < n)), .slice ao1 n c1, .slice ao2 n2 c2]) (by simp [results, Tryz.results127, go_sem, r0, r1, r2]) rfl
      ⟨rfl, below_set3 (below_set1 hb0 (Nat.le_refl _)) (by omega)⟩
end Go.Proofs.YtjfaefgabaimaaaGreat
namespace Go.Proofs.YtjfaefgabaimaaaGreat
open Go.RowKit
theorem nm_neg (q : Rat) : nm (-q) = nm q := by
  unfold nm
  rw [Rat.neg_num, Int.natAbs_neg]
theorem den_neg (q : Rat) : (-q).den = q.den := by rw [Rat.neg_den]
theorem ng_neg (q : Rat) : ng (-q) = (!ng q && decide (0 < (limbs (nm q)).length)) := by
  have h := @limbs_len_zero (nm q)
  have h2 : nm q = q.num.natAbs := rfl
  unfold ng
  rw [Rat.neg_num]
  by_cases h0 : q.num = 0
  · have : (limbs (nm q)).length = 0 := h.2 (by omega)
    rw [this, h0]; rfl
  · have : 0 < (limbs (nm q)).length := Nat.pos_of_ne_zero fun hc => h0 (by have := h.1 hc; omega)
    rw [decide_eq_true this, Bool.and_true]
    by_cases h1 : q.num < 0
    · rw [decide_eq_true h1]; simp; omega
    · rw [decide_eq_false h1]; simp; omega
theorem size_S3 {w : World} {g : Nat} {x y z : Value} : (S3 w g x y z).heap.size = w.heap.size := by
  unfold S3
  simp only [World.size_setCell]
set_option maxRecDepth 100000 in
set_option maxHeartbeats 1000000 in
theorem ratNeg (w : World) (v : Value) (q : Rat) (h : RatR 1000000000000 w v q) :
    Calls Tryz.prog 95 #[v] w (RetRat (-q) w) := by
  have N1 := Lib.hid (fun w1 (hb : Below w.heap.size w w1) => ratNorm w1 v q (h.below hb (Nat.le_refl _)))
  obtain ⟨s1, ao1, n1, c1, ao2, n2, c2, rfl⟩ := h.open
  clear h
  go_enter Tryz.func95, Tryz.ntmps95
  go_upto_region 1 with fail
  obtain ⟨K, rfl, hb0, hB1, hB2⟩ := boxes2 w (.bool s1) (.slice ao1 n1 c1) (.slice ao2 n2 c2)
  generalize ((w.alloc (.cells #[.bool s1, .slice ao1 n1 c1, .slice ao2 n2 c2] 24)).alloc (.cells #[.bool false, .slice none 0 0, .slice none 0 0] 24)) = w0 at *
  obtain ⟨k0, k1, k2, f0, f1, f2, hg1⟩ := hB1.cells
  obtain ⟨l0, l1, l2, g0, g1, g2, hg2⟩ := hB2.cells
  go_wp2_with fail
  refine (N1.out w0 hb0).mono ?_
  rintro e w2 ⟨u, rfl, ⟨v1, v2, rfl, m1, m2⟩, hb2⟩
  have S1 := Lib.hid (ratSigned (S3 w2 w.heap.size (.bool (ng q)) v1 v2) (!ng q) (ng q) v1 v2 _ _ _ _ (m1.set3 hg1) (m2.set3 hg1))
  obtain ⟨ao3, c3, rfl, _⟩ := m1.open
  obtain ⟨ao4, c4, rfl, _⟩ := m2.open
  rw [← ng_neg] at S1
  have hE : Hid (∀ w', Nt w.heap.size w' (.slice ao3 (limbs (nm q)).length c3) (limbs (nm q)) → Nt w.heap.size w' (.slice ao4 (limbs q.den).length c4) (limbs q.den) →
      RatC w.heap.size w' (.agg #[.bool (ng (-q)), .slice ao3 (limbs (nm q)).length c3, .slice ao4 (limbs q.den).length c4]) (-q)) :=
    Lib.hid (fun w' m1 m2 => ⟨_, _, rfl, by rw [nm_neg]; exact m1, by rw [den_neg]; exact m2⟩)
  generalize limbs (nm q) = A at *
  generalize limbs q.den = B at *
  generalize ng (-q) = sn at *
  generalize ng q = sq at *
  have hB1' := hB1.below hb2 hg1
  have hB2' := hB2.below hb2 hg2
  obtain ⟨k0', k1', k2', f0', f1', f2', hg1'⟩ := hB1'.cells
  clear hB1
  go_wp2_with fail
  refine S1.out.mono ?_
  rintro e w4 ⟨rfl, hb4⟩
  have hb24 : Below w2.heap.size (S3 w2 w.heap.size (.bool sq) (.slice ao3 A.length c3) (.slice ao4 B.length c4)) w4 := by
    have := hb4
    rwa [size_S3] at this
  have hB2'' := (hB2'.other (x := .bool sq) (y := .slice ao3 A.length c3) (z := .slice ao4 B.length c4) (by omega : w.heap.size + 1 ≠ w.heap.size)).below hb24 (by have := hb2.size; omega)
  obtain ⟨l0', l1', l2', g0', g1', g2', hg2'⟩ := hB2''.cells
  go_wp2
  obtain ⟨r0, r1, r2, _⟩ := (hB2''.stored (.bool sn) (.slice ao3 A.length c3) (.slice ao4 B.length c4)).cells
  exact bodyPost_ret (v := .agg #[.bool sn, .slice ao3 A.length c3, .slice ao4 B.length c4]) (by simp [results, Tryz.results95, go_sem, r0, r1, r2]) rfl
    ⟨_, rfl, hE.out _ (((((m1.set3 hg1).below hb24 (by rw [size_S3]; exact Nat.le_refl _)).set3 hg2)).mono (by omega)) (((((m2.set3 hg1).below hb24 (by rw [size_S3]; exact Nat.le_refl _)).set3 hg2)).mono (by omega)), below_set3 ((below_set3 (bthen hb0 hb2) (Nat.le_refl _)).trans (hb24.mono (by have := hb2.size; omega))) (by omega)⟩
end Go.Proofs.YtjfaefgabaimaaaGreat
namespace Go.Proofs.YtjfaefgabaimaaaGreat
open Go.RowKit
theorem fieldN (a b c : Value) (w : World) : (Instr.field 24 (.agg #[a, b, c]) 1).run Tryz.prog w = .ok b w := by kernel_rfl
/-- two boxes -/
theorem boxesAB (w : World) (a b c d e f : Value) : ∃ K, K = w.heap.size ∧
    Below K w ((w.alloc (.cells #[a, b, c] 24)).alloc (.cells #[d, e, f] 24)) ∧
    Box3 24 ((w.alloc (.cells #[a, b, c] 24)).alloc (.cells #[d, e, f] 24)) K a b c ∧
    Box3 24 ((w.alloc (.cells #[a, b, c] 24)).alloc (.cells #[d, e, f] 24)) (K + 1) d e f := by
  refine ⟨_, rfl, ((Below.refl _ _).alloc (Nat.le_refl _) _).alloc (by simp) _, ?_, ?_⟩
  · exact (Box3.new 24 w a b c).below ((Below.refl _ _).alloc (Nat.le_refl _) _) (by simp)
  · have h := Box3.new 24 (w.alloc (.cells #[a, b, c] 24)) d e f
    rw [World.size_alloc] at h
    exact h
/-- one box -/
theorem boxes1 (w : World) (a b c : Value) : ∃ K, K = w.heap.size ∧
    Below K w (w.alloc (.cells #[a, b, c] 24)) ∧ Box3 24 (w.alloc (.cells #[a, b, c] 24)) K a b c :=
  ⟨_, rfl, (Below.refl _ _).alloc (Nat.le_refl _) _, Box3.new _ w a b c⟩
set_option maxRecDepth 100000 in
set_option maxHeartbeats 1000000 in
theorem ratZero (w : World) (v : Value) (q : Rat) (h : RatR 1000000000000 w v q) :
    Calls Tryz.prog 26 #[v] w fun e w' => e = .returned (.bool (decide (q = 0))) ∧ Below w.heap.size w w' := by
  have N1 := Lib.hid (fun w1 (hb : Below w.heap.size w w1) => ratNorm w1 v q (h.below hb (Nat.le_refl _)))
  obtain ⟨s1, ao1, n1, c1, ao2, n2, c2, rfl⟩ := h.open
  clear h
  have hz : (((limbs (nm q)).length : Int) == 0) = decide (q = 0) := by
    rw [Bool.eq_iff_iff]
    simp only [beq_iff_eq, decide_eq_true_eq]
    rw [← nm_zero, ← limbs_len_zero]
    omega
  go_enter Tryz.func26, Tryz.ntmps26
  go_upto_region 1 with fail
  obtain ⟨K, rfl, hb0, hB1⟩ := boxes1 w (.bool s1) (.slice ao1 n1 c1) (.slice ao2 n2 c2)
  generalize (w.alloc (.cells #[.bool s1, .slice ao1 n1 c1, .slice ao2 n2 c2] 24)) = w0 at *
  obtain ⟨k0, k1, k2, f0, f1, f2, hg1⟩ := hB1.cells
  go_wp2_with fail
  refine (N1.out w0 hb0).mono ?_
  rintro e w2 ⟨u, rfl, ⟨v1, v2, rfl, m1, m2⟩, hb2⟩
  obtain ⟨ao3, c3, rfl, _⟩ := m1.open
  obtain ⟨ao4, c4, rfl, _⟩ := m2.open
  generalize (limbs (nm q)).length = n3 at *
  have HZ := Lib.hid hz
  clear hz
  have hfd := fieldN (.bool (ng q)) (.slice ao3 n3 c3) (.slice ao4 (limbs q.den).length c4)
  go_wp2
  rw [HZ.out]
  exact bodyPost_ret (by simp [results, Tryz.results26, go_sem]) rfl ⟨rfl, bthen hb0 hb2⟩
/-- the sign of a difference -/
def cmpQ (a b : Rat) : Int := if a < b then -1 else if b < a then 1 else 0
theorem ng_sub (a b : Rat) : ng (a - b) = decide (a < b) := by
  unfold ng
  rw [Bool.eq_iff_iff]
  simp only [decide_eq_true_eq]
  rw [← Rat.not_le, Rat.le_iff_sub_nonneg, ← Rat.num_nonneg]
  omega
theorem sub_len (a b : Rat) : (limbs (nm (a - b))).length = 0 ↔ a = b := by
  rw [limbs_len_zero, nm_zero]
  exact ⟨fun h => by
    have h1 := Rat.le_iff_sub_nonneg b a
    rw [h] at h1
    have h2 : b - a = 0 := by rw [← Rat.neg_sub, h]; rfl
    have h3 := Rat.le_iff_sub_nonneg a b
    rw [h2] at h3
    exact Rat.le_antisymm (h3.2 Rat.le_refl) (h1.2 Rat.le_refl), fun h => by rw [h]; exact Rat.sub_self⟩
theorem cmpQ_cases (a b : Rat) : (ng (a - b) = true ∧ cmpQ a b = -1) ∨ (ng (a - b) = false ∧ 0 < (limbs (nm (a - b))).length ∧ cmpQ a b = 1) ∨ (ng (a - b) = false ∧ (limbs (nm (a - b))).length = 0 ∧ cmpQ a b = 0) := by
  rw [ng_sub]
  unfold cmpQ
  by_cases h : a < b
  · left; simp [h]
  · right
    by_cases he : a = b
    · right
      exact ⟨decide_eq_false h, (sub_len a b).2 he, by subst he; rw [if_neg h, if_neg h]⟩
    · left
      refine ⟨decide_eq_false h, Nat.pos_of_ne_zero fun hc => he ((sub_len a b).1 hc), ?_⟩
      have : b < a := Rat.lt_iff_le_and_ne.2 ⟨Rat.not_lt.1 h, fun hc => he hc.symm⟩
      rw [if_neg h, if_pos this]
end Go.Proofs.YtjfaefgabaimaaaGreat
