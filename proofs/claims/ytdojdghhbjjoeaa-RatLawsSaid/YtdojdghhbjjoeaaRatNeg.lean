/- Contract of rat.Neg. Conditions: at most 10^12 limbs. -/
import Derived.Test.YtdojdghhbjjoeaaRatSigned
namespace Go.Proofs.Ytdojdghhbjjoeaa
open Go.RowKit

theorem nm_neg (q : Rat) : nm (-q) = nm q := by
  unfold nm
  rw [Rat.neg_num, Int.natAbs_neg]
theorem den_neg (q : Rat) : (-q).den = q.den := by rw [Rat.neg_den]
theorem ng_neg (q : Rat) : ng (-q) = (!ng q && decide (0 < (limbs (nm q)).length)) := by
  have h := @limbs_len_zero (nm q)
  have h2 : nm q = q.num.natAbs := rfl
  unfold ng
  rw [Rat.neg_num]
  by_cases h0 : q.num = 0
  · have : (limbs (nm q)).length = 0 := h.2 (by omega)
    rw [this, h0]; rfl
  · have : 0 < (limbs (nm q)).length := Nat.pos_of_ne_zero fun hc => h0 (by have := h.1 hc; omega)
    rw [decide_eq_true this, Bool.and_true]
    by_cases h1 : q.num < 0
    · rw [decide_eq_true h1]; simp; omega
    · rw [decide_eq_false h1]; simp; omega

theorem size_S3 {w : World} {g : Nat} {x y z : Value} : (S3 w g x y z).heap.size = w.heap.size := by
  unfold S3
  simp only [World.size_setCell]

set_option maxRecDepth 100000 in
set_option maxHeartbeats 1000000 in
theorem ratNeg (w : World) (v : Value) (q : Rat) (h : RatR 1000000000000 w v q) :
    Calls Try.prog 26 #[v] w (RetRat (-q) w) := by
  have N1 := Lib.hid (fun w1 (hb : Below w.heap.size w w1) => ratNorm w1 v q (h.below hb (Nat.le_refl _)))
  obtain ⟨s1, ao1, n1, c1, ao2, n2, c2, rfl⟩ := h.open
  clear h
  go_enter Try.func26, Try.ntmps26
  go_upto_region 1 with fail
  obtain ⟨K, rfl, hb0, hB1, hB2⟩ := boxes2 w (.bool s1) (.slice ao1 n1 c1) (.slice ao2 n2 c2)
  generalize ((w.alloc (.cells #[.bool s1, .slice ao1 n1 c1, .slice ao2 n2 c2] 24)).alloc (.cells #[.bool false, .slice none 0 0, .slice none 0 0] 24)) = w0 at *
  obtain ⟨k0, k1, k2, f0, f1, f2, hg1⟩ := hB1.cells
  obtain ⟨l0, l1, l2, g0, g1, g2, hg2⟩ := hB2.cells
  go_wp2_with fail
  refine (N1.out w0 hb0).mono ?_
  rintro e w2 ⟨u, rfl, ⟨v1, v2, rfl, m1, m2⟩, hb2⟩
  have S1 := Lib.hid (ratSigned (S3 w2 w.heap.size (.bool (ng q)) v1 v2) (!ng q) (ng q) v1 v2 _ _ _ _ (m1.set3 hg1) (m2.set3 hg1))
  obtain ⟨ao3, c3, rfl, _⟩ := m1.open
  obtain ⟨ao4, c4, rfl, _⟩ := m2.open
  rw [← ng_neg] at S1
  have hE : Hid (∀ w', Nt w.heap.size w' (.slice ao3 (limbs (nm q)).length c3) (limbs (nm q)) → Nt w.heap.size w' (.slice ao4 (limbs q.den).length c4) (limbs q.den) →
      RatC w.heap.size w' (.agg #[.bool (ng (-q)), .slice ao3 (limbs (nm q)).length c3, .slice ao4 (limbs q.den).length c4]) (-q)) :=
    Lib.hid (fun w' m1 m2 => ⟨_, _, rfl, by rw [nm_neg]; exact m1, by rw [den_neg]; exact m2⟩)
  generalize limbs (nm q) = A at *
  generalize limbs q.den = B at *
  generalize ng (-q) = sn at *
  generalize ng q = sq at *
  have hB1' := hB1.below hb2 hg1
  have hB2' := hB2.below hb2 hg2
  obtain ⟨k0', k1', k2', f0', f1', f2', hg1'⟩ := hB1'.cells
  clear hB1
  go_wp2_with fail
  refine S1.out.mono ?_
  rintro e w4 ⟨rfl, hb4⟩
  have hb24 : Below w2.heap.size (S3 w2 w.heap.size (.bool sq) (.slice ao3 A.length c3) (.slice ao4 B.length c4)) w4 := by
    have := hb4
    rwa [size_S3] at this
  have hB2'' := (hB2'.other (x := .bool sq) (y := .slice ao3 A.length c3) (z := .slice ao4 B.length c4) (by omega : w.heap.size + 1 ≠ w.heap.size)).below hb24 (by have := hb2.size; omega)
  obtain ⟨l0', l1', l2', g0', g1', g2', hg2'⟩ := hB2''.cells
  go_wp2
  obtain ⟨r0, r1, r2, _⟩ := (hB2''.stored (.bool sn) (.slice ao3 A.length c3) (.slice ao4 B.length c4)).cells
  exact bodyPost_ret (v := .agg #[.bool sn, .slice ao3 A.length c3, .slice ao4 B.length c4]) (by simp [results, Try.results26, go_sem, r0, r1, r2]) rfl
    ⟨_, rfl, hE.out _ (((((m1.set3 hg1).below hb24 (by rw [size_S3]; exact Nat.le_refl _)).set3 hg2)).mono (by omega)) (((((m2.set3 hg1).below hb24 (by rw [size_S3]; exact Nat.le_refl _)).set3 hg2)).mono (by omega)), below_set3 ((below_set3 (bthen hb0 hb2) (Nat.le_refl _)).trans (hb24.mono (by have := hb2.size; omega))) (by omega)⟩

end Go.Proofs.Ytdojdghhbjjoeaa
