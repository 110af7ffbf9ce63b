/- Contracts of rat.Norm, rat.signed, rat.Neg, rat.Zero, rat.Int. Conditions: at most 10^12 limbs. -/
import Derived.Test.YtdojdghhbjjoeaaRatOf
namespace Go.Proofs.Ytdojdghhbjjoeaa
open Go.RowKit

set_option maxRecDepth 100000 in
set_option maxHeartbeats 1000000 in
theorem ratNorm (w : World) (v : Value) (q : Rat) (h : RatR 1000000000000 w v q) :
    Calls Try.prog 48 #[v] w (RetRat q w) := by
  obtain ⟨s, v1, v2, xs, ys, rfl, h1, h2, rfl, hL1, hL2⟩ := h
  have CO := Lib.hid (fun w1 (hb : Below w.heap.size w w1) => ratOf w1 s v1 v2 xs ys 0 0 (h1.below hb (Nat.le_refl _)) (h2.below hb (Nat.le_refl _)) hL1 hL2)
  obtain ⟨ao1, c1, rfl, hc1⟩ := h1.open
  obtain ⟨ao2, c2, rfl, hc2⟩ := h2.open
  generalize xs.length = n1 at *
  generalize ys.length = n2 at *
  generalize qv s (val xs) (val ys) = q at *
  clear h1 h2
  go_enter Try.func48, Try.ntmps48
  go_wp2_with fail
  have hb0 : Below w.heap.size w (w.alloc (.cells #[.bool s, .slice ao1 n1 c1, .slice ao2 n2 c2] 24)) := (Below.refl _ _).alloc (Nat.le_refl _) _
  have hb1 := hb0.alloc (by simp) (.cells #[.bool false, .slice none 0 0, .slice none 0 0] 24)
  have hB1 := Box3.new 24 (w.alloc (.cells #[.bool s, .slice ao1 n1 c1, .slice ao2 n2 c2] 24)) (.bool false) (.slice none 0 0) (.slice none 0 0)
  rw [World.size_alloc] at hB1
  generalize ((w.alloc (.cells #[.bool s, .slice ao1 n1 c1, .slice ao2 n2 c2] 24)).alloc (.cells #[.bool false, .slice none 0 0, .slice none 0 0] 24)) = w1 at *
  have hg1 : w.heap.size + 1 < w1.heap.size := hB1.cells.2.2.2.2.2.2
  refine (CO.out w1 hb1).mono ?_
  rintro e w2 ⟨v, rfl, hC, hb2⟩
  obtain ⟨s3, ao3, n3, c3, ao4, n4, c4, rfl⟩ := hC.open
  have hB2 := hB1.below hb2 hg1
  have hb02 := bthen hb1 hb2
  obtain ⟨k0, k1, k2, f0, f1, f2, _⟩ := hB2.cells
  clear hb0 hb1 hb2 hB1
  go_wp2
  obtain ⟨r0, r1, r2, _⟩ := (hB2.stored (.bool s3) (.slice ao3 n3 c3) (.slice ao4 n4 c4)).cells
  exact bodyPost_ret (v := .agg #[.bool s3, .slice ao3 n3 c3, .slice ao4 n4 c4]) (by simp [results, Try.results48, go_sem, r0, r1, r2]) rfl
    ⟨_, rfl, (hC.set3 hg1).mono (by omega), below_set3 hb02 (by omega)⟩

end Go.Proofs.Ytdojdghhbjjoeaa
