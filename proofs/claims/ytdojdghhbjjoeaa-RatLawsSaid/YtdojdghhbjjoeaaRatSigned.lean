/- Contract of rat.signed. No condition. -/
import Derived.Test.YtdojdghhbjjoeaaRatBoxes
namespace Go.Proofs.Ytdojdghhbjjoeaa
open Go.RowKit

theorem Box3.stored0 {t : Nat} {w : World} {g : Nat} {a b c : Value} (h : Box3 t w g a b c) (x : Value) : Box3 t (w.setCell ⟨g, 0, none⟩ x) g x b c := by
  unfold Box3 at *
  rw [heap_setCell_same w g 0 _ t x h]
  rfl

theorem Box3.other1 {t g' : Nat} {w : World} {g : Nat} {a b c x : Value} (h : Box3 t w g a b c) (hne : g ≠ g') : Box3 t (w.setCell ⟨g', 0, none⟩ x) g a b c := by
  unfold Box3 at *
  rw [heap_setCell_other _ _ _ _ hne]
  exact h

theorem below_set1 {B g : Nat} {w0 w : World} {x : Value} (h : Below B w0 w) (hg : B ≤ g) : Below B w0 (w.setCell ⟨g, 0, none⟩ x) := h.setCell (by exact hg) _

theorem cS1 {w : World} {g g' i : Nat} {x : Value} (hne : g ≠ g') : (w.setCell ⟨g', 0, none⟩ x).cell? ⟨g, i, none⟩ = w.cell? ⟨g, i, none⟩ :=
  World.cell?_setCell_other _ _ _ _ fun e => hne (congrArg Addr.block e).symm

theorem boxes2 (w : World) (a b c : Value) : ∃ K, K = w.heap.size ∧
    Below K w ((w.alloc (.cells #[a, b, c] 24)).alloc (.cells #[.bool false, .slice none 0 0, .slice none 0 0] 24)) ∧
    Box3 24 ((w.alloc (.cells #[a, b, c] 24)).alloc (.cells #[.bool false, .slice none 0 0, .slice none 0 0] 24)) K a b c ∧
    Box3 24 ((w.alloc (.cells #[a, b, c] 24)).alloc (.cells #[.bool false, .slice none 0 0, .slice none 0 0] 24)) (K + 1) (.bool false) (.slice none 0 0) (.slice none 0 0) := by
  refine ⟨_, rfl, ((Below.refl _ _).alloc (Nat.le_refl _) _).alloc (by simp) _, ?_, ?_⟩
  · exact (Box3.new 24 w a b c).below ((Below.refl _ _).alloc (Nat.le_refl _) _) (by simp)
  · have h := Box3.new 24 (w.alloc (.cells #[a, b, c] 24)) (.bool false) (.slice none 0 0) (.slice none 0 0)
    rw [World.size_alloc] at h
    exact h

set_option maxRecDepth 100000 in
set_option maxHeartbeats 1000000 in
theorem ratSigned (w : World) (s s0 : Bool) (v1 v2 : Value) (xs ys : List Nat) (b1 b2 : Nat) (h1 : Nt b1 w v1 xs) (h2 : Nt b2 w v2 ys) :
    Calls Try.prog 75 #[.bool s, .agg #[.bool s0, v1, v2]] w
      fun e w' => e = .returned (.agg #[.bool (s && decide (0 < xs.length)), v1, v2]) ∧ Below w.heap.size w w' := by
  obtain ⟨ao1, c1, rfl, _⟩ := h1.open
  obtain ⟨ao2, c2, rfl, _⟩ := h2.open
  generalize xs.length = n at *
  generalize ys.length = n2 at *
  clear h1 h2
  cases s
  all_goals
    go_enter Try.func75, Try.ntmps75
    go_upto_region 1 with fail
    obtain ⟨K, rfl, hb0, hB1, hB2⟩ := boxes2 w (.bool s0) (.slice ao1 n c1) (.slice ao2 n2 c2)
    generalize ((w.alloc (.cells #[.bool s0, .slice ao1 n c1, .slice ao2 n2 c2] 24)).alloc (.cells #[.bool false, .slice none 0 0, .slice none 0 0] 24)) = w0 at *
    obtain ⟨k0, k1, k2, f0, f1, f2, hg1⟩ := hB1.cells
    obtain ⟨l0, l1, l2, g0, g1, g2, hg2⟩ := hB2.cells
    generalize hK : w.heap.size = K at *
    go_wp2
  · obtain ⟨r0, r1, r2, _⟩ := ((hB2.other1 (x := .bool false) (by omega : K + 1 ≠ K)).stored (.bool false) (.slice ao1 n c1) (.slice ao2 n2 c2)).cells
    subst hK
    exact bodyPost_ret (v := .agg #[.bool false, .slice ao1 n c1, .slice ao2 n2 c2]) (by simp [results, Try.results75, go_sem, r0, r1, r2]) rfl
      ⟨rfl, below_set3 (below_set1 hb0 (Nat.le_refl _)) (by omega)⟩
  · obtain ⟨r0, r1, r2, _⟩ := ((hB2.other1 (x := .bool (decide (0 < n))) (by omega : K + 1 ≠ K)).stored (.bool (decide (0 < n))) (.slice ao1 n c1) (.slice ao2 n2 c2)).cells
    subst hK
    exact bodyPost_ret (v := .agg #[.bool (decide (0 < n)), .slice ao1 n c1, .slice ao2 n2 c2]) (by simp [results, Try.results75, go_sem, r0, r1, r2]) rfl
      ⟨rfl, below_set3 (below_set1 hb0 (Nat.le_refl _)) (by omega)⟩

end Go.Proofs.Ytdojdghhbjjoeaa
