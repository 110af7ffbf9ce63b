/- Words of the walks over two boxed rationals. No condition. -/
import Derived.Test.YtdojdghhbjjoeaaRatNorm
import Derived.Test.YtdojdghhbjjoeaaNatMul
import Derived.Test.YtdojdghhbjjoeaaNatAdd
import Derived.Test.YtdojdghhbjjoeaaNatSub
import Derived.Deep.RegionWith
import Derived.Deep.RegionHeld3
import Derived.Deep.DeepCutAuto
import Derived.Deep.DeepMust
namespace Go.Proofs.Ytdojdghhbjjoeaa
open Go.RowKit

theorem RatR.size {K : Nat} {w : World} {v : Value} {q : Rat} (h : RatR K w v q) (hK : 1 ≤ K) : rs q ≤ K := by
  obtain ⟨s, v1, v2, xs, ys, h0, h1, h2, rfl, h4, h5⟩ := h
  exact rs_qv _ _ _ _ (Nat.le_trans (limbs_len_val h1.lt) h4) (Nat.le_trans (limbs_len_val h2.lt) h5) hK

/-- box g holds the rational q, normal -/
def BoxQ (base : Nat) (w : World) (g : Nat) (q : Rat) : Prop :=
  ∃ v1 v2, Box3 24 w g (.bool (ng q)) v1 v2 ∧ Nt base w v1 (limbs (nm q)) ∧ Nt base w v2 (limbs q.den)

/-- two boxes hold rationals, normal; a third is new -/
def Boxes (w : World) (K : Nat) (a b : Rat) (wx : World) : Prop :=
  Below K w wx ∧ BoxQ K wx K a ∧ BoxQ K wx (K + 1) b ∧ Box3 24 wx (K + 1 + 1) (.bool false) (.slice none 0 0) (.slice none 0 0)

/-- three cells written -/
abbrev S3 (w : World) (g : Nat) (x y z : Value) : World := ((w.setCell ⟨g, 0, none⟩ x).setCell ⟨g, 1, none⟩ y).setCell ⟨g, 2, none⟩ z

theorem Box3.other {t g' : Nat} {w : World} {g : Nat} {a b c x y z : Value} (h : Box3 t w g a b c) (hne : g ≠ g') : Box3 t (S3 w g' x y z) g a b c := by
  unfold Box3 S3 at *
  rw [heap_setCell_other _ _ _ _ hne, heap_setCell_other _ _ _ _ hne, heap_setCell_other _ _ _ _ hne]
  exact h

theorem cS3 {w : World} {g g' i : Nat} {x y z : Value} (hne : g ≠ g') : (S3 w g' x y z).cell? ⟨g, i, none⟩ = w.cell? ⟨g, i, none⟩ := by
  have h : ∀ k, (⟨g', k, none⟩ : Addr) ≠ ⟨g, i, none⟩ := fun k e => hne (congrArg Addr.block e).symm
  unfold S3
  rw [World.cell?_setCell_other _ _ _ _ (h 2), World.cell?_setCell_other _ _ _ _ (h 1), World.cell?_setCell_other _ _ _ _ (h 0)]

theorem boxes_end {w w2 w3 : World} {K L M : Nat} {a b : Rat} {s5 s7 : Bool} {x5 x6 x7 x8 y0 y1 y2 z0 z1 z2 : Value}
    (hC1 : RatC L w2 (.agg #[.bool s5, x5, x6]) a) (hL : K + 1 + 1 < L) (hM : K + 1 + 1 < M) (hb3 : Below w2.heap.size w2 w3) (hC2 : RatC M w3 (.agg #[.bool s7, x7, x8]) b)
    (hb : Below K w w3) (h1 : Box3 24 w3 K y0 y1 y2) (h2 : Box3 24 w3 (K + 1) z0 z1 z2) (h3 : Box3 24 w3 (K + 1 + 1) (.bool false) (.slice none 0 0) (.slice none 0 0)) :
    Boxes w K a b (S3 (S3 w3 K (.bool s5) x5 x6) (K + 1) (.bool s7) x7 x8) := by
  obtain ⟨v1, v2, e1, n1, n2⟩ := hC1
  obtain ⟨v3, v4, e2, n3, n4⟩ := hC2
  simp only [Value.agg.injEq, Array.mk.injEq, List.cons.injEq, Value.bool.injEq, and_true] at e1 e2
  obtain ⟨rfl, rfl, rfl⟩ := e1
  obtain ⟨rfl, rfl, rfl⟩ := e2
  replace n1 := (n1.below hb3 (Nat.le_refl _))
  replace n2 := (n2.below hb3 (Nat.le_refl _))
  refine ⟨below_set3 (below_set3 hb (Nat.le_refl _)) (by omega), ⟨_, _, (h1.stored _ _ _).other (by omega), ?_, ?_⟩, ⟨_, _, (h2.other (by omega)).stored _ _ _, ?_, ?_⟩, (h3.other (by omega)).other (by omega)⟩
  · exact ((n1.set3 (by omega)).set3 (by omega)).mono (by omega)
  · exact ((n2.set3 (by omega)).set3 (by omega)).mono (by omega)
  · exact ((n3.set3 (by omega)).set3 (by omega)).mono (by omega)
  · exact ((n4.set3 (by omega)).set3 (by omega)).mono (by omega)

theorem boxes3 (w : World) (a b c d e f : Value) : ∃ K, K = w.heap.size ∧
    Below K w (((w.alloc (.cells #[a, b, c] 24)).alloc (.cells #[d, e, f] 24)).alloc (.cells #[.bool false, .slice none 0 0, .slice none 0 0] 24)) ∧
    Box3 24 (((w.alloc (.cells #[a, b, c] 24)).alloc (.cells #[d, e, f] 24)).alloc (.cells #[.bool false, .slice none 0 0, .slice none 0 0] 24)) K a b c ∧
    Box3 24 (((w.alloc (.cells #[a, b, c] 24)).alloc (.cells #[d, e, f] 24)).alloc (.cells #[.bool false, .slice none 0 0, .slice none 0 0] 24)) (K + 1) d e f ∧
    Box3 24 (((w.alloc (.cells #[a, b, c] 24)).alloc (.cells #[d, e, f] 24)).alloc (.cells #[.bool false, .slice none 0 0, .slice none 0 0] 24)) (K + 1 + 1) (.bool false) (.slice none 0 0) (.slice none 0 0) := by
  refine ⟨_, rfl, (((Below.refl _ _).alloc (Nat.le_refl _) _).alloc (by simp) _).alloc (by simp; omega) _, ?_, ?_, ?_⟩
  · have h := ((Box3.new 24 w a b c).below ((Below.refl _ _).alloc (Nat.le_refl _) (.cells #[d, e, f] 24)) (by simp)).below ((Below.refl _ _).alloc (Nat.le_refl _) (.cells #[.bool false, .slice none 0 0, .slice none 0 0] 24)) (by simp; omega)
    exact h
  · have h := Box3.new 24 (w.alloc (.cells #[a, b, c] 24)) d e f
    rw [World.size_alloc] at h
    exact h.below ((Below.refl _ _).alloc (Nat.le_refl _) (.cells #[.bool false, .slice none 0 0, .slice none 0 0] 24)) (by simp)
  · have h := Box3.new 24 ((w.alloc (.cells #[a, b, c] 24)).alloc (.cells #[d, e, f] 24)) (.bool false) (.slice none 0 0) (.slice none 0 0)
    rw [World.size_alloc, World.size_alloc] at h
    exact h

end Go.Proofs.Ytdojdghhbjjoeaa
