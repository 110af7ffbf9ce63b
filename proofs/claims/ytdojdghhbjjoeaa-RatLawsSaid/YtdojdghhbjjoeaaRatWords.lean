/- The words of the contracts on api.Rat: in memory, normal or not. No condition. -/
import Derived.Test.YtdojdghhbjjoeaaRatMath
import Derived.Test.YtdojdghhbjjoeaaGcd
namespace Go.Proofs.Ytdojdghhbjjoeaa
open Go.RowKit

/-- the struct value v is the rational q, normal; its limbs lie in blocks from base on -/
def RatC (base : Nat) (w : World) (v : Value) (q : Rat) : Prop :=
  ∃ v1 v2, v = .agg #[.bool (ng q), v1, v2] ∧ Nt base w v1 (limbs (nm q)) ∧ Nt base w v2 (limbs q.den)

/-- the struct value v says the rational q, normal or not, in rows of at most K limbs -/
def RatR (K : Nat) (w : World) (v : Value) (q : Rat) : Prop :=
  ∃ s v1 v2 xs ys, v = .agg #[.bool s, v1, v2] ∧ Nt 0 w v1 xs ∧ Nt 0 w v2 ys ∧ q = qv s (val xs) (val ys) ∧ xs.length ≤ K ∧ ys.length ≤ K

theorem RatC.raw {base : Nat} {w : World} {v : Value} {q : Rat} (h : RatC base w v q) : RatR (rs q) w v q := by
  obtain ⟨v1, v2, rfl, h1, h2⟩ := h
  exact ⟨_, v1, v2, _, _, rfl, h1.mono (Nat.zero_le _), h2.mono (Nat.zero_le _), by rw [val_limbs, val_limbs, qv_self], rs_nm q, rs_den q⟩

theorem RatR.more {K K' : Nat} {w : World} {v : Value} {q : Rat} (h : RatR K w v q) (hK : K ≤ K') : RatR K' w v q := by
  obtain ⟨s, v1, v2, xs, ys, h0, h1, h2, h3, h4, h5⟩ := h
  exact ⟨s, v1, v2, xs, ys, h0, h1, h2, h3, by omega, by omega⟩

theorem RatC.rawK {base K : Nat} {w : World} {v : Value} {q : Rat} (h : RatC base w v q) (hK : rs q ≤ K) : RatR K w v q := h.raw.more hK

theorem RatC.below {base K : Nat} {w w' : World} {v : Value} {q : Rat} (h : RatC base w v q) (hb : Below K w w') (hK : w.heap.size ≤ K) : RatC base w' v q := by
  obtain ⟨v1, v2, rfl, h1, h2⟩ := h
  exact ⟨v1, v2, rfl, h1.below hb hK, h2.below hb hK⟩

theorem RatC.mono {base base' : Nat} {w : World} {v : Value} {q : Rat} (h : RatC base w v q) (hb : base' ≤ base) : RatC base' w v q := by
  obtain ⟨v1, v2, rfl, h1, h2⟩ := h
  exact ⟨v1, v2, rfl, h1.mono hb, h2.mono hb⟩

theorem RatR.below {K L : Nat} {w w' : World} {v : Value} {q : Rat} (h : RatR L w v q) (hb : Below K w w') (hK : w.heap.size ≤ K) : RatR L w' v q := by
  obtain ⟨s, v1, v2, xs, ys, h0, h1, h2, h3, h4, h5⟩ := h
  exact ⟨s, v1, v2, xs, ys, h0, h1.below hb hK, h2.below hb hK, h3, h4, h5⟩

theorem Nt.set {base g i : Nat} {w : World} {v u : Value} {xs : List Nat} (h : Nt base w v xs) (hg : g < base) : Nt base (w.setCell ⟨g, i, none⟩ u) v xs := by
  obtain ⟨ao, cap, h1, h2, h3, h4, h5⟩ := h
  refine ⟨ao, cap, h1, h2, h3, h4, fun hp => ?_⟩
  obtain ⟨b, off, e, hc⟩ := h5 hp
  refine ⟨b, off, e, fun j hj => ?_⟩
  have hb := h4.1 _ e
  rw [World.cell?_setCell_other]
  · exact hc j hj
  · intro he
    have : g = b := congrArg Addr.block he
    have hb' : base ≤ b := hb
    omega

theorem Nt.set3 {base g : Nat} {w : World} {v x y z : Value} {xs : List Nat} (h : Nt base w v xs) (hg : g < base) :
    Nt base (((w.setCell ⟨g, 0, none⟩ x).setCell ⟨g, 1, none⟩ y).setCell ⟨g, 2, none⟩ z) v xs := ((h.set hg).set hg).set hg

theorem RatC.set3 {base g : Nat} {w : World} {v x y z : Value} {q : Rat} (h : RatC base w v q) (hg : g < base) :
    RatC base (((w.setCell ⟨g, 0, none⟩ x).setCell ⟨g, 1, none⟩ y).setCell ⟨g, 2, none⟩ z) v q := by
  obtain ⟨v1, v2, rfl, h1, h2⟩ := h
  exact ⟨v1, v2, rfl, h1.set3 hg, h2.set3 hg⟩

theorem below_set3 {B g : Nat} {w0 w : World} {x y z : Value} (h : Below B w0 w) (hg : B ≤ g) : Below B w0 (((w.setCell ⟨g, 0, none⟩ x).setCell ⟨g, 1, none⟩ y).setCell ⟨g, 2, none⟩ z) :=
  ((h.setCell (by exact hg) _).setCell (by exact hg) _).setCell (by exact hg) _

/-- What a function answers that hands back a rational, normal, in new memory. -/
def RetRat (q : Rat) (w : World) (e : Ending) (w' : World) : Prop :=
  ∃ v, e = .returned v ∧ RatC w.heap.size w' v q ∧ Below w.heap.size w w'

theorem RatC.open {base : Nat} {w : World} {v : Value} {q : Rat} (h : RatC base w v q) :
    ∃ s ao1 n1 c1 ao2 n2 c2, v = .agg #[.bool s, .slice ao1 n1 c1, .slice ao2 n2 c2] := by
  obtain ⟨v1, v2, rfl, h1, h2⟩ := h
  obtain ⟨ao1, c1, rfl, _⟩ := h1.open
  obtain ⟨ao2, c2, rfl, _⟩ := h2.open
  exact ⟨_, _, _, _, _, _, _, rfl⟩

theorem RatR.open {K : Nat} {w : World} {v : Value} {q : Rat} (h : RatR K w v q) :
    ∃ s ao1 n1 c1 ao2 n2 c2, v = .agg #[.bool s, .slice ao1 n1 c1, .slice ao2 n2 c2] := by
  obtain ⟨s, v1, v2, xs, ys, rfl, h1, h2, _⟩ := h
  obtain ⟨ao1, c1, rfl, _⟩ := h1.open
  obtain ⟨ao2, c2, rfl, _⟩ := h2.open
  exact ⟨_, _, _, _, _, _, _, rfl⟩

/-- block g holds three cells (t: the type's number) -/
def Box3 (t : Nat) (w : World) (g : Nat) (a b c : Value) : Prop := w.heap[g]? = some (.cells #[a, b, c] t (0, 0))

theorem Box3.below {t K : Nat} {w w' : World} {g : Nat} {a b c : Value} (h : Box3 t w g a b c) (hb : Below K w w') (hK : g < K) : Box3 t w' g a b c := by
  unfold Box3 at *
  rw [hb.block g hK]
  exact h
theorem Box3.cells {t : Nat} {w : World} {g : Nat} {a b c : Value} (h : Box3 t w g a b c) :
    w.cell? ⟨g, 0, none⟩ = some a ∧ w.cell? ⟨g, 1, none⟩ = some b ∧ w.cell? ⟨g, 2, none⟩ = some c ∧ w.frozen? ⟨g, 0, none⟩ = false ∧ w.frozen? ⟨g, 1, none⟩ = false ∧ w.frozen? ⟨g, 2, none⟩ = false ∧ g < w.heap.size := by
  unfold Box3 at h
  refine ⟨?_, ?_, ?_, frozen_of_row w g 0 _ t h, frozen_of_row w g 1 _ t h, frozen_of_row w g 2 _ t h, (Array.getElem?_eq_some_iff.1 h).1⟩
  · rw [cell_of_row w g 0 _ t (0, 0) h]; rfl
  · rw [cell_of_row w g 1 _ t (0, 0) h]; rfl
  · rw [cell_of_row w g 2 _ t (0, 0) h]; rfl
theorem Box3.new (t : Nat) (w : World) (a b c : Value) : Box3 t (w.alloc (.cells #[a, b, c] t)) w.heap.size a b c := heap_alloc_new w _
theorem Box3.stored {t : Nat} {w : World} {g : Nat} {a b c : Value} (h : Box3 t w g a b c) (x y z : Value) : Box3 t (((w.setCell ⟨g, 0, none⟩ x).setCell ⟨g, 1, none⟩ y).setCell ⟨g, 2, none⟩ z) g x y z := by
  unfold Box3 at *
  have h1 := heap_setCell_same w g 0 _ t x h
  have h2 := heap_setCell_same _ g 1 _ t y h1
  have h3 := heap_setCell_same _ g 2 _ t z h2
  rw [h3]
  rfl

end Go.Proofs.Ytdojdghhbjjoeaa
