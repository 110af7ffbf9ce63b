/- Blocks that a call lays one behind another, and what they hold later. No condition. -/
import Derived.Test.YtdojdghhbjjoeaaRatWords
namespace Go.Proofs.Ytdojdghhbjjoeaa
open Go.RowKit

/-- block g holds the cells l (t: the type's number), not frozen -/
def Bx (t : Nat) (w : World) (g : Nat) (l : List Value) : Prop := w.heap[g]? = some (.cells l.toArray t (0, 0))

theorem Bx.lt {t : Nat} {w : World} {g : Nat} {l : List Value} (h : Bx t w g l) : g < w.heap.size := (Array.getElem?_eq_some_iff.1 h).1
theorem Bx.at {t : Nat} {w : World} {g : Nat} {l : List Value} (h : Bx t w g l) (i : Nat) {v : Value} (hv : l[i]? = some v) : w.cell? ⟨g, i, none⟩ = some v := by
  rw [cell_of_row w g i _ t (0, 0) h]
  simpa using hv
theorem Bx.fr {t : Nat} {w : World} {g : Nat} {l : List Value} (h : Bx t w g l) (i : Nat) : w.frozen? ⟨g, i, none⟩ = false := frozen_of_row w g i _ t h
theorem Bx.below {t K : Nat} {w w' : World} {g : Nat} {l : List Value} (h : Bx t w g l) (hb : Below K w w') (hK : w.heap.size ≤ K) : Bx t w' g l := by
  have hlt := h.lt
  unfold Bx at *
  rw [hb.block g (by omega)]
  exact h
theorem Bx.box3 {t : Nat} {w : World} {g : Nat} {a b c : Value} (h : Bx t w g [a, b, c]) : Box3 t w g a b c := h
theorem Box3.bx {t : Nat} {w : World} {g : Nat} {a b c : Value} (h : Box3 t w g a b c) : Bx t w g [a, b, c] := h

theorem alloc_old (w : World) (o : Obj) (g : Nat) (h : g < w.heap.size) : (w.alloc o).heap[g]? = w.heap[g]? := by
  have hb : Below w.heap.size w (w.alloc o) := (Below.refl _ _).alloc (Nat.le_refl _) _
  exact hb.block g h

/-- what the i-th block behind w holds -/
theorem allocs_at : ∀ (os : List Obj) (w : World) (i : Nat) (o : Obj), os[i]? = some o → (os.foldl World.alloc w).heap[w.heap.size + i]? = some o
  | [], _, _, _, h => by simp at h
  | o' :: os, w, 0, o, h => by
    simp at h
    subst h
    have h1 : ∀ (os : List Obj) (w : World) (g : Nat), g < w.heap.size → (os.foldl World.alloc w).heap[g]? = w.heap[g]? := by
      intro os
      induction os with
      | nil => intro w g _; rfl
      | cons o os ih =>
        intro w g hg
        rw [List.foldl_cons, ih _ _ (by rw [World.size_alloc]; omega), alloc_old _ _ _ hg]
    rw [List.foldl_cons, h1 _ _ _ (by rw [World.size_alloc]; omega)]
    exact heap_alloc_new w _
  | o' :: os, w, i + 1, o, h => by
    have := allocs_at os (w.alloc o') i o (by simpa using h)
    rw [World.size_alloc] at this
    rw [List.foldl_cons, show w.heap.size + (i + 1) = w.heap.size + 1 + i by omega]
    exact this

theorem allocs_below : ∀ (os : List Obj) (w : World), Below w.heap.size w (os.foldl World.alloc w)
  | [], w => Below.refl _ _
  | o :: os, w => by
    have h1 : Below w.heap.size w (w.alloc o) := (Below.refl _ _).alloc (Nat.le_refl _) _
    exact bthen h1 (allocs_below os (w.alloc o))

end Go.Proofs.Ytdojdghhbjjoeaa
