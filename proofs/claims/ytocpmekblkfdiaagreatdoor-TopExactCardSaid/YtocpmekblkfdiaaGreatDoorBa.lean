/- Rows of anything that is so many cells: balls, rows of limbs, rows of rationals. No condition. -/
import Derived.Test.YtocpmekblkfdiaaGreatDoorAm
namespace Go.Proofs.YtocpmekblkfdiaaGreatDoor
open Go.RowKit
/-- what a row's elements are: so many cells each -/
structure Cel (α : Type) where
  k : Nat
  pc : List CV → Option α
  uc : α → List CV
  va : α → Prop
  len : ∀ {l x}, pc l = some x → l.length = k
  lenU : ∀ x, (uc x).length = k
  ok : ∀ {l x} {X : Nat → Nat → Prop} {w : World} {b off : Nat}, pc l = some x → cellsP X w b off l → cellsP X w b off (uc x)
  rt : ∀ x, pc (uc x) = some x
  vd : ∀ {x} {X : Nat → Nat → Prop} {w : World} {b off : Nat}, cellsP X w b off (uc x) → va x
def rowsC {α : Type} (C : Cel α) : List (List CV) → Option (List α)
  | [] => some []
  | r :: rs => match C.pc r, rowsC C rs with
    | some x, some xs => some (x :: xs)
    | _, _ => none
theorem rowsC_map {α : Type} (C : Cel α) : ∀ (l : List α), rowsC C (l.map C.uc) = some l
  | [] => rfl
  | r :: l => by simp only [List.map_cons, rowsC, rowsC_map C l, C.rt]
theorem rowsC_P {α : Type} {C : Cel α} {X : Nat → Nat → Prop} {w : World} {b : Nat} : ∀ (rows : List (List CV)) (l : List α) (off : Nat), rowsC C rows = some l → rowsP X w b off C.k rows → rowsP X w b off C.k (l.map C.uc)
  | [], l, off, h, _ => by simp only [rowsC, Option.some.injEq] at h; subst h; simp only [List.map_nil, rowsP]
  | r :: rows, l, off, h, hp => by
    simp only [rowsC] at h
    split at h
    · rename_i x xs hx hxs
      cases h
      simp only [rowsP] at hp
      simp only [List.map_cons, rowsP]
      exact ⟨C.lenU x, C.ok hx hp.2.1, rowsC_P rows xs (off + C.k) hxs hp.2.2⟩
    · cases h
theorem rowsC_len {α : Type} {C : Cel α} : ∀ (rows : List (List CV)) (l : List α), rowsC C rows = some l → rows.length = l.length
  | [], l, h => by simp only [rowsC, Option.some.injEq] at h; subst h; rfl
  | r :: rows, l, h => by
    simp only [rowsC] at h
    split at h
    · rename_i x xs hx hxs; cases h; simp [rowsC_len rows xs hxs]
    · cases h
theorem rowsC_ok {α : Type} {C : Cel α} {X : Nat → Nat → Prop} {w : World} {b t : Nat} : ∀ (l : List α) (off : Nat), rowsP X w b off t (l.map C.uc) → ∀ r ∈ l, C.va r
  | x :: l, off, h, r, hr => by
    simp only [List.map_cons, rowsP] at h
    rcases List.mem_cons.1 hr with rfl | hr
    · exact C.vd h.2.1
    · exact rowsC_ok l (off + t) h.2.2 r hr
def rowV {α : Type} (C : Cel α) (l : List α) : AV := .one (.cel (.sl none C.k (l.map C.uc)))
def paRow {α : Type} (C : Cel α) : AV → Option (List α)
  | .one (.cel .nil) => some []
  | .one (.cel (.sl _ t rows)) => if (t == C.k) = true then rowsC C rows else none
  | _ => none
theorem slP_row {α : Type} {C : Cel α} {X : Nat → Nat → Prop} {w : World} {u : Value} {own : Option Nat} {rows : List (List CV)} {l : List α} (h : rowsC C rows = some l) (hu : (CV.sl own C.k rows).P X w u) : (CV.sl none C.k (l.map C.uc)).P X w u := by
  simp only [CV.P] at hu ⊢
  obtain ⟨ao, cap, h1, h2, h3, h4⟩ := hu
  have hl := rowsC_len rows l h
  refine ⟨ao, cap, by rw [h1, hl, List.length_map], by rw [List.length_map, ← hl]; exact h2, h3, fun hp => ?_⟩
  obtain ⟨b, off, e, hr⟩ := h4 (by rw [hl]; simpa using hp)
  exact ⟨b, off, e, rowsC_P rows l off h hr⟩
theorem slP_nil {X : Nat → Nat → Prop} {w : World} {t : Nat} : (CV.sl none t []).P X w (.slice none 0 0) := by
  simp only [CV.P]
  exact ⟨none, 0, rfl, by simp, by simp, by simp⟩
/-- a row as an argument -/
def aRow {α : Type} (C : Cel α) : Arg (List α) where
  pa := paRow C
  un := rowV C
  va := fun l => ∀ r ∈ l, C.va r
  ok := by
    intro v x h X w u hu
    unfold paRow at h
    split at h
    · cases h
      have e : u = .slice none 0 0 := hu
      subst e
      exact slP_nil
    · rename_i own t rows
      split at h
      · rename_i ht
        rw [beq_iff_eq] at ht
        subst ht
        exact slP_row (own := own) h hu
      · cases h
    · cases h
  st := fun _ => rfl
  vd := fun l X w u hu => by
    have h : (CV.sl none C.k (l.map C.uc)).P X w u := hu
    simp only [CV.P] at h
    obtain ⟨ao, cap, _, _, _, h4⟩ := h
    intro r hr
    have hp : 0 < (l.map C.uc).length := by rw [List.length_map]; exact List.length_pos_of_mem hr
    obtain ⟨b, off, _, h5⟩ := h4 hp
    exact rowsC_ok l off h5 r hr
theorem getD_row {α : Type} {C : Cel α} {l : List α} {i : Nat} {d : α} (h : i < l.length) : (l.map C.uc).getD i [] = C.uc (l.getD i d) := by
  simp [List.getD_eq_getElem?_getD, List.getElem?_eq_getElem h]
def cellsLim : List CV → Option (List Nat)
  | [c] => c.lims
  | _ => none
def limCells (xs : List Nat) : List CV := [.lim none xs]
def celLim : Cel (List Nat) where
  k := 1
  pc := cellsLim
  uc := limCells
  va := limOk
  len := fun {l x} h => by
    unfold cellsLim at h
    split at h
    · rfl
    · cases h
  lenU := fun _ => rfl
  ok := fun {l x} {X w b off} h hp => by
    unfold cellsLim at h
    split at h
    · rename_i c
      simp only [limCells, cellsP, and_true] at hp ⊢
      obtain ⟨v, h1, h2⟩ := hp
      exact ⟨v, h1, by simpa only [CV.P] using CV.lims_P h h2⟩
    · cases h
  rt := fun _ => rfl
  vd := fun {x} {X w b off} h => by
    simp only [limCells, cellsP, and_true] at h
    obtain ⟨v, _, h2⟩ := h
    exact limV_ok (X := X) (w := w) (v := v) h2
@[go_sem] theorem celLim_k : celLim.k = 1 := rfl
@[go_sem] theorem celLim_pc (l : List CV) : celLim.pc l = cellsLim l := rfl
@[go_sem] theorem celLim_uc (x : List Nat) : celLim.uc x = limCells x := rfl
@[go_sem] theorem aRow_pa {α : Type} (C : Cel α) (v : AV) : (aRow C).pa v = paRow C v := rfl
@[go_sem] theorem aRow_un {α : Type} (C : Cel α) (l : List α) : (aRow C).un l = rowV C l := rfl
attribute [go_sem] paRow rowsC rowsC_map rowV cellsLim limCells
def aLims : Arg (List (List Nat)) := aRow celLim
attribute [go_sem] aLims
theorem getD_lims {l : List (List Nat)} {i : Nat} (h : i < l.length) : (l.map celLim.uc).getD i [] = limCells (l.getD i []) := getD_row h
end Go.Proofs.YtocpmekblkfdiaaGreatDoor
