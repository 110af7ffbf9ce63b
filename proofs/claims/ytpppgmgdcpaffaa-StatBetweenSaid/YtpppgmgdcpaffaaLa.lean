/- Insertion sort of a row of rationals: what it makes. No condition. -/
import Derived.Test.YtpppgmgdcpaffaaDa
namespace Go.Proofs.Ytpppgmgdcpaffaa
open Go.RowKit
set_option linter.unusedSimpArgs false
set_option linter.unusedVariables false

def swapL (l : List RR) (i j : Nat) : List RR := (l.set i (l.getD j rr0)).set j (l.getD i rr0)
/-- the number at place j sinks to where it belongs -/
def insAt (l : List RR) : Nat → List RR
  | 0 => l
  | j + 1 => if (l.getD (j + 1) rr0).q < (l.getD j rr0).q then insAt (swapL l (j + 1) j) j else l
def srt (l : List RR) : Nat → List RR
  | 0 => l
  | m + 1 => insAt (srt l m) m
def isort (l : List RR) : List RR := srt l l.length

theorem swapL_len (l : List RR) (i j : Nat) : (swapL l i j).length = l.length := by unfold swapL; rw [List.length_set, List.length_set]
theorem insAt_len : ∀ (j : Nat) (l : List RR), (insAt l j).length = l.length
  | 0, _ => rfl
  | j + 1, l => by
    unfold insAt
    split
    · rw [insAt_len j, swapL_len]
    · rfl
theorem srt_len (l : List RR) : ∀ m, (srt l m).length = l.length
  | 0 => rfl
  | m + 1 => by show (insAt (srt l m) m).length = _; rw [insAt_len, srt_len l m]
theorem insAt_zero (l : List RR) : insAt l 0 = l := rfl
theorem insAt_yes {l : List RR} {j : Nat} (h : (l.getD (j + 1) rr0).q < (l.getD j rr0).q) : insAt l (j + 1) = insAt (swapL l (j + 1) j) j := by show (if _ then _ else _) = _; rw [if_pos h]
theorem insAt_no {l : List RR} {j : Nat} (h : ¬ (l.getD (j + 1) rr0).q < (l.getD j rr0).q) : insAt l (j + 1) = l := by show (if _ then _ else _) = _; rw [if_neg h]
theorem swapL_cells (l : List RR) (i j : Nat) : ((l.map ratCells).set i (ratCells (l.getD j rr0))).set j (ratCells (l.getD i rr0)) = (swapL l i j).map ratCells := by
  unfold swapL
  rw [List.map_set, List.map_set]

theorem swapL_perm {l : List RR} {i j : Nat} (hi : i < l.length) (hj : j < l.length) : (swapL l i j).Perm l := by
  have h := Array.swap_perm (xs := l.toArray) (i := i) (j := j) (by simpa using hi) (by simpa using hj)
  have h2 := Array.perm_iff_toList_perm.1 h
  rw [Array.toList_swap] at h2
  unfold swapL
  simp only [List.getD_eq_getElem?_getD, List.getElem?_eq_getElem hi, List.getElem?_eq_getElem hj, Option.getD_some]
  simpa using h2
theorem insAt_perm : ∀ (j : Nat) {l : List RR}, j < l.length → (insAt l j).Perm l
  | 0, _, _ => List.Perm.refl _
  | j + 1, l, h => by
    unfold insAt
    split
    · exact (insAt_perm j (by rw [swapL_len]; omega)).trans (swapL_perm h (by omega))
    · exact List.Perm.refl _
theorem srt_perm (l : List RR) : ∀ m, m ≤ l.length → (srt l m).Perm l
  | 0, _ => List.Perm.refl _
  | m + 1, h => (insAt_perm m (by rw [srt_len]; omega)).trans (srt_perm l m (by omega))
theorem isort_perm (l : List RR) : (isort l).Perm l := srt_perm l _ (Nat.le_refl _)
theorem isort_len (l : List RR) : (isort l).length = l.length := srt_len l _

/-- rising up to m -/
def upTo (l : List RR) (m : Nat) : Prop := ∀ i j, i < j → j < m → atQ l i ≤ atQ l j

theorem swapL_at {l : List RR} {i j k : Nat} (hi : i < l.length) (hj : j < l.length) : atQ (swapL l i j) k = if k = j then atQ l i else if k = i then atQ l j else atQ l k := by
  unfold atQ swapL
  simp only [List.getD_eq_getElem?_getD, List.getElem?_set, List.length_set]
  by_cases h1 : j = k
  · subst h1
    simp [hj]
  · have h1' : ¬ k = j := fun e => h1 e.symm
    by_cases h2 : i = k
    · subst h2
      simp [hi, h1, h1']
    · have h2' : ¬ k = i := fun e => h2 e.symm
      simp [h1, h1', h2, h2']

/-- all but place j rise up to m, and what is behind j is not below what is before -/
def nearUp (l : List RR) (j m : Nat) : Prop := (∀ a b, a < b → b < m → a ≠ j → b ≠ j → atQ l a ≤ atQ l b) ∧ ∀ b, j < b → b < m → atQ l j ≤ atQ l b

theorem insAt_up : ∀ (j m : Nat) (l : List RR), j < m → m ≤ l.length → nearUp l j m → upTo (insAt l j) m
  | 0, m, l, hj, hm, ⟨h1, h2⟩ => fun a b hab hb => by
    rcases Nat.eq_zero_or_pos a with rfl | ha
    · exact h2 b hab hb
    · exact h1 a b hab hb (by omega) (by omega)
  | j + 1, m, l, hj, hm, ⟨h1, h2⟩ => by
    unfold insAt
    split
    · rename_i hlt
      have hlt : atQ l (j + 1) < atQ l j := hlt
      refine insAt_up j m _ (by omega) (by rw [swapL_len]; exact hm) ⟨fun a b hab hb ha hb' => ?_, fun b hjb hb => ?_⟩
      · rw [swapL_at (by omega) (by omega), swapL_at (by omega) (by omega), if_neg ha, if_neg hb']
        by_cases e1 : a = j + 1
        · subst e1
          rw [if_pos rfl, if_neg (by omega)]
          exact h1 j b (by omega) hb (by omega) (by omega)
        · rw [if_neg e1]
          by_cases e2 : b = j + 1
          · subst e2
            rw [if_pos rfl]
            exact h1 a j (by omega) (by omega) (by omega) (by omega)
          · rw [if_neg e2]
            exact h1 a b hab hb e1 e2
      · rw [swapL_at (by omega) (by omega), swapL_at (by omega) (by omega), if_pos rfl, if_neg (by omega)]
        by_cases e2 : b = j + 1
        · subst e2
          rw [if_pos rfl]
          exact Rat.le_of_lt hlt
        · rw [if_neg e2]
          exact h2 b (by omega) hb
    · rename_i hlt
      have hle : atQ l j ≤ atQ l (j + 1) := Rat.not_lt.1 hlt
      intro a b hab hb
      by_cases e1 : a = j + 1
      · subst e1; exact h2 b hab hb
      · by_cases e2 : b = j + 1
        · subst e2
          by_cases e3 : a = j
          · subst e3; exact hle
          · exact Rat.le_trans (h1 a j (by omega) (by omega) e1 (by omega)) hle
        · exact h1 a b hab hb e1 e2
theorem srt_up (l : List RR) : ∀ m, m ≤ l.length → upTo (srt l m) m
  | 0, _ => fun _ _ _ h => by omega
  | m + 1, h => by
    have ih := srt_up l m (by omega)
    exact insAt_up m (m + 1) _ (by omega) (by rw [srt_len]; exact h) ⟨fun a b hab hb ha hb' => ih a b hab (by omega), fun b h1 h2 => by omega⟩
theorem isort_up (l : List RR) : upTo (isort l) l.length := srt_up l _ (Nat.le_refl _)

end Go.Proofs.Ytpppgmgdcpaffaa
