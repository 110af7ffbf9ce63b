/- Contracts of nat.Cmp and vernierref1.Cmp: -1, 0, 1 as the numbers stand. Condition: at most 10^12 limbs. -/
import Derived.Test.YtdojdghhbjjoeaaNat3
namespace Go.Proofs.Ytdojdghhbjjoeaa
open Go.RowKit

def cmpI (a b : Nat) : Int := if a < b then -1 else if b < a then 1 else 0

theorem cmpI_lt {a b : Nat} (h : a < b) : cmpI a b = -1 := if_pos h
theorem cmpI_gt {a b : Nat} (h : b < a) : cmpI a b = 1 := by unfold cmpI; rw [if_neg (by omega), if_pos h]
theorem cmpI_eq {a b : Nat} (h : a = b) : cmpI a b = 0 := by unfold cmpI; rw [if_neg (by omega), if_neg (by omega)]
theorem cmpI_lt_zero {a b : Nat} : cmpI a b < 0 ↔ a < b := by
  unfold cmpI
  repeat' split
  all_goals omega
theorem cmpI_zero {a b : Nat} : cmpI a b = 0 ↔ a = b := by
  unfold cmpI
  repeat' split
  all_goals omega
theorem cmpI_neg {a b : Nat} : cmpI b a = - cmpI a b := by
  unfold cmpI
  by_cases h : a < b
  · rw [if_neg (by omega), if_pos h, if_pos h]; rfl
  · by_cases h2 : b < a
    · rw [if_pos h2, if_neg h, if_pos h2]
    · rw [if_neg h2, if_neg h, if_neg h, if_neg h2]; rfl
theorem cmpI_bd (a b : Nat) : -1 ≤ cmpI a b ∧ cmpI a b ≤ 1 := by
  unfold cmpI
  repeat' split
  all_goals omega

theorem limbs_len_lt {m n : Nat} (h : (limbs m).length < (limbs n).length) : m < n := by
  rcases Nat.lt_or_ge m n with h' | h'
  · exact h'
  · have := limbs_len_mono h'; omega

theorem val_split (A : List Nat) (k : Nat) (hk : k ≤ A.length) : val A = val (A.take k) + 4294967296 ^ k * val (A.drop k) := by
  have h : A = A.take k ++ A.drop k := (List.take_append_drop k A).symm
  have e := val_append (A.take k) (A.drop k)
  rw [← h, List.length_take, Nat.min_eq_left hk] at e
  exact e

theorem cmp_step {A C : List Nat} {i : Nat} (hA : ∀ x ∈ A, x < 4294967296) (hi : i < A.length) (hl : A.length = C.length) (hd : A.drop (i + 1) = C.drop (i + 1)) (h : A.getD i 0 < C.getD i 0) : val A < val C := by
  rw [val_split A (i + 1) (by omega), val_split C (i + 1) (by omega), hd, val_take_last hi, val_take_last (by omega)]
  have h1 : val (A.take i) < 4294967296 ^ i := by
    have := val_lt (xs := A.take i) (fun x hx => hA x (List.mem_of_mem_take hx))
    rwa [List.length_take, Nat.min_eq_left (by omega)] at this
  have h2 : 4294967296 ^ i * (A.getD i 0 + 1) ≤ 4294967296 ^ i * C.getD i 0 := Nat.mul_le_mul_left _ h
  rw [Nat.mul_add] at h2
  omega

theorem drop_step {A C : List Nat} {i : Nat} (hi : i < A.length) (hl : A.length = C.length) (hd : A.drop (i + 1) = C.drop (i + 1)) (h : A.getD i 0 = C.getD i 0) : A.drop i = C.drop i := by
  have hi2 : i < C.length := by omega
  rw [List.drop_eq_getElem_cons hi, List.drop_eq_getElem_cons hi2, hd]
  simp only [List.getD_eq_getElem?_getD] at h
  rw [List.getElem?_eq_getElem hi, List.getElem?_eq_getElem hi2] at h
  simp at h
  rw [h]

def RetCmp (a b : Nat) (w : World) (e : Ending) (w' : World) : Prop := e = .returned (.int .i64 (cmpI a b)) ∧ Below w.heap.size w w'

theorem RetCmp.mk {a b : Nat} {w w' : World} {c : Int} (h : cmpI a b = c) (hb : Below w.heap.size w w') : RetCmp a b w (.returned (.int .i64 c)) w' := ⟨by rw [h], hb⟩

set_option maxRecDepth 100000 in
set_option maxHeartbeats 1000000 in
theorem natCmp (w : World) (v1 v2 : Value) (xs ys : List Nat) (b1 b2 : Nat) (h1 : Nt b1 w v1 xs) (h2 : Nt b2 w v2 ys) (hL1 : xs.length ≤ 8000000000000) (hL2 : ys.length ≤ 8000000000000) :
    Calls Try.prog 80 #[v1, v2] w (RetCmp (val xs) (val ys) w) := by
  have h1' := h1
  have h2' := h2
  obtain ⟨ao1, c1, rfl, hc1, hx1, _, _⟩ := h1'
  obtain ⟨ao2, c2, rfl, hc2, hx2, _, _⟩ := h2'
  have l1 := limbs_len_val hx1
  have l2 := limbs_len_val hx2
  have t1 := h1.trim
  have t2 := h2.trim
  have G1 := Lib.hid (natTrim w ao1 xs.length c1 xs b1 _ h1 hL1 rfl)
  have G2 := Lib.hid (natTrim w ao2 ys.length c2 ys b2 _ h2 hL2 rfl)
  clear h1 h2 hx1 hx2
  generalize val xs = m at *
  generalize val ys = n at *
  generalize xs.length = n1 at *
  generalize ys.length = n2 at *
  have V1 := Lib.hid (val_limbs m)
  have V2 := Lib.hid (val_limbs n)
  have LL := Lib.hid (@limbs_len_lt m n)
  have LG := Lib.hid (@limbs_len_lt n m)
  have X1 := Lib.hid (limbs_lt m)
  have X2 := Lib.hid (limbs_lt n)
  generalize limbs m = A at *
  generalize limbs n = C at *
  by_cases hlt : A.length < C.length
  · have hne : ((A.length : Int) != C.length) = true := by simp; omega
    have hr := Lib.hid (cmpI_lt (LL.out hlt))
    go_enter Try.func80, Try.ntmps80
    go_wp2_with (first | ((with_reducible refine G1.out.mono ?_); rintro e w1 ⟨rfl, rfl⟩) | ((with_reducible refine G2.out.mono ?_); rintro e w1 ⟨rfl, rfl⟩))
    go_ret
    exact RetCmp.mk hr.out (Below.refl _ _)
  · by_cases hgt : C.length < A.length
    · have hne : ((A.length : Int) != C.length) = true := by simp; omega
      have hr := Lib.hid (cmpI_gt (LG.out hgt))
      go_enter Try.func80, Try.ntmps80
      go_wp2_with (first | ((with_reducible refine G1.out.mono ?_); rintro e w1 ⟨rfl, rfl⟩) | ((with_reducible refine G2.out.mono ?_); rintro e w1 ⟨rfl, rfl⟩))
      go_ret
      exact RetCmp.mk hr.out (Below.refl _ _)
    · have hne : ((A.length : Int) != C.length) = false := by simp; omega
      have hle : A.length ≤ C.length := by omega
      have hge : C.length ≤ A.length := by omega
      clear hlt hgt
      go_enter Try.func80, Try.ntmps80
      go_wp2_with (first | ((with_reducible refine G1.out.mono ?_); rintro e w1 ⟨rfl, rfl⟩) | ((with_reducible refine G2.out.mono ?_); rintro e w1 ⟨rfl, rfl⟩))
      clear G1 G2
      go_loopw [5] (fun i wr => ∃ k : Nat, k ≤ A.length ∧ i = .int .i64 ((k : Int) - 1) ∧ Hid (A.drop k = C.drop k) ∧ Below w.heap.size w wr) (fun i _ => ((intOf i) + 1).toNat)
      case atStart => exact ⟨A.length, Nat.le_refl _, rfl, (by show A.drop A.length = C.drop A.length; rw [List.drop_of_length_le (Nat.le_refl _), List.drop_of_length_le (by omega)]), Below.refl _ _⟩
      case round =>
        obtain ⟨k, hk, rfl, hd, hBw⟩ := hrel
        by_cases h0 : k = 0
        · subst h0
          have he := hd.out
          rw [List.drop_zero, List.drop_zero] at he
          have hr := Lib.hid (cmpI_eq (show m = n by rw [← V1.out, ← V2.out, he]))
          clear he
          go_wp2
          go_ret
          exact RetCmp.mk hr.out hBw
        · obtain ⟨i, rfl⟩ : ∃ i, k = i + 1 := ⟨k - 1, by omega⟩
          obtain ⟨b3, o3, rfl, _, hb3, hc3⟩ := t1.at_some (k := i) (by omega)
          obtain ⟨b4, o4, rfl, _, hb4, hc4⟩ := t2.at_some (k := i) (by omega)
          have d1 : wr.cell? ⟨b3, o3 + i, none⟩ = some (.int .u32 ((A.getD i 0 : Nat) : Int)) := by rw [hBw.cell hb3]; exact hc3 i (by omega)
          have d2 : wr.cell? ⟨b4, o4 + i, none⟩ = some (.int .u32 ((C.getD i 0 : Nat) : Int)) := by rw [hBw.cell hb4]; exact hc4 i (by omega)
          have s1 := Lib.hid (cmp_step (C := C) (i := i) X1.out (by omega) (by omega) hd.out)
          have s2 := Lib.hid (cmp_step (C := A) (i := i) X2.out (by omega) (by omega) hd.out.symm)
          have s3 := Lib.hid (drop_step (i := i) (by omega) (by omega) hd.out)
          clear hc3 hc4 hd
          generalize A.getD i 0 = x at *
          generalize C.getD i 0 = y at *
          have hi1 : ((i + 1 : Nat) : Int) - 1 = (i : Int) := by omega
          rw [hi1]
          clear hi1
          by_cases hxy : x = y
          · have h3 := Lib.hid (s3.out hxy)
            have hq : ((x : Int) != y) = false := by simp; omega
            clear hxy s1 s2 s3
            go_wp2
            go_quiet (fail)
            go_wp2
            go_roundw
            case rel => exact ⟨i, by omega, rfl, h3, below_drewN hBw _⟩
            case measure => simp [intOf]
          · have hq : ((x : Int) != y) = true := by simp; omega
            by_cases hlt : x < y
            · have hr := Lib.hid (cmpI_lt (show m < n by rw [← V1.out, ← V2.out]; exact s1.out hlt))
              go_wp2
              go_quiet (fail)
              go_wp2
              go_quiet (fail)
              go_wp2
              go_ret
              exact RetCmp.mk hr.out (below_drewN (below_drewN hBw _) _)
            · have hr := Lib.hid (cmpI_gt (show n < m by rw [← V1.out, ← V2.out]; exact s2.out (by omega)))
              go_wp2
              go_quiet (fail)
              go_wp2
              go_quiet (fail)
              go_wp2
              go_ret
              exact RetCmp.mk hr.out (below_drewN (below_drewN hBw _) _)

end Go.Proofs.Ytdojdghhbjjoeaa
