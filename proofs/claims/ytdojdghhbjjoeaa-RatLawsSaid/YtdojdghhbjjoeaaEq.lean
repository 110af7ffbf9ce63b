/- Contracts of the three functions that compare rows of limbs: slices.Equal, and limbs of the law and of the reference. Conditions: at most 8*10^12 limbs. -/
import Derived.Test.YtdojdghhbjjoeaaRatNorm
namespace Go.Proofs.Ytdojdghhbjjoeaa
open Go.RowKit

theorem take_step {A C : List Nat} {k : Nat} (h1 : k < A.length) (h2 : k < C.length) (h : A.take k = C.take k) (he : A.getD k 0 = C.getD k 0) : A.take (k + 1) = C.take (k + 1) := by
  rw [List.take_succ_eq_append_getElem h1, List.take_succ_eq_append_getElem h2, h]
  rw [List.getD_eq_getElem?_getD, List.getD_eq_getElem?_getD, List.getElem?_eq_getElem h1, List.getElem?_eq_getElem h2] at he
  simp at he
  rw [he]
theorem getD_ne {A C : List Nat} {k : Nat} (h : ¬ A.getD k 0 = C.getD k 0) : decide (A = C) = false := decide_eq_false fun e => h (by rw [e])

set_option maxRecDepth 100000 in
set_option maxHeartbeats 1000000 in
theorem lawLimbs (w : World) (v1 v2 : Value) (A C : List Nat) (b1 b2 : Nat) (h1 : Nt b1 w v1 A) (h2 : Nt b2 w v2 C) (hL1 : A.length ≤ 8000000000000) :
    Calls Try.prog 68 #[v1, v2] w fun e w' => e = .returned (.bool (decide (A = C))) ∧ Below w.heap.size w w' := by
  have X1 := Lib.hid h1.lt
  have X2 := Lib.hid h2.lt
  obtain ⟨ao1, c1, rfl, hc1⟩ := h1.open
  obtain ⟨ao2, c2, rfl, hc2⟩ := h2.open
  by_cases hne : A.length = C.length
  · have hq : ((A.length : Int) != C.length) = false := by simp; omega
    have HE := Lib.hid hne
    clear hne
    go_enter Try.func68, Try.ntmps68
    go_wp2
    go_loopw [5] (fun i wr => ∃ k : Nat, k ≤ A.length ∧ i = .int .i64 (k : Int) ∧ Hid (A.take k = C.take k) ∧ Below w.heap.size w wr) (fun i _ => A.length - (intOf i).toNat)
    case atStart => exact ⟨0, Nat.zero_le _, rfl, (by show A.take 0 = C.take 0; rfl), Below.refl _ _⟩
    case round =>
      obtain ⟨k, hk, rfl, hd, hBw⟩ := hrel
      by_cases hlt : k < A.length
      · obtain ⟨b3, o3, rfl, _, hb3, hc3⟩ := h1.at_some hlt
        obtain ⟨b4, o4, rfl, _, hb4, hc4⟩ := h2.at_some (k := k) (by have := HE.out; omega)
        have d1 : wr.cell? ⟨b3, o3 + k, none⟩ = some (.int .u32 ((A.getD k 0 : Nat) : Int)) := by rw [hBw.cell hb3]; exact hc3 k hlt
        have d2 : wr.cell? ⟨b4, o4 + k, none⟩ = some (.int .u32 ((C.getD k 0 : Nat) : Int)) := by rw [hBw.cell hb4]; exact hc4 k (by have := HE.out; omega)
        have s1 := Lib.hid (take_step hlt (by have := HE.out; omega) hd.out)
        have s2 := Lib.hid (getD_ne (A := A) (C := C) (k := k))
        have hltC : k < C.length := by have := HE.out; omega
        have q0 : (0 : Int) ≤ (k : Int) := by omega
        have q1 : (k : Int) < (A.length : Int) := by omega
        have q2 : (k : Int) < (C.length : Int) := by omega
        have q3 : IntKind.i64.wrap ((k : Int) + 1) = ((k + 1 : Nat) : Int) := by rw [IntWalk.i64_in _ (by omega)]; rfl
        clear hc3 hc4 hd
        generalize A.getD k 0 = x at *
        generalize C.getD k 0 = y at *
        by_cases hxy : x = y
        · have h3 := Lib.hid (s1.out hxy)
          have hq : ((x : Int) != y) = false := by simp; omega
          clear hxy s1 s2
          go_wp2
          go_quiet (fail)
          go_wp2
          go_roundw
          case rel => exact ⟨k + 1, by omega, by first | rfl | (simp; done) | (rw [q3]) | (push_cast; rfl), h3, below_drewN hBw _⟩
          case measure => simp [intOf]; omega
        · have hq : ((x : Int) != y) = true := by simp; omega
          have hr := Lib.hid (s2.out hxy)
          clear hxy s1 s2
          go_wp2
          go_quiet (fail)
          go_wp2
          go_ret
          exact ⟨by rw [hr.out]; rfl, below_drewN hBw _⟩
      · have hr : Hid (decide (A = C) = true) := Lib.hid (decide_eq_true (by
          have h := hd.out
          rw [List.take_of_length_le (by omega), List.take_of_length_le (by have := HE.out; omega)] at h
          exact h))
        have q1 : ¬ (k : Int) < (A.length : Int) := by omega
        clear hd
        go_wp2
        go_ret
        exact ⟨by rw [hr.out]; rfl, hBw⟩
  · have hq : ((A.length : Int) != C.length) = true := by simp; omega
    have hr : Hid (decide (A = C) = false) := Lib.hid (decide_eq_false fun h => hne (congrArg List.length h))
    clear hne
    go_enter Try.func68, Try.ntmps68
    go_wp2
    go_ret
    exact ⟨by rw [hr.out]; rfl, Below.refl _ _⟩

set_option maxRecDepth 100000 in
set_option maxHeartbeats 1000000 in
theorem refLimbs (w : World) (v1 v2 : Value) (A C : List Nat) (b1 b2 : Nat) (h1 : Nt b1 w v1 A) (h2 : Nt b2 w v2 C) (hL1 : A.length ≤ 8000000000000) :
    Calls Try.prog 87 #[v1, v2] w fun e w' => e = .returned (.bool (decide (A = C))) ∧ Below w.heap.size w w' := by
  have X1 := Lib.hid h1.lt
  have X2 := Lib.hid h2.lt
  obtain ⟨ao1, c1, rfl, hc1⟩ := h1.open
  obtain ⟨ao2, c2, rfl, hc2⟩ := h2.open
  by_cases hne : A.length = C.length
  · have hq : ((A.length : Int) != C.length) = false := by simp; omega
    have HE := Lib.hid hne
    clear hne
    go_enter Try.func87, Try.ntmps87
    go_wp2
    go_loopw [5] (fun i wr => ∃ k : Nat, k ≤ A.length ∧ i = .int .i64 (k : Int) ∧ Hid (A.take k = C.take k) ∧ Below w.heap.size w wr) (fun i _ => A.length - (intOf i).toNat)
    case atStart => exact ⟨0, Nat.zero_le _, rfl, (by show A.take 0 = C.take 0; rfl), Below.refl _ _⟩
    case round =>
      obtain ⟨k, hk, rfl, hd, hBw⟩ := hrel
      by_cases hlt : k < A.length
      · obtain ⟨b3, o3, rfl, _, hb3, hc3⟩ := h1.at_some hlt
        obtain ⟨b4, o4, rfl, _, hb4, hc4⟩ := h2.at_some (k := k) (by have := HE.out; omega)
        have d1 : wr.cell? ⟨b3, o3 + k, none⟩ = some (.int .u32 ((A.getD k 0 : Nat) : Int)) := by rw [hBw.cell hb3]; exact hc3 k hlt
        have d2 : wr.cell? ⟨b4, o4 + k, none⟩ = some (.int .u32 ((C.getD k 0 : Nat) : Int)) := by rw [hBw.cell hb4]; exact hc4 k (by have := HE.out; omega)
        have s1 := Lib.hid (take_step hlt (by have := HE.out; omega) hd.out)
        have s2 := Lib.hid (getD_ne (A := A) (C := C) (k := k))
        have hltC : k < C.length := by have := HE.out; omega
        have q0 : (0 : Int) ≤ (k : Int) := by omega
        have q1 : (k : Int) < (A.length : Int) := by omega
        have q2 : (k : Int) < (C.length : Int) := by omega
        have q3 : IntKind.i64.wrap ((k : Int) + 1) = ((k + 1 : Nat) : Int) := by rw [IntWalk.i64_in _ (by omega)]; rfl
        clear hc3 hc4 hd
        generalize A.getD k 0 = x at *
        generalize C.getD k 0 = y at *
        by_cases hxy : x = y
        · have h3 := Lib.hid (s1.out hxy)
          have hq : ((x : Int) != y) = false := by simp; omega
          clear hxy s1 s2
          go_wp2
          go_quiet (fail)
          go_wp2
          go_roundw
          case rel => exact ⟨k + 1, by omega, by first | rfl | (simp; done) | (rw [q3]) | (push_cast; rfl), h3, below_drewN hBw _⟩
          case measure => simp [intOf]; omega
        · have hq : ((x : Int) != y) = true := by simp; omega
          have hr := Lib.hid (s2.out hxy)
          clear hxy s1 s2
          go_wp2
          go_quiet (fail)
          go_wp2
          go_ret
          exact ⟨by rw [hr.out]; rfl, below_drewN hBw _⟩
      · have hr : Hid (decide (A = C) = true) := Lib.hid (decide_eq_true (by
          have h := hd.out
          rw [List.take_of_length_le (by omega), List.take_of_length_le (by have := HE.out; omega)] at h
          exact h))
        have q1 : ¬ (k : Int) < (A.length : Int) := by omega
        clear hd
        go_wp2
        go_ret
        exact ⟨by rw [hr.out]; rfl, hBw⟩
  · have hq : ((A.length : Int) != C.length) = true := by simp; omega
    have hr : Hid (decide (A = C) = false) := Lib.hid (decide_eq_false fun h => hne (congrArg List.length h))
    clear hne
    go_enter Try.func87, Try.ntmps87
    go_wp2
    go_ret
    exact ⟨by rw [hr.out]; rfl, Below.refl _ _⟩

set_option maxRecDepth 100000 in
set_option maxHeartbeats 1000000 in
theorem slicesEqual (w : World) (v1 v2 : Value) (A C : List Nat) (b1 b2 : Nat) (h1 : Nt b1 w v1 A) (h2 : Nt b2 w v2 C) (hL1 : A.length ≤ 8000000000000) :
    Calls Try.prog 92 #[v1, v2] w fun e w' => e = .returned (.bool (decide (A = C))) ∧ Below w.heap.size w w' := by
  have X1 := Lib.hid h1.lt
  have X2 := Lib.hid h2.lt
  obtain ⟨ao1, c1, rfl, hc1⟩ := h1.open
  obtain ⟨ao2, c2, rfl, hc2⟩ := h2.open
  by_cases hne : A.length = C.length
  · have hq : ((A.length : Int) != C.length) = false := by simp; omega
    have HE := Lib.hid hne
    clear hne
    go_enter Try.func92, Try.ntmps92
    go_wp2
    go_loopw [13] (fun i wr => ∃ k : Nat, k ≤ A.length ∧ i = .int .i64 (k : Int) ∧ Hid (A.take k = C.take k) ∧ Below w.heap.size w wr) (fun i _ => A.length - (intOf i).toNat)
    case atStart => exact ⟨0, Nat.zero_le _, rfl, (by show A.take 0 = C.take 0; rfl), Below.refl _ _⟩
    case round =>
      obtain ⟨k, hk, rfl, hd, hBw⟩ := hrel
      by_cases hlt : k < A.length
      · obtain ⟨b3, o3, rfl, _, hb3, hc3⟩ := h1.at_some hlt
        obtain ⟨b4, o4, rfl, _, hb4, hc4⟩ := h2.at_some (k := k) (by have := HE.out; omega)
        have d1 : wr.cell? ⟨b3, o3 + k, none⟩ = some (.int .u32 ((A.getD k 0 : Nat) : Int)) := by rw [hBw.cell hb3]; exact hc3 k hlt
        have d2 : wr.cell? ⟨b4, o4 + k, none⟩ = some (.int .u32 ((C.getD k 0 : Nat) : Int)) := by rw [hBw.cell hb4]; exact hc4 k (by have := HE.out; omega)
        have s1 := Lib.hid (take_step hlt (by have := HE.out; omega) hd.out)
        have s2 := Lib.hid (getD_ne (A := A) (C := C) (k := k))
        have hltC : k < C.length := by have := HE.out; omega
        have q0 : (0 : Int) ≤ (k : Int) := by omega
        have q1 : (k : Int) < (A.length : Int) := by omega
        have q2 : (k : Int) < (C.length : Int) := by omega
        have q3 : IntKind.i64.wrap ((k : Int) + 1) = ((k + 1 : Nat) : Int) := by rw [IntWalk.i64_in _ (by omega)]; rfl
        clear hc3 hc4 hd
        generalize A.getD k 0 = x at *
        generalize C.getD k 0 = y at *
        by_cases hxy : x = y
        · have h3 := Lib.hid (s1.out hxy)
          have hq : ((x : Int) != y) = false := by simp; omega
          clear hxy s1 s2
          go_wp2
          go_quiet (fail)
          go_wp2
          go_roundw
          case rel => exact ⟨k + 1, by omega, by first | rfl | (simp; done) | (rw [q3]) | (push_cast; rfl), h3, below_drewN hBw _⟩
          case measure => simp [intOf]; omega
        · have hq : ((x : Int) != y) = true := by simp; omega
          have hr := Lib.hid (s2.out hxy)
          clear hxy s1 s2
          go_wp2
          go_quiet (fail)
          go_wp2
          go_ret
          exact ⟨by rw [hr.out]; rfl, below_drewN hBw _⟩
      · have hr : Hid (decide (A = C) = true) := Lib.hid (decide_eq_true (by
          have h := hd.out
          rw [List.take_of_length_le (by omega), List.take_of_length_le (by have := HE.out; omega)] at h
          exact h))
        have q1 : ¬ (k : Int) < (A.length : Int) := by omega
        clear hd
        go_wp2
        go_ret
        exact ⟨by rw [hr.out]; rfl, hBw⟩
  · have hq : ((A.length : Int) != C.length) = true := by simp; omega
    have hr : Hid (decide (A = C) = false) := Lib.hid (decide_eq_false fun h => hne (congrArg List.length h))
    clear hne
    go_enter Try.func92, Try.ntmps92
    go_wp2
    go_ret
    exact ⟨by rw [hr.out]; rfl, Below.refl _ _⟩

end Go.Proofs.Ytdojdghhbjjoeaa
