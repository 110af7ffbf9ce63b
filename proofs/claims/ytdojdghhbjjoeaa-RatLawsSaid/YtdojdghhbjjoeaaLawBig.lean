/- Contract of vernierlaw2.big. Conditions: rows shorter than 10^14. -/
import Derived.Test.YtdojdghhbjjoeaaLawKnown
namespace Go.Proofs.Ytdojdghhbjjoeaa
open Go.RowKit

/-- a row of structs with two slices each, of together so many limbs -/
def Lens (w : World) (g : Nat) (ts : List Nat) : Prop :=
  ∀ i, i < ts.length → ∃ ao1 n1 c1 ao2 n2 c2, w.cell? ⟨g, i * 3 + 1, none⟩ = some (.slice ao1 n1 c1) ∧ w.cell? ⟨g, i * 3 + 2, none⟩ = some (.slice ao2 n2 c2) ∧ ts.getD i 0 = n1 + n2 ∧ n1 ≤ 100000000000000 ∧ n2 ≤ 100000000000000

theorem sum_take_succ (ts : List Nat) (i : Nat) (h : i < ts.length) : (ts.take (i + 1)).sum = (ts.take i).sum + ts.getD i 0 := by
  rw [List.take_succ_eq_append_getElem h, List.sum_append, List.getD_eq_getElem?_getD, List.getElem?_eq_getElem h]
  simp
theorem sum_take_le (ts : List Nat) (i : Nat) : (ts.take i).sum ≤ ts.sum := by
  have h := List.take_append_drop i ts
  have : ts.sum = (ts.take i).sum + (ts.drop i).sum := by rw [← List.sum_append, h]
  omega

set_option maxRecDepth 100000 in
set_option maxHeartbeats 1000000 in
theorem lawBig (w : World) (g cap : Nat) (ts : List Nat) (h : Lens w g ts) (hg : g < w.heap.size) (hL : ts.length ≤ 1000) :
    Calls Try.prog 17 #[.slice (some ⟨g, 0, none⟩) ts.length cap] w
      fun e w' => e = .returned (.bool (decide (16 < ts.sum))) ∧ Below w.heap.size w w' := by
  go_enter Try.func17, Try.ntmps17
  go_wp2
  go_loopw [3, 4] (fun n i wr => ∃ k : Nat, k ≤ ts.length ∧ i = .int .i64 (k : Int) ∧ n = .int .i64 (((ts.take k).sum : Nat) : Int) ∧ (ts.take k).sum ≤ 16 ∧ Below w.heap.size w wr) (fun _ i _ => ts.length - (intOf i).toNat)
  case atStart => exact ⟨0, Nat.zero_le _, rfl, rfl, by simp, Below.refl _ _⟩
  case round =>
    obtain ⟨k, hk, rfl, rfl, hs, hBw⟩ := hrel
    by_cases hlt : k < ts.length
    · obtain ⟨ao1, n1, c1, ao2, n2, c2, d1, d2, ht, hn1, hn2⟩ := h k hlt
      rw [← hBw.cell hg] at d1 d2
      have hst := Lib.hid (sum_take_succ ts k hlt)
      have hle := Lib.hid (sum_take_le ts (k + 1))
      have q0 : (0 : Int) ≤ (k : Int) := by omega
      have q1 : (k : Int) < (ts.length : Int) := by omega
      have q3 : IntKind.i64.wrap ((k : Int) + 1) = ((k + 1 : Nat) : Int) := by rw [IntWalk.i64_in _ (by omega)]; rfl
      generalize hS : (ts.take k).sum = s at *
      have q4 : IntKind.i64.wrap ((s : Int) + (n1 : Int)) = ((s + n1 : Nat) : Int) := by rw [IntWalk.i64_in _ (by omega)]; omega
      have q5 : IntKind.i64.wrap (((s + n1 : Nat) : Int) + (n2 : Int)) = ((s + n1 + n2 : Nat) : Int) := by rw [IntWalk.i64_in _ (by omega)]; omega
      have hN : Hid ((ts.take (k + 1)).sum = s + n1 + n2) := Lib.hid (by rw [hst.out, ht]; omega)
      clear hst ht hS
      by_cases hb : 16 < s + n1 + n2
      · have hr : Hid (decide (16 < ts.sum) = true) := Lib.hid (decide_eq_true (by have := hle.out; have := hN.out; omega))
        have q6 : (16 : Int) < ((s + n1 + n2 : Nat) : Int) := by omega
        go_wp2
        go_quiet (fail)
        go_wp2
        go_ret
        exact ⟨by rw [hr.out]; rfl, below_drewN hBw _⟩
      · have q6 : ¬ (16 : Int) < ((s + n1 + n2 : Nat) : Int) := by omega
        go_wp2
        go_quiet (fail)
        go_wp2
        go_roundw
        case rel => exact ⟨k + 1, by omega, by first | rfl | (simp; done), by rw [hN.out]; congr 1, by have := hN.out; omega, below_drewN hBw _⟩
        case measure => simp [intOf]; omega
    · have hr : Hid (decide (16 < ts.sum) = false) := Lib.hid (decide_eq_false (by
        rw [List.take_of_length_le (by omega)] at hs
        omega))
      have q1 : ¬ (k : Int) < (ts.length : Int) := by omega
      go_wp2
      go_ret
      exact ⟨by rw [hr.out]; rfl, hBw⟩

end Go.Proofs.Ytdojdghhbjjoeaa
