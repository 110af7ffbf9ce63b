/- Contracts of nat.Is, nat.trim: what they answer of any row of limbs. Condition: at most 10^12 limbs. -/
import Derived.Test.YtdojdghhbjjoeaaRows
import Derived.Test.YtdojdghhbjjoeaaBase
import Derived.WalkSpells
import Derived.WalkLawsBesides
namespace Go.Proofs.Ytdojdghhbjjoeaa
open Go.RowKit

def lenOf : Value → Nat | .slice _ n _ => n | _ => 0
def trB (xs : List Nat) : Bool := decide (xs.length = 0 ∨ xs.getD (xs.length - 1) 0 ≠ 0)

theorem ret_bool {a b : Bool} (h : a = b) : Ending.returned (.bool a) = .returned (.bool b) := by rw [h]
theorem ret_slice {ao : Option Addr} {n m c : Nat} (h : n = m) : Ending.returned (.slice ao n c) = .returned (.slice ao m c) := by rw [h]

theorem Nt.take {base : Nat} {w : World} {ao : Option Addr} {n cap : Nat} {xs : List Nat} (h : Nt base w (.slice ao n cap) xs) (k : Nat) (hk : k ≤ n) :
    Nt base w (.slice ao k cap) (xs.take k) := by
  obtain ⟨ao', cap', h1, h2, h3, h4, h5⟩ := h
  simp only [Value.slice.injEq] at h1
  obtain ⟨rfl, rfl, rfl⟩ := h1
  have hl : (xs.take k).length = k := by simp; omega
  refine ⟨ao, cap, by rw [hl], by omega, fun x hx => h3 x (List.mem_of_mem_take hx), h4, fun hp => ?_⟩
  obtain ⟨b, off, e, hc⟩ := h5 (by omega)
  refine ⟨b, off, e, fun i hi => ?_⟩
  rw [hc i (by omega)]
  simp only [List.getD_eq_getElem?_getD]
  rw [List.getElem?_take_of_lt (by omega)]

theorem Nt.len {base : Nat} {w : World} {ao : Option Addr} {n cap : Nat} {xs : List Nat} (h : Nt base w (.slice ao n cap) xs) : n = xs.length ∧ n ≤ cap := by
  obtain ⟨_, _, h1, h2, _⟩ := h
  simp only [Value.slice.injEq] at h1
  omega

set_option maxHeartbeats 400000 in
theorem natIs (w : World) (v : Value) (xs : List Nat) (base : Nat) (h : Nt base w v xs) (hL : xs.length ≤ 8000000000000) :
    Calls Try.prog 93 #[v] w fun e w' => e = .returned (.bool (trB xs)) ∧ w = w' := by
  rcases h.form with ⟨rfl, ao, cap, rfl⟩ | ⟨hp, b, off, cap, rfl, hcap, hb, hc⟩
  · go_enter Try.func93, Try.ntmps93
    go_wp2
    go_ret
    exact ⟨rfl, rfl⟩
  · have hc1 := hc (xs.length - 1) (by omega)
    clear hc
    generalize hx : xs.getD (xs.length - 1) 0 = x at *
    have H : Hid (trB xs = ((x : Int) != 0)) := by
      show trB xs = ((x : Int) != 0)
      unfold trB
      rw [hx]
      by_cases h0 : x = 0
      · subst h0
        have : ¬ xs = [] := fun e => by rw [e] at hp; simp at hp
        simp [this]
      · have : ((x : Int) != 0) = true := by simp; omega
        rw [this]; simp; omega
    have hx' := Lib.hid hx
    clear hx
    generalize hn : xs.length = n at *
    have hn' := Lib.hid hn
    clear hn
    have hz : ((n : Int) == 0) = false := by simp; omega
    go_enter Try.func93, Try.ntmps93
    go_wp2
    go_ret
    exact ⟨ret_bool H.out.symm, rfl⟩

theorem trB_true {xs : List Nat} {k : Nat} (hk : k ≤ xs.length) (h : trB (xs.take k) = true) : k = 0 ∨ xs.getD (k - 1) 0 ≠ 0 := by
  unfold trB at h
  have hl : (xs.take k).length = k := by simp; omega
  rw [hl] at h
  have h' := of_decide_eq_true h
  rcases h' with h' | h'
  · exact .inl h'
  · refine .inr ?_
    by_cases h0 : k = 0
    · subst h0; simp at h'
    · rwa [List.getD_eq_getElem?_getD, List.getElem?_take_of_lt (by omega), ← List.getD_eq_getElem?_getD] at h'

theorem trB_false {xs : List Nat} {k : Nat} (hk : k ≤ xs.length) (h : trB (xs.take k) = false) : 0 < k ∧ xs.getD (k - 1) 0 = 0 := by
  unfold trB at h
  have hl : (xs.take k).length = k := by simp; omega
  rw [hl] at h
  have h' := of_decide_eq_false h
  have h0 : 0 < k := by omega
  refine ⟨h0, ?_⟩
  have h2 : (xs.take k).getD (k - 1) 0 = 0 := by omega
  rwa [List.getD_eq_getElem?_getD, List.getElem?_take_of_lt (by omega), ← List.getD_eq_getElem?_getD] at h2

set_option maxHeartbeats 400000 in
theorem natTrim0 (w : World) (ao : Option Addr) (n cap : Nat) (xs : List Nat) (base : Nat) (h : Nt base w (.slice ao n cap) xs) (hL : n ≤ 8000000000000) :
    Calls Try.prog 103 #[.slice ao n cap] w fun e w' => e = .returned (.slice ao (limbs (val xs)).length cap) ∧ w = w' := by
  have hcap : n ≤ cap := h.len.2
  have hN := Lib.hid h.len.1
  have hX := Lib.hid h.lt
  go_enter Try.func103, Try.ntmps103
  go_wp2
  go_loop [0] (fun v => ∃ k : Nat, k ≤ n ∧ val (xs.take k) = val xs ∧ v = .slice ao k cap) (fun v => lenOf v)
  case atStart => exact ⟨n, Nat.le_refl _, by rw [hN.out, List.take_length], rfl⟩
  case round =>
    obtain ⟨k, hk, hv, rfl⟩ := hrel
    have hV := Lib.hid hv; clear hv
    have hk1 : (k : Int) ≤ 8000000000000 := by omega
    have hlen : (xs.take k).length ≤ 8000000000000 := by simp; omega
    cases htr : trB (xs.take k) with
    | true =>
      have hT := Lib.hid (trB_true (by have := hN.out; omega) htr)
      have hfin := Lib.hid (take_limbs (by have := hN.out; omega) hX.out hV.out hT.out)
      go_wp2_with (go_at_call 93; refine (natIs _ _ (xs.take k) base (h.take k hk) hlen).mono ?_; rintro e w' ⟨rfl, rfl⟩)
      go_ret
      exact ⟨ret_slice (by have := hfin.out; have e := congrArg List.length this; rw [← e]; have := hN.out; simp; omega), rfl⟩
    | false =>
      obtain ⟨h0, h1⟩ := trB_false (xs := xs) (k := k) (by have := hN.out; omega) htr
      have hfin := Lib.hid h1; clear h1
      go_wp2_with (go_at_call 93; refine (natIs _ _ (xs.take k) base (h.take k hk) hlen).mono ?_; rintro e w' ⟨rfl, rfl⟩)
      go_round
      case rel =>
        refine ⟨k - 1, by omega, ?_, by go_num⟩
        have := hN.out
        exact val_take_zero (by omega) hfin.out (by rw [show k - 1 + 1 = k from by omega]; exact hV.out)
      case measure => simp [lenOf]; omega

/-- nat.trim at a row whose number is known as S -/
theorem natTrim (w : World) (ao : Option Addr) (n cap : Nat) (xs : List Nat) (base S : Nat) (h : Nt base w (.slice ao n cap) xs) (hL : n ≤ 8000000000000) (hS : val xs = S) :
    Calls Try.prog 103 #[.slice ao n cap] w fun e w' => e = .returned (.slice ao (limbs S).length cap) ∧ w = w' := by
  subst hS
  exact natTrim0 w ao n cap xs base h hL

end Go.Proofs.Ytdojdghhbjjoeaa
