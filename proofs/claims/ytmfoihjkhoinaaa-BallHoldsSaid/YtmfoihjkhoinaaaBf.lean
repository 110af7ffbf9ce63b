/- vernierlaw5: wide; vernierlaw4: big, wide; by the abstract walk. Conditions: numbers of at most 10^14 limbs. -/
import Derived.Test.YtmfoihjkhoinaaaBd
import Derived.Test.YtmfoihjkhoinaaaBb
namespace Go.Proofs.Ytmfoihjkhoinaaa
open Go.RowKit
set_option linter.unusedSimpArgs false
set_option linter.unusedVariables false

def wideB (b : BB) : Bool := (bigR b.lo || bigR b.hi) || !isB b

def d_law5_wide : Den := den1 aBalls (fun l => l.length ≤ 1000 ∧ ∀ r ∈ l, r.sz ≤ 100000000000000) fun l => boolV (l.any wideB)
set_option maxRecDepth 100000 in
set_option maxHeartbeats 1000000 in
theorem s_law5_wide : Sound Try.prog 74 d_law5_wide := by
  refine sound1 (fz := nofz) (l := [(37, d_law5_big), (115, d_ref4_Is)]) TT_ok ⟨s_law5_big, s_ref4_Is, trivial⟩ mixed Try.func74 Try.ntmps74 Try.results74 Try.call74 rfl (by omega) (fun _ => rfl) ?_
  intro a hp ha
  rw [codeK_start]
  simp only [go_sem, d_law5_big, d_ref4_Is, Nat.reduceBEq, Nat.reduceBNe, Nat.reduceLT, Nat.reduceLeDiff, Nat.reduceAdd, Nat.reduceSub, Nat.reduceMul, Nat.reduceEqDiff, Int.reduceNeg, Int.reduceAdd, Int.reduceLT, Int.reduceLE, Int.reduceToNat, ↓reduceIte]
  refine codeK_loop (fun i : { i : Nat // i ≤ a.length ∧ (a.take i).any wideB = false } => [(3, 0, .av (intV (i.1 : Nat))), (2, 0, .av (boolV false)), (0, 0, .av (rowV celBall a))]) (fun i => a.length - i.1) ⟨0, by omega, by simp⟩ (le_of ?_) ?_
  · simp only [go_sem, leL, Nat.reduceBEq, Nat.reduceBNe, Nat.reduceLT, Nat.reduceLeDiff, Nat.reduceAdd, Nat.reduceSub, Nat.reduceMul, Nat.reduceEqDiff, Int.reduceNeg, Int.reduceAdd, Int.reduceLT, Int.reduceLE, Int.reduceToNat, ↓reduceIte, Int.ofNat_zero, Int.natCast_zero, Int.cast_ofNat_Int]
  · rintro ⟨i, hi0, hs0⟩
    by_cases hi : i < a.length
    · have hm := hp.2 _ (getD_mem (d := bb0) hi)
      have hv := ha _ (getD_mem (d := bb0) hi)
      have hst : (a.take (i + 1)).any wideB = wideB (a.getD i bb0) := by
        rw [List.take_succ_eq_append_getElem hi, List.any_append, hs0, List.getD_eq_getElem?_getD, List.getElem?_eq_getElem hi]
        simp
      have hall : wideB (a.getD i bb0) = true → a.any wideB = true := fun h => List.any_eq_true.2 ⟨_, getD_mem hi, h⟩
      generalize hg : a.getD i bb0 = g at *
      have lm := BB.lens hm
      simp only [go_sem, d_law5_big, d_ref4_Is, getD_balls hi, hg, Int.ofNat_lt, hi, Nat.reduceBEq, Nat.reduceBNe, Nat.reduceLT, Nat.reduceLeDiff, Nat.reduceAdd, Nat.reduceSub, Nat.reduceMul, Nat.reduceEqDiff, Int.reduceNeg, Int.reduceAdd, Int.reduceLT, Int.reduceLE, Int.reduceToNat, ↓reduceIte]
      refine ⟨all2 lm.1 lm.2, ?_⟩
      split
      · rename_i h1
        have h0 := Bool.or_eq_false_iff.1 h1
        have sz : g.sz ≤ 3 := Nat.max_le.2 ⟨not_big h0.1, not_big h0.2⟩
        refine ⟨by omega, by kernel_rfl, ?_⟩
        split
        · rename_i h2
          exact (hall (by unfold wideB; rw [h2, Bool.or_true])).symm
        · rename_i h2
          have h2 : (!isB g) = false := by simpa using h2
          have hw : wideB g = false := by unfold wideB; rw [h1, h2]; rfl
          refine ⟨⟨by omega, by omega⟩, ⟨⟨i + 1, by omega, by rw [hst]; exact hw⟩, by show a.length - (i + 1) < a.length - i; omega, le_of ?_⟩⟩
          simp only [go_sem, leL, Nat.reduceBEq, Nat.reduceBNe, Nat.reduceLT, Nat.reduceLeDiff, Nat.reduceAdd, Nat.reduceSub, Nat.reduceMul, Nat.reduceEqDiff, Int.reduceNeg, Int.reduceAdd, Int.reduceLT, Int.reduceLE, Int.reduceToNat, ↓reduceIte]
          omega
      · rename_i h1
        rw [Bool.not_eq_false] at h1
        exact ⟨by kernel_rfl, (hall (by unfold wideB; rw [h1, Bool.true_or])).symm⟩
    · simp only [go_sem, d_law5_big, d_ref4_Is, Int.ofNat_lt, hi, Nat.reduceBEq, Nat.reduceBNe, Nat.reduceLT, Nat.reduceLeDiff, Nat.reduceAdd, Nat.reduceSub, Nat.reduceMul, Nat.reduceEqDiff, Int.reduceNeg, Int.reduceAdd, Int.reduceLT, Int.reduceLE, Int.reduceToNat, ↓reduceIte]
      have e : i = a.length := by omega
      subst e
      rw [List.take_length] at hs0
      exact hs0.symm

def d_law4_big : Den := den1 aRats (fun l => l.length ≤ 1000 ∧ ∀ r ∈ l, r.sz ≤ 100000000000000) fun l => boolV (l.any bigR)
set_option maxRecDepth 100000 in
set_option maxHeartbeats 1000000 in
theorem s_law4_big : Sound Try.prog 83 d_law4_big := by
  refine sound1 (fz := nofz) (l := []) TT_ok trivial mixed Try.func83 Try.ntmps83 Try.results83 Try.call83 rfl (by omega) (fun _ => rfl) ?_
  intro a hp ha
  rw [codeK_start]
  simp only [go_sem, Nat.reduceBEq, Nat.reduceBNe, Nat.reduceLT, Nat.reduceLeDiff, Nat.reduceAdd, Nat.reduceSub, Nat.reduceMul, Nat.reduceEqDiff, Int.reduceNeg, Int.reduceAdd, Int.reduceLT, Int.reduceLE, Int.reduceToNat, ↓reduceIte]
  refine codeK_loop (fun i : { i : Nat // i ≤ a.length ∧ (a.take i).any bigR = false } => [(3, 0, .av (intV (i.1 : Nat))), (2, 0, .av (boolV false)), (0, 0, .av (ratsV a))]) (fun i => a.length - i.1) ⟨0, by omega, by simp⟩ (le_of ?_) ?_
  · simp only [go_sem, leL, Nat.reduceBEq, Nat.reduceBNe, Nat.reduceLT, Nat.reduceLeDiff, Nat.reduceAdd, Nat.reduceSub, Nat.reduceMul, Nat.reduceEqDiff, Int.reduceNeg, Int.reduceAdd, Int.reduceLT, Int.reduceLE, Int.reduceToNat, ↓reduceIte, Int.ofNat_zero, Int.natCast_zero, Int.cast_ofNat_Int]
  · rintro ⟨i, hi0, hs0⟩
    by_cases hi : i < a.length
    · have hm := hp.2 _ (getD_mem (d := rr0) hi)
      have hst : (a.take (i + 1)).any bigR = bigR (a.getD i rr0) := by
        rw [List.take_succ_eq_append_getElem hi, List.any_append, hs0, List.getD_eq_getElem?_getD, List.getElem?_eq_getElem hi]
        simp
      simp only [go_sem, getD_rats hi, Int.ofNat_lt, hi, Nat.reduceBEq, Nat.reduceBNe, Nat.reduceLT, Nat.reduceLeDiff, Nat.reduceAdd, Nat.reduceSub, Nat.reduceMul, Nat.reduceEqDiff, Int.reduceNeg, Int.reduceAdd, Int.reduceLT, Int.reduceLE, Int.reduceToNat, ↓reduceIte]
      have hall : bigR (a.getD i rr0) = true → a.any bigR = true := fun h => List.any_eq_true.2 ⟨_, getD_mem hi, h⟩
      split
      · rename_i h1
        have h1 : ¬ (3 < ((a.getD i rr0).n.length : Int)) := of_decide_eq_false h1
        split
        · rename_i h2
          refine (hall ?_).symm
          unfold bigR
          rw [Bool.or_eq_true]
          exact .inr (decide_eq_true (by omega))
        · rename_i h2
          have hb : bigR (a.getD i rr0) = false := by
            unfold bigR
            rw [Bool.or_eq_false_iff]
            exact ⟨decide_eq_false (by omega), decide_eq_false (by omega)⟩
          refine ⟨⟨by omega, by omega⟩, ⟨⟨i + 1, by omega, by rw [hst]; exact hb⟩, by show _ < _; simp only []; omega, le_of ?_⟩⟩
          simp only [go_sem, leL, Nat.reduceBEq, Nat.reduceBNe, Nat.reduceLT, Nat.reduceLeDiff, Nat.reduceAdd, Nat.reduceSub, Nat.reduceMul, Nat.reduceEqDiff, Int.reduceNeg, Int.reduceAdd, Int.reduceLT, Int.reduceLE, Int.reduceToNat, ↓reduceIte]
          omega
      · rename_i h1
        have h1 : 3 < ((a.getD i rr0).n.length : Int) := by
          rcases Classical.em (3 < ((a.getD i rr0).n.length : Int)) with h | h
          · exact h
          · exact absurd (decide_eq_false h) h1
        refine (hall ?_).symm
        unfold bigR
        rw [Bool.or_eq_true]
        exact .inl (decide_eq_true (by omega))
    · simp only [go_sem, Int.ofNat_lt, hi, Nat.reduceBEq, Nat.reduceBNe, Nat.reduceLT, Nat.reduceLeDiff, Nat.reduceAdd, Nat.reduceSub, Nat.reduceMul, Nat.reduceEqDiff, Int.reduceNeg, Int.reduceAdd, Int.reduceLT, Int.reduceLE, Int.reduceToNat, ↓reduceIte]
      have e : i = a.length := by omega
      subst e
      rw [List.take_length] at hs0
      exact hs0.symm

def d_law4_wide : Den := den1 aBalls (fun l => l.length ≤ 1000 ∧ ∀ r ∈ l, r.sz ≤ 100000000000000) fun l => boolV (l.any wideB)
set_option maxRecDepth 100000 in
set_option maxHeartbeats 1000000 in
theorem s_law4_wide : Sound Try.prog 88 d_law4_wide := by
  refine sound1 (fz := nofz) (l := [(83, d_law4_big), (115, d_ref4_Is)]) TT_ok ⟨s_law4_big, s_ref4_Is, trivial⟩ mixed Try.func88 Try.ntmps88 Try.results88 Try.call88 rfl (by omega) (fun _ => rfl) ?_
  intro a hp ha
  rw [codeK_start]
  simp only [go_sem, d_law4_big, d_ref4_Is, Nat.reduceBEq, Nat.reduceBNe, Nat.reduceLT, Nat.reduceLeDiff, Nat.reduceAdd, Nat.reduceSub, Nat.reduceMul, Nat.reduceEqDiff, Int.reduceNeg, Int.reduceAdd, Int.reduceLT, Int.reduceLE, Int.reduceToNat, ↓reduceIte]
  refine codeK_loop (fun i : { i : Nat // i ≤ a.length ∧ (a.take i).any wideB = false } => [(3, 0, .av (intV (i.1 : Nat))), (2, 0, .av (boolV false)), (0, 0, .av (rowV celBall a))]) (fun i => a.length - i.1) ⟨0, by omega, by simp⟩ (le_of ?_) ?_
  · simp only [go_sem, leL, Nat.reduceBEq, Nat.reduceBNe, Nat.reduceLT, Nat.reduceLeDiff, Nat.reduceAdd, Nat.reduceSub, Nat.reduceMul, Nat.reduceEqDiff, Int.reduceNeg, Int.reduceAdd, Int.reduceLT, Int.reduceLE, Int.reduceToNat, ↓reduceIte, Int.ofNat_zero, Int.natCast_zero, Int.cast_ofNat_Int]
  · rintro ⟨i, hi0, hs0⟩
    by_cases hi : i < a.length
    · have hm := hp.2 _ (getD_mem (d := bb0) hi)
      have hv := ha _ (getD_mem (d := bb0) hi)
      have hst : (a.take (i + 1)).any wideB = wideB (a.getD i bb0) := by
        rw [List.take_succ_eq_append_getElem hi, List.any_append, hs0, List.getD_eq_getElem?_getD, List.getElem?_eq_getElem hi]
        simp
      have hall : wideB (a.getD i bb0) = true → a.any wideB = true := fun h => List.any_eq_true.2 ⟨_, getD_mem hi, h⟩
      generalize hg : a.getD i bb0 = g at *
      have lm := BB.lens hm
      simp only [go_sem, d_law4_big, d_ref4_Is, getD_balls hi, hg, Int.ofNat_lt, hi, Nat.reduceBEq, Nat.reduceBNe, Nat.reduceLT, Nat.reduceLeDiff, Nat.reduceAdd, Nat.reduceSub, Nat.reduceMul, Nat.reduceEqDiff, Int.reduceNeg, Int.reduceAdd, Int.reduceLT, Int.reduceLE, Int.reduceToNat, ↓reduceIte]
      refine ⟨all2 lm.1 lm.2, ?_⟩
      split
      · rename_i h1
        have h0 := Bool.or_eq_false_iff.1 h1
        have sz : g.sz ≤ 3 := Nat.max_le.2 ⟨not_big h0.1, not_big h0.2⟩
        refine ⟨by omega, by kernel_rfl, ?_⟩
        split
        · rename_i h2
          exact (hall (by unfold wideB; rw [h2, Bool.or_true])).symm
        · rename_i h2
          have h2 : (!isB g) = false := by simpa using h2
          have hw : wideB g = false := by unfold wideB; rw [h1, h2]; rfl
          refine ⟨⟨by omega, by omega⟩, ⟨⟨i + 1, by omega, by rw [hst]; exact hw⟩, by show a.length - (i + 1) < a.length - i; omega, le_of ?_⟩⟩
          simp only [go_sem, leL, Nat.reduceBEq, Nat.reduceBNe, Nat.reduceLT, Nat.reduceLeDiff, Nat.reduceAdd, Nat.reduceSub, Nat.reduceMul, Nat.reduceEqDiff, Int.reduceNeg, Int.reduceAdd, Int.reduceLT, Int.reduceLE, Int.reduceToNat, ↓reduceIte]
          omega
      · rename_i h1
        rw [Bool.not_eq_false] at h1
        exact ⟨by kernel_rfl, (hall (by unfold wideB; rw [h1, Bool.true_or])).symm⟩
    · simp only [go_sem, d_law4_big, d_ref4_Is, Int.ofNat_lt, hi, Nat.reduceBEq, Nat.reduceBNe, Nat.reduceLT, Nat.reduceLeDiff, Nat.reduceAdd, Nat.reduceSub, Nat.reduceMul, Nat.reduceEqDiff, Int.reduceNeg, Int.reduceAdd, Int.reduceLT, Int.reduceLE, Int.reduceToNat, ↓reduceIte]
      have e : i = a.length := by omega
      subst e
      rw [List.take_length] at hs0
      exact hs0.symm

theorem can_of {a b : RR} (h : oneB a b = true) : a = b := by
  unfold oneB at h
  simp only [Bool.and_eq_true, beq_iff_eq, decide_eq_true_eq] at h
  cases a; cases b
  simp only [RR.mk.injEq]
  exact h
theorem wide_facts {b : BB} (h : wideB b = false) : b.lo.sz ≤ 3 ∧ b.hi.sz ≤ 3 ∧ b.lo = cr b.lo.q ∧ b.hi = cr b.hi.q ∧ b.lo.q ≤ b.hi.q ∧ isB b = true := by
  unfold wideB at h
  simp only [Bool.or_eq_false_iff, Bool.not_eq_false'] at h
  have hb := h.2
  unfold isB at hb
  simp only [Bool.and_eq_true, decide_eq_true_eq] at hb
  exact ⟨not_big h.1.1, not_big h.1.2, can_of hb.1, can_of hb.2.1, hb.2.2, h.2⟩
theorem sameB_self (b : BB) : sameB b b = true := by unfold sameB; simp


end Go.Proofs.Ytmfoihjkhoinaaa
