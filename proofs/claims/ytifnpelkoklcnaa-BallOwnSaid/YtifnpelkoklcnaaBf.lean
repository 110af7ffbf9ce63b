/- vernierlaw5: wide; vernierlaw4: big, wide; by the abstract walk. Conditions: numbers of at most 10^14 limbs. -/
import Derived.Test.YtifnpelkoklcnaaBd
import Derived.Test.YtifnpelkoklcnaaBb
namespace Go.Proofs.Ytifnpelkoklcnaa
open Go.RowKit
set_option linter.unusedSimpArgs false
set_option linter.unusedVariables false

def wideB (b : BB) : Bool := (bigR b.lo || bigR b.hi) || !isB b

def d_law5_wide : Den := den1 aBalls (fun l => l.length ≤ 1000 ∧ ∀ r ∈ l, r.sz ≤ 100000000000000) fun l => boolV (l.any wideB)
def d_law4_big : Den := den1 aRats (fun l => l.length ≤ 1000 ∧ ∀ r ∈ l, r.sz ≤ 100000000000000) fun l => boolV (l.any bigR)
set_option maxRecDepth 100000 in
set_option maxHeartbeats 1000000 in
theorem s_law4_big : Sound Try.prog 12 d_law4_big := by
  refine sound1 (fz := nofz) (l := []) TT_ok trivial mixed Try.func12 Try.ntmps12 Try.results12 Try.call12 rfl (by omega) (fun _ => rfl) ?_
  intro a hp ha
  rw [codeK_start]
  simp only [go_sem, Nat.reduceBEq, Nat.reduceBNe, Nat.reduceLT, Nat.reduceLeDiff, Nat.reduceAdd, Nat.reduceSub, Nat.reduceMul, Nat.reduceEqDiff, Int.reduceNeg, Int.reduceAdd, Int.reduceLT, Int.reduceLE, Int.reduceToNat, ↓reduceIte]
  refine codeK_loop (fun i : { i : Nat // i ≤ a.length ∧ (a.take i).any bigR = false } => [(3, 0, .av (intV (i.1 : Nat))), (2, 0, .av (boolV false)), (0, 0, .av (ratsV a))]) (fun i => a.length - i.1) ⟨0, by omega, by simp⟩ (le_of ?_) ?_
  · simp only [go_sem, leL, Nat.reduceBEq, Nat.reduceBNe, Nat.reduceLT, Nat.reduceLeDiff, Nat.reduceAdd, Nat.reduceSub, Nat.reduceMul, Nat.reduceEqDiff, Int.reduceNeg, Int.reduceAdd, Int.reduceLT, Int.reduceLE, Int.reduceToNat, ↓reduceIte, Int.ofNat_zero, Int.natCast_zero, Int.cast_ofNat_Int]
  · rintro ⟨i, hi0, hs0⟩
    by_cases hi : i < a.length
    · have hm := hp.2 _ (getD_mem (d := rr0) hi)
      have hst : (a.take (i + 1)).any bigR = bigR (a.getD i rr0) := by
        rw [List.take_succ_eq_append_getElem hi, List.any_append, hs0, List.getD_eq_getElem?_getD, List.getElem?_eq_getElem hi]
        simp
      simp only [go_sem, getD_rats hi, Int.ofNat_lt, hi, Nat.reduceBEq, Nat.reduceBNe, Nat.reduceLT, Nat.reduceLeDiff, Nat.reduceAdd, Nat.reduceSub, Nat.reduceMul, Nat.reduceEqDiff, Int.reduceNeg, Int.reduceAdd, Int.reduceLT, Int.reduceLE, Int.reduceToNat, ↓reduceIte]
      have hall : bigR (a.getD i rr0) = true → a.any bigR = true := fun h => List.any_eq_true.2 ⟨_, getD_mem hi, h⟩
      split
      · rename_i h1
        have h1 : ¬ (3 < ((a.getD i rr0).n.length : Int)) := of_decide_eq_false h1
        split
        · rename_i h2
          refine (hall ?_).symm
          unfold bigR
          rw [Bool.or_eq_true]
          exact .inr (decide_eq_true (by omega))
        · rename_i h2
          have hb : bigR (a.getD i rr0) = false := by
            unfold bigR
            rw [Bool.or_eq_false_iff]
            exact ⟨decide_eq_false (by omega), decide_eq_false (by omega)⟩
          refine ⟨⟨by omega, by omega⟩, ⟨⟨i + 1, by omega, by rw [hst]; exact hb⟩, by show _ < _; simp only []; omega, le_of ?_⟩⟩
          simp only [go_sem, leL, Nat.reduceBEq, Nat.reduceBNe, Nat.reduceLT, Nat.reduceLeDiff, Nat.reduceAdd, Nat.reduceSub, Nat.reduceMul, Nat.reduceEqDiff, Int.reduceNeg, Int.reduceAdd, Int.reduceLT, Int.reduceLE, Int.reduceToNat, ↓reduceIte]
          omega
      · rename_i h1
        have h1 : 3 < ((a.getD i rr0).n.length : Int) := by
          rcases Classical.em (3 < ((a.getD i rr0).n.length : Int)) with h | h
          · exact h
          · exact absurd (decide_eq_false h) h1
        refine (hall ?_).symm
        unfold bigR
        rw [Bool.or_eq_true]
        exact .inl (decide_eq_true (by omega))
    · simp only [go_sem, Int.ofNat_lt, hi, Nat.reduceBEq, Nat.reduceBNe, Nat.reduceLT, Nat.reduceLeDiff, Nat.reduceAdd, Nat.reduceSub, Nat.reduceMul, Nat.reduceEqDiff, Int.reduceNeg, Int.reduceAdd, Int.reduceLT, Int.reduceLE, Int.reduceToNat, ↓reduceIte]
      have e : i = a.length := by omega
      subst e
      rw [List.take_length] at hs0
      exact hs0.symm

def d_law4_wide : Den := den1 aBalls (fun l => l.length ≤ 1000 ∧ ∀ r ∈ l, r.sz ≤ 100000000000000) fun l => boolV (l.any wideB)
theorem can_of {a b : RR} (h : oneB a b = true) : a = b := by
  unfold oneB at h
  simp only [Bool.and_eq_true, beq_iff_eq, decide_eq_true_eq] at h
  cases a; cases b
  simp only [RR.mk.injEq]
  exact h
theorem wide_facts {b : BB} (h : wideB b = false) : b.lo.sz ≤ 3 ∧ b.hi.sz ≤ 3 ∧ b.lo = cr b.lo.q ∧ b.hi = cr b.hi.q ∧ b.lo.q ≤ b.hi.q ∧ isB b = true := by
  unfold wideB at h
  simp only [Bool.or_eq_false_iff, Bool.not_eq_false'] at h
  have hb := h.2
  unfold isB at hb
  simp only [Bool.and_eq_true, decide_eq_true_eq] at hb
  exact ⟨not_big h.1.1, not_big h.1.2, can_of hb.1, can_of hb.2.1, hb.2.2, h.2⟩
theorem sameB_self (b : BB) : sameB b b = true := by unfold sameB; simp


end Go.Proofs.Ytifnpelkoklcnaa
