/- vernierref2.Rats; vernierref18: Ranks, Pairs, Kendall, Spearman, by the abstract walk. Conditions: rows of at most 1000 numbers of at most 1000 limbs. -/
import Derived.Test.YtifnpelkoklcnaaDb
namespace Go.Proofs.Ytifnpelkoklcnaa
open Go.RowKit
set_option linter.unusedSimpArgs false
set_option linter.unusedVariables false

def sameTo (a b : List RR) (n : Nat) : Bool := (List.range n).all fun i => decide (atQ a i = atQ b i)
def sameL (a b : List RR) : Bool := decide (a.length = b.length) && sameTo a b a.length
theorem sameTo_next (a b : List RR) (n : Nat) : sameTo a b (n + 1) = (sameTo a b n && decide (atQ a n = atQ b n)) := by unfold sameTo; rw [List.range_succ, List.all_append]; simp
theorem sameTo_not {a b : List RR} {i n : Nat} (h : i < n) (hne : ¬ atQ a i = atQ b i) : sameTo a b n = false := by
  unfold sameTo
  rw [List.all_eq_false]
  exact ⟨i, List.mem_range.2 h, by simpa using hne⟩
theorem sameL_self (a : List RR) : sameL a a = true := by unfold sameL sameTo; simp
theorem sameL_of {a b : List RR} (h : a.length = b.length) (h2 : ∀ i, i < a.length → atQ a i = atQ b i) : sameL a b = true := by
  unfold sameL sameTo
  rw [Bool.and_eq_true]
  exact ⟨decide_eq_true h, List.all_eq_true.2 fun i hi => decide_eq_true (h2 i (List.mem_range.1 hi))⟩

def d_ref2_Rats : Den := den2 aRats aRats (fun a b => (a.length ≤ 1000 ∧ ∀ r ∈ a, r.sz ≤ 10000000) ∧ b.length ≤ 1000 ∧ ∀ r ∈ b, r.sz ≤ 10000000) fun a b => boolV (sameL a b)
set_option maxRecDepth 100000 in
set_option maxHeartbeats 1000000 in
theorem s_ref2_Rats : Sound Try.prog 57 d_ref2_Rats := by
  refine sound2 (fz := nofz) (l := [(48, d_ref2_Same)]) TT_ok ⟨s_ref2_Same, trivial⟩ mixed Try.func57 Try.ntmps57 Try.results57 Try.call57 rfl (by omega) (fun _ _ => rfl) ?_
  intro a b hp ha hb
  rw [codeK_start]
  by_cases hl : a.length = b.length
  · have hlt : (((a.length : Nat) : Int) = b.length) = True := eq_true (by omega)
    have hla := hp.1.1
    simp only [go_sem, d_ref2_Same, Int.ofNat_lt, decide_true, decide_false, Bool.not_true, Bool.not_false, hlt, Nat.reduceBEq, Nat.reduceBNe, Nat.reduceLT, Nat.reduceLeDiff, Nat.reduceAdd, Nat.reduceSub, Nat.reduceMul, Nat.reduceEqDiff, Int.reduceNeg, Int.reduceAdd, Int.reduceLT, Int.reduceLE, Int.reduceToNat, ↓reduceIte]
    refine codeK_loop (fun i : { i : Nat // i ≤ a.length ∧ sameTo a b i = true } => [(5, 0, .av (intV ((i.1 : Nat)))), (0, 0, .av (ratsV a)), (1, 0, .av (ratsV b))]) (fun i => a.length - i.1) ⟨0, by omega, rfl⟩ (le_of ?_) ?_
    · simp only [go_sem, leL, Nat.reduceBEq, Nat.reduceBNe, Nat.reduceLT, Nat.reduceLeDiff, Nat.reduceAdd, Nat.reduceSub, Nat.reduceMul, Nat.reduceEqDiff, Int.reduceNeg, Int.reduceAdd, Int.reduceLT, Int.reduceLE, Int.reduceToNat, ↓reduceIte, Int.ofNat_zero, Int.natCast_zero, Int.cast_ofNat_Int]
    · rintro ⟨i, hi0, hs⟩
      by_cases hi : i < a.length
      · have hi2 : i < b.length := by omega
        have hm := hp.1.2 _ (getD_mem (d := rr0) hi)
        have hm2 := hp.2.2 _ (getD_mem (d := rr0) hi2)
        by_cases c : (a.getD i rr0).q = (b.getD i rr0).q
        · have hn : sameTo a b (i + 1) = true := by rw [sameTo_next, hs]; exact decide_eq_true c
          simp only [go_sem, d_ref2_Same, Int.ofNat_lt, decide_true, decide_false, Bool.not_true, Bool.not_false, hlt, getD_rats hi, getD_ratsI hi, hi, getD_rats hi2, getD_ratsI hi2, hi2, c, Nat.reduceBEq, Nat.reduceBNe, Nat.reduceLT, Nat.reduceLeDiff, Nat.reduceAdd, Nat.reduceSub, Nat.reduceMul, Nat.reduceEqDiff, Int.reduceNeg, Int.reduceAdd, Int.reduceLT, Int.reduceLE, Int.reduceToNat, ↓reduceIte]
          ((try and_intros) <;> first | exact trivial | omega | (show okDraw _ _ = true; kernel_rfl) | (show ∃ _, _; exact ⟨⟨i + 1, by omega, hn⟩, by show a.length - (i + 1) < a.length - i; omega, le_of (by simp only [go_sem, leL, Nat.reduceBEq, Nat.reduceBNe, Nat.reduceLT, Nat.reduceLeDiff, Nat.reduceAdd, Nat.reduceSub, Nat.reduceMul, Nat.reduceEqDiff, Int.reduceNeg, Int.reduceAdd, Int.reduceLT, Int.reduceLE, Int.reduceToNat, ↓reduceIte]; omega)⟩))
        · have hn : sameL a b = false := by unfold sameL; rw [sameTo_not hi c, Bool.and_false]
          simp only [go_sem, d_ref2_Same, Int.ofNat_lt, decide_true, decide_false, Bool.not_true, Bool.not_false, hlt, getD_rats hi, getD_ratsI hi, hi, getD_rats hi2, getD_ratsI hi2, hi2, c, Nat.reduceBEq, Nat.reduceBNe, Nat.reduceLT, Nat.reduceLeDiff, Nat.reduceAdd, Nat.reduceSub, Nat.reduceMul, Nat.reduceEqDiff, Int.reduceNeg, Int.reduceAdd, Int.reduceLT, Int.reduceLE, Int.reduceToNat, ↓reduceIte]
          ((try and_intros) <;> first | exact trivial | omega | (show okDraw _ _ = true; kernel_rfl) | exact hn.symm | rw [hn])
      · simp only [go_sem, d_ref2_Same, Int.ofNat_lt, decide_true, decide_false, Bool.not_true, Bool.not_false, hlt, hi, Nat.reduceBEq, Nat.reduceBNe, Nat.reduceLT, Nat.reduceLeDiff, Nat.reduceAdd, Nat.reduceSub, Nat.reduceMul, Nat.reduceEqDiff, Int.reduceNeg, Int.reduceAdd, Int.reduceLT, Int.reduceLE, Int.reduceToNat, ↓reduceIte]
        have e : i = a.length := by omega
        subst e
        unfold sameL
        rw [hs, decide_eq_true hl]
        rfl
  · have hlt : (((a.length : Nat) : Int) = b.length) = False := eq_false (by omega)
    have hn : sameL a b = false := by unfold sameL; rw [decide_eq_false hl, Bool.false_and]
    simp only [go_sem, d_ref2_Same, Int.ofNat_lt, decide_true, decide_false, Bool.not_true, Bool.not_false, hlt, Nat.reduceBEq, Nat.reduceBNe, Nat.reduceLT, Nat.reduceLeDiff, Nat.reduceAdd, Nat.reduceSub, Nat.reduceMul, Nat.reduceEqDiff, Int.reduceNeg, Int.reduceAdd, Int.reduceLT, Int.reduceLE, Int.reduceToNat, ↓reduceIte]
    first | exact hn.symm | rw [hn] | exact trivial

def dl (i j : Nat) : Int := if i < j then 1 else 0
theorem dl_zero (i : Nat) : dl i 0 = 0 := rfl
theorem dl_next {i j : Nat} (h : ¬ j = i) : dl i (j + 1) = dl i j := by
  unfold dl
  by_cases h1 : i < j
  · rw [if_pos h1, if_pos (by omega)]
  · rw [if_neg h1, if_neg (by omega)]
theorem dl_self (i : Nat) : dl i (i + 1) = 1 ∧ dl i i = 0 := by unfold dl; exact ⟨if_pos (by omega), if_neg (by omega)⟩
theorem dl_bd (i j : Nat) : 0 ≤ dl i j ∧ dl i j ≤ 1 := by unfold dl; split <;> omega
theorem dl_end {i j : Nat} (h : i < j) : dl i j = 1 := if_pos h
def fz_ref18_Ranks : Nat → List Nat
  | 32 => [1003]
  | _ => []

def d_ref18_Ranks : Den := den1 aRats (fun a => a.length ≤ 1000 ∧ ∀ r ∈ a, r.sz ≤ 1000) fun a => ratsV (ranksL a)
def d_ref18_Pairs : Den := den2 aRats aRats (fun a b => (a.length ≤ 1000 ∧ ∀ r ∈ a, r.sz ≤ 1000) ∧ b.length ≤ 1000 ∧ ∀ r ∈ b, r.sz ≤ 1000) fun a b => intsV3 (if a.length = b.length then pc v1 (atQ a) (atQ b) a.length else 0) (if a.length = b.length then pc v2 (atQ a) (atQ b) a.length else 0) (if a.length = b.length then pc v3 (atQ a) (atQ b) a.length else 0) (if a.length = b.length then 0 else 1)
def d_ref18_Kendall : Den := den2 aRats aRats (fun a b => (a.length ≤ 1000 ∧ ∀ r ∈ a, r.sz ≤ 1000) ∧ b.length ≤ 1000 ∧ ∀ r ∈ b, r.sz ≤ 1000) fun a b => ratIntV (cr (kenQ a b)) (errP a b)
def d_ref18_Spearman : Den := den2 aRats aRats (fun a b => (a.length ≤ 1000 ∧ ∀ r ∈ a, r.sz ≤ 1000) ∧ b.length ≤ 1000 ∧ ∀ r ∈ b, r.sz ≤ 1000) fun a b => ratIntsV (cr (speQ a b)) (speS a b) (speE a b)
end Go.Proofs.Ytifnpelkoklcnaa
