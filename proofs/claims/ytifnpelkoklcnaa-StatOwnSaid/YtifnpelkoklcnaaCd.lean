/- vernierlaw17, vernierlaw18: much; vernierlaw17: known; by the abstract walk. Conditions: rows shorter than 10^14. -/
import Derived.Test.YtifnpelkoklcnaaCc
namespace Go.Proofs.Ytifnpelkoklcnaa
open Go.RowKit
set_option linter.unusedSimpArgs false
set_option linter.unusedVariables false

def muchR (x : RR) : Bool := decide (1 < x.n.length) || decide (1 < x.d.length)
def muchL (r : List RR) : Bool := decide (12 < r.length) || r.any muchR

def d_law17_much : Den := den1 aRowsR (fun l => l.length ≤ 1000 ∧ ∀ r ∈ l, r.length ≤ 100000000000000 ∧ ∀ x ∈ r, x.sz ≤ 100000000000000) fun l => boolV (l.any muchL)
set_option maxRecDepth 100000 in
set_option maxHeartbeats 1000000 in
theorem s_law17_much : Sound Try.prog 53 d_law17_much := by
  refine sound1 (fz := nofz) (l := []) TT_ok trivial mixed Try.func53 Try.ntmps53 Try.results53 Try.call53 rfl (by omega) (fun _ => rfl) ?_
  intro a hp ha
  rw [codeK_start]
  simp only [go_sem, Nat.reduceBEq, Nat.reduceBNe, Nat.reduceLT, Nat.reduceLeDiff, Nat.reduceAdd, Nat.reduceSub, Nat.reduceMul, Nat.reduceEqDiff, Int.reduceNeg, Int.reduceAdd, Int.reduceLT, Int.reduceLE, Int.reduceToNat, ↓reduceIte]
  refine codeK_loop (fun i : { i : Nat // i ≤ a.length ∧ (a.take i).any muchL = false } => [(3, 0, .av (intV (i.1 : Nat))), (2, 0, .av (boolV false)), (0, 0, .av (rowV celRow a))]) (fun i => a.length - i.1) ⟨0, by omega, by simp⟩ (le_of ?_) ?_
  · simp only [go_sem, leL, Nat.reduceBEq, Nat.reduceBNe, Nat.reduceLT, Nat.reduceLeDiff, Nat.reduceAdd, Nat.reduceSub, Nat.reduceMul, Nat.reduceEqDiff, Int.reduceNeg, Int.reduceAdd, Int.reduceLT, Int.reduceLE, Int.reduceToNat, ↓reduceIte, Int.ofNat_zero, Int.natCast_zero, Int.cast_ofNat_Int]
  · rintro ⟨i, hi0, hs0⟩
    by_cases hi : i < a.length
    · have hm := hp.2 _ (getD_mem (d := ([] : List RR)) hi)
      have hst : (a.take (i + 1)).any muchL = muchL (a.getD i []) := by
        rw [List.take_succ_eq_append_getElem hi, List.any_append, hs0, List.getD_eq_getElem?_getD, List.getElem?_eq_getElem hi]
        simp
      have hall : muchL (a.getD i []) = true → a.any muchL = true := fun h => List.any_eq_true.2 ⟨_, getD_mem hi, h⟩
      have hget := getD_rows hi
      generalize hg : a.getD i [] = g at *
      by_cases h12 : (12 : Int) < g.length
      · simp only [go_sem, Int.ofNat_lt, decide_true, decide_false, hget, hg, hi, h12, Nat.reduceBEq, Nat.reduceBNe, Nat.reduceLT, Nat.reduceLeDiff, Nat.reduceAdd, Nat.reduceSub, Nat.reduceMul, Nat.reduceEqDiff, Int.reduceNeg, Int.reduceAdd, Int.reduceLT, Int.reduceLE, Int.reduceToNat, ↓reduceIte]
        exact (hall (by unfold muchL; rw [decide_eq_true (show 12 < g.length by omega)]; rfl)).symm
      simp only [go_sem, Int.ofNat_lt, decide_true, decide_false, hget, hg, hi, h12, Nat.reduceBEq, Nat.reduceBNe, Nat.reduceLT, Nat.reduceLeDiff, Nat.reduceAdd, Nat.reduceSub, Nat.reduceMul, Nat.reduceEqDiff, Int.reduceNeg, Int.reduceAdd, Int.reduceLT, Int.reduceLE, Int.reduceToNat, ↓reduceIte]
      refine codeK_loop (fun j : { j : Nat // j ≤ g.length ∧ (g.take j).any muchR = false } => [(4, 0, .av (intV (j.1 : Nat))), (3, 0, .av (intV (i : Nat))), (2, 0, .av (boolV false)), (0, 0, .av (rowV celRow a))]) (fun j => g.length - j.1) ⟨0, by omega, by simp⟩ (le_of ?_) ?_
      · simp only [go_sem, leL, Nat.reduceBEq, Nat.reduceBNe, Nat.reduceLT, Nat.reduceLeDiff, Nat.reduceAdd, Nat.reduceSub, Nat.reduceMul, Nat.reduceEqDiff, Int.reduceNeg, Int.reduceAdd, Int.reduceLT, Int.reduceLE, Int.reduceToNat, ↓reduceIte, Int.ofNat_zero, Int.natCast_zero, Int.cast_ofNat_Int]
      · rintro ⟨j, hj0, ht0⟩
        by_cases hj : j < g.length
        · have hx := hm.2 _ (getD_mem (d := rr0) hj)
          have hjt : (g.take (j + 1)).any muchR = muchR (g.getD j rr0) := by
            rw [List.take_succ_eq_append_getElem hj, List.any_append, ht0, List.getD_eq_getElem?_getD, List.getElem?_eq_getElem hj]
            simp
          have hallj : muchR (g.getD j rr0) = true → g.any muchR = true := fun h => List.any_eq_true.2 ⟨_, getD_mem hj, h⟩
          have hgj := getD_rats hj
          have lx := RR.lens hx
          generalize hgx : g.getD j rr0 = x at *
          have hup : muchR x = true → true = a.any muchL := fun h => (hall (by unfold muchL; rw [hallj h, Bool.or_true])).symm
          simp only [go_sem, Int.ofNat_lt, decide_true, decide_false, hget, hg, hi, hj, hgj, hgx, Nat.reduceBEq, Nat.reduceBNe, Nat.reduceLT, Nat.reduceLeDiff, Nat.reduceAdd, Nat.reduceSub, Nat.reduceMul, Nat.reduceEqDiff, Int.reduceNeg, Int.reduceAdd, Int.reduceLT, Int.reduceLE, Int.reduceToNat, ↓reduceIte]
          split
          · rename_i c1
            have c1 := of_decide_eq_false c1
            split
            · rename_i c2
              exact hup (by unfold muchR; rw [decide_eq_true (show 1 < x.d.length by omega), Bool.or_true])
            · rename_i c2
              have hb : muchR x = false := by unfold muchR; rw [decide_eq_false (show ¬ 1 < x.n.length by omega), decide_eq_false (show ¬ 1 < x.d.length by omega)]; rfl
              refine ⟨⟨by omega, by omega⟩, ⟨⟨j + 1, by omega, by rw [hjt]; exact hb⟩, by show g.length - (j + 1) < g.length - j; omega, le_of ?_⟩⟩
              simp only [go_sem, leL, Nat.reduceBEq, Nat.reduceBNe, Nat.reduceLT, Nat.reduceLeDiff, Nat.reduceAdd, Nat.reduceSub, Nat.reduceMul, Nat.reduceEqDiff, Int.reduceNeg, Int.reduceAdd, Int.reduceLT, Int.reduceLE, Int.reduceToNat, ↓reduceIte]
              omega
          · rename_i c1
            have c1 : 1 < x.n.length := by
              rcases Classical.em (1 < (x.n.length : Int)) with h | h
              · omega
              · exact absurd (decide_eq_false h) c1
            exact hup (by unfold muchR; rw [decide_eq_true c1, Bool.true_or])
        · simp only [go_sem, Int.ofNat_lt, decide_true, decide_false, hget, hg, hi, hj, Nat.reduceBEq, Nat.reduceBNe, Nat.reduceLT, Nat.reduceLeDiff, Nat.reduceAdd, Nat.reduceSub, Nat.reduceMul, Nat.reduceEqDiff, Int.reduceNeg, Int.reduceAdd, Int.reduceLT, Int.reduceLE, Int.reduceToNat, ↓reduceIte]
          have e : j = g.length := by omega
          subst e
          rw [List.take_length] at ht0
          have hb : muchL g = false := by unfold muchL; rw [decide_eq_false (show ¬ 12 < g.length by omega), ht0]; rfl
          refine ⟨⟨by omega, by omega⟩, ⟨⟨i + 1, by omega, by rw [hst]; exact hb⟩, by show a.length - (i + 1) < a.length - i; omega, le_of ?_⟩⟩
          simp only [go_sem, leL, Nat.reduceBEq, Nat.reduceBNe, Nat.reduceLT, Nat.reduceLeDiff, Nat.reduceAdd, Nat.reduceSub, Nat.reduceMul, Nat.reduceEqDiff, Int.reduceNeg, Int.reduceAdd, Int.reduceLT, Int.reduceLE, Int.reduceToNat, ↓reduceIte]
          omega
    · simp only [go_sem, Int.ofNat_lt, decide_true, decide_false, hi, Nat.reduceBEq, Nat.reduceBNe, Nat.reduceLT, Nat.reduceLeDiff, Nat.reduceAdd, Nat.reduceSub, Nat.reduceMul, Nat.reduceEqDiff, Int.reduceNeg, Int.reduceAdd, Int.reduceLT, Int.reduceLE, Int.reduceToNat, ↓reduceIte]
      have e : i = a.length := by omega
      subst e
      rw [List.take_length] at hs0
      exact hs0.symm

theorem much_facts {l : List RR} (h : muchL l = false) : l.length ≤ 12 ∧ ∀ r ∈ l, r.sz ≤ 1 := by
  unfold muchL at h
  rw [Bool.or_eq_false_iff] at h
  have h1 := of_decide_eq_false h.1
  refine ⟨by omega, fun r hr => ?_⟩
  have h2 := any_false h.2 r hr
  unfold muchR at h2
  rw [Bool.or_eq_false_iff] at h2
  have h3 := of_decide_eq_false h2.1
  have h4 := of_decide_eq_false h2.2
  exact RR.sz_le (by omega) (by omega)

def d_law17_known : Den := den0 (boolV true)
set_option maxRecDepth 100000 in
set_option maxHeartbeats 1000000 in
theorem s_law17_known : Sound Try.prog 60 d_law17_known := by
  refine sound0 (fz := nofz) (l := [(24, d_ref2_Int), (61, d_stat_Variance), (28, d_ref2_Of), (48, d_ref2_Same)]) TT_ok ⟨s_ref2_Int, s_stat_Variance, s_ref2_Of, s_ref2_Same, trivial⟩ mixed Try.func60 Try.ntmps60 Try.results60 Try.call60 rfl rfl ?_
  rw [codeK_start]
  simp only [go_sem, d_ref2_Int, d_stat_Variance, d_ref2_Of, d_ref2_Same, Nat.reduceBEq, Nat.reduceBNe, Nat.reduceLT, Nat.reduceLeDiff, Nat.reduceAdd, Nat.reduceSub, Nat.reduceMul, Nat.reduceEqDiff, Int.reduceNeg, Int.reduceAdd, Int.reduceLT, Int.reduceLE, Int.reduceToNat, ↓reduceIte]
  have e1 : covQ [cr ((1 : Int) : Rat), cr ((2 : Int) : Rat), cr ((4 : Int) : Rat)] [cr ((1 : Int) : Rat), cr ((2 : Int) : Rat), cr ((4 : Int) : Rat)] = qv false (val [7]) (val [3]) := by
    have hl : ([cr ((1 : Int) : Rat), cr ((2 : Int) : Rat), cr ((4 : Int) : Rat)] : List RR).length = 3 := rfl
    unfold covQ meanQ meanTo
    rw [hl, if_pos rfl, if_neg (by omega), if_neg (by omega)]
    simp only [sumTo, atQ, List.getD_cons_zero, List.getD_cons_succ, cr_q]
    decide +kernel
  have e2 : errC [cr ((1 : Int) : Rat), cr ((2 : Int) : Rat), cr ((4 : Int) : Rat)] [cr ((1 : Int) : Rat), cr ((2 : Int) : Rat), cr ((4 : Int) : Rat)] = 0 := by
    have hl : ([cr ((1 : Int) : Rat), cr ((2 : Int) : Rat), cr ((4 : Int) : Rat)] : List RR).length = 3 := rfl
    unfold errC
    rw [hl, if_pos rfl, if_neg (by omega)]
  have z : ∀ n : Int, -10 ≤ n → n ≤ 10 → (cr (n : Rat)).sz ≤ 1000 := fun n h1 h2 => by
    have h : rs (n : Rat) ≤ 2 := rsb_int (by omega) (by omega) (by omega)
    rw [cr_sz]; omega
  have hz : rs (qv false (val [7]) (val [3])) ≤ 1 := by
    show rs (qv false 7 3) ≤ 1
    exact rs_qv _ _ _ _ (by decide) (by decide) (by omega)
  rw [if_pos e2, e1]
  exact ⟨all3 (z 1 (by omega) (by omega)) (z 2 (by omega) (by omega)) (z 4 (by omega) (by omega)), ⟨by omega, by omega⟩, by kernel_rfl, rfl⟩

theorem rs_covQ {a b : List RR} (oa : ∀ i, rs (atQ a i - meanQ a) ≤ 1100000) (ob : ∀ i, rs (atQ b i - meanQ b) ≤ 1100000) (h : a.length ≤ 1000) : rs (covQ a b) ≤ 2200002000 := by
  unfold covQ
  split
  · split
    · exact rs0 (by omega)
    · exact rsb_div (sumQ_bound (K := 2200000) (fun i => rsb_mul (oa i) (ob i) (by omega)) h) (rsb_int (K := 2) (by omega) (by omega) (by omega)) (by omega)
  · exact rs0 (by omega)
theorem rs_cenQ {l : List RR} (ol : ∀ i, rs (atQ l i - meanQ l) ≤ 1100000) (h : l.length ≤ 1000) (k : Int) : rs (cenQ k l) ≤ 8800003000 := by
  unfold cenQ
  split
  · exact rs0 (by omega)
  · rename_i h1
    split
    · exact rs0 (by omega)
    · exact rsb_div (rs_offQ ol (k := k.toNat) (by omega) h) (rsb_int (K := 2) (by omega) (by omega) (by omega)) (by omega)


end Go.Proofs.Ytifnpelkoklcnaa
