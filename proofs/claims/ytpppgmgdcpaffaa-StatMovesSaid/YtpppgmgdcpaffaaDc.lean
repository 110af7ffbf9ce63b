/- vernierref2.Rats; vernierref18: Ranks, Pairs, Kendall, Spearman, by the abstract walk. Conditions: rows of at most 1000 numbers of at most 1000 limbs. -/
import Derived.Test.YtpppgmgdcpaffaaDb
namespace Go.Proofs.Ytpppgmgdcpaffaa
open Go.RowKit
set_option linter.unusedSimpArgs false
set_option linter.unusedVariables false

def sameTo (a b : List RR) (n : Nat) : Bool := (List.range n).all fun i => decide (atQ a i = atQ b i)
def sameL (a b : List RR) : Bool := decide (a.length = b.length) && sameTo a b a.length
theorem sameTo_next (a b : List RR) (n : Nat) : sameTo a b (n + 1) = (sameTo a b n && decide (atQ a n = atQ b n)) := by unfold sameTo; rw [List.range_succ, List.all_append]; simp
theorem sameTo_not {a b : List RR} {i n : Nat} (h : i < n) (hne : ¬ atQ a i = atQ b i) : sameTo a b n = false := by
  unfold sameTo
  rw [List.all_eq_false]
  exact ⟨i, List.mem_range.2 h, by simpa using hne⟩
theorem sameL_self (a : List RR) : sameL a a = true := by unfold sameL sameTo; simp
theorem sameL_of {a b : List RR} (h : a.length = b.length) (h2 : ∀ i, i < a.length → atQ a i = atQ b i) : sameL a b = true := by
  unfold sameL sameTo
  rw [Bool.and_eq_true]
  exact ⟨decide_eq_true h, List.all_eq_true.2 fun i hi => decide_eq_true (h2 i (List.mem_range.1 hi))⟩

def d_ref2_Rats : Den := den2 aRats aRats (fun a b => (a.length ≤ 1000 ∧ ∀ r ∈ a, r.sz ≤ 10000000) ∧ b.length ≤ 1000 ∧ ∀ r ∈ b, r.sz ≤ 10000000) fun a b => boolV (sameL a b)
set_option maxRecDepth 100000 in
set_option maxHeartbeats 1000000 in
theorem s_ref2_Rats : Sound Try.prog 42 d_ref2_Rats := by
  refine sound2 (fz := nofz) (l := [(34, d_ref2_Same)]) TT_ok ⟨s_ref2_Same, trivial⟩ mixed Try.func42 Try.ntmps42 Try.results42 Try.call42 rfl (by omega) (fun _ _ => rfl) ?_
  intro a b hp ha hb
  rw [codeK_start]
  by_cases hl : a.length = b.length
  · have hlt : (((a.length : Nat) : Int) = b.length) = True := eq_true (by omega)
    have hla := hp.1.1
    simp only [go_sem, d_ref2_Same, Int.ofNat_lt, decide_true, decide_false, Bool.not_true, Bool.not_false, hlt, Nat.reduceBEq, Nat.reduceBNe, Nat.reduceLT, Nat.reduceLeDiff, Nat.reduceAdd, Nat.reduceSub, Nat.reduceMul, Nat.reduceEqDiff, Int.reduceNeg, Int.reduceAdd, Int.reduceLT, Int.reduceLE, Int.reduceToNat, ↓reduceIte]
    refine codeK_loop (fun i : { i : Nat // i ≤ a.length ∧ sameTo a b i = true } => [(5, 0, .av (intV ((i.1 : Nat)))), (0, 0, .av (ratsV a)), (1, 0, .av (ratsV b))]) (fun i => a.length - i.1) ⟨0, by omega, rfl⟩ (le_of ?_) ?_
    · simp only [go_sem, leL, Nat.reduceBEq, Nat.reduceBNe, Nat.reduceLT, Nat.reduceLeDiff, Nat.reduceAdd, Nat.reduceSub, Nat.reduceMul, Nat.reduceEqDiff, Int.reduceNeg, Int.reduceAdd, Int.reduceLT, Int.reduceLE, Int.reduceToNat, ↓reduceIte, Int.ofNat_zero, Int.natCast_zero, Int.cast_ofNat_Int]
    · rintro ⟨i, hi0, hs⟩
      by_cases hi : i < a.length
      · have hi2 : i < b.length := by omega
        have hm := hp.1.2 _ (getD_mem (d := rr0) hi)
        have hm2 := hp.2.2 _ (getD_mem (d := rr0) hi2)
        by_cases c : (a.getD i rr0).q = (b.getD i rr0).q
        · have hn : sameTo a b (i + 1) = true := by rw [sameTo_next, hs]; exact decide_eq_true c
          simp only [go_sem, d_ref2_Same, Int.ofNat_lt, decide_true, decide_false, Bool.not_true, Bool.not_false, hlt, getD_rats hi, getD_ratsI hi, hi, getD_rats hi2, getD_ratsI hi2, hi2, c, Nat.reduceBEq, Nat.reduceBNe, Nat.reduceLT, Nat.reduceLeDiff, Nat.reduceAdd, Nat.reduceSub, Nat.reduceMul, Nat.reduceEqDiff, Int.reduceNeg, Int.reduceAdd, Int.reduceLT, Int.reduceLE, Int.reduceToNat, ↓reduceIte]
          ((try and_intros) <;> first | exact trivial | omega | (show okDraw _ _ = true; kernel_rfl) | (show ∃ _, _; exact ⟨⟨i + 1, by omega, hn⟩, by show a.length - (i + 1) < a.length - i; omega, le_of (by simp only [go_sem, leL, Nat.reduceBEq, Nat.reduceBNe, Nat.reduceLT, Nat.reduceLeDiff, Nat.reduceAdd, Nat.reduceSub, Nat.reduceMul, Nat.reduceEqDiff, Int.reduceNeg, Int.reduceAdd, Int.reduceLT, Int.reduceLE, Int.reduceToNat, ↓reduceIte]; omega)⟩))
        · have hn : sameL a b = false := by unfold sameL; rw [sameTo_not hi c, Bool.and_false]
          simp only [go_sem, d_ref2_Same, Int.ofNat_lt, decide_true, decide_false, Bool.not_true, Bool.not_false, hlt, getD_rats hi, getD_ratsI hi, hi, getD_rats hi2, getD_ratsI hi2, hi2, c, Nat.reduceBEq, Nat.reduceBNe, Nat.reduceLT, Nat.reduceLeDiff, Nat.reduceAdd, Nat.reduceSub, Nat.reduceMul, Nat.reduceEqDiff, Int.reduceNeg, Int.reduceAdd, Int.reduceLT, Int.reduceLE, Int.reduceToNat, ↓reduceIte]
          ((try and_intros) <;> first | exact trivial | omega | (show okDraw _ _ = true; kernel_rfl) | exact hn.symm | rw [hn])
      · simp only [go_sem, d_ref2_Same, Int.ofNat_lt, decide_true, decide_false, Bool.not_true, Bool.not_false, hlt, hi, Nat.reduceBEq, Nat.reduceBNe, Nat.reduceLT, Nat.reduceLeDiff, Nat.reduceAdd, Nat.reduceSub, Nat.reduceMul, Nat.reduceEqDiff, Int.reduceNeg, Int.reduceAdd, Int.reduceLT, Int.reduceLE, Int.reduceToNat, ↓reduceIte]
        have e : i = a.length := by omega
        subst e
        unfold sameL
        rw [hs, decide_eq_true hl]
        rfl
  · have hlt : (((a.length : Nat) : Int) = b.length) = False := eq_false (by omega)
    have hn : sameL a b = false := by unfold sameL; rw [decide_eq_false hl, Bool.false_and]
    simp only [go_sem, d_ref2_Same, Int.ofNat_lt, decide_true, decide_false, Bool.not_true, Bool.not_false, hlt, Nat.reduceBEq, Nat.reduceBNe, Nat.reduceLT, Nat.reduceLeDiff, Nat.reduceAdd, Nat.reduceSub, Nat.reduceMul, Nat.reduceEqDiff, Int.reduceNeg, Int.reduceAdd, Int.reduceLT, Int.reduceLE, Int.reduceToNat, ↓reduceIte]
    first | exact hn.symm | rw [hn] | exact trivial

def dl (i j : Nat) : Int := if i < j then 1 else 0
theorem dl_zero (i : Nat) : dl i 0 = 0 := rfl
theorem dl_next {i j : Nat} (h : ¬ j = i) : dl i (j + 1) = dl i j := by
  unfold dl
  by_cases h1 : i < j
  · rw [if_pos h1, if_pos (by omega)]
  · rw [if_neg h1, if_neg (by omega)]
theorem dl_self (i : Nat) : dl i (i + 1) = 1 ∧ dl i i = 0 := by unfold dl; exact ⟨if_pos (by omega), if_neg (by omega)⟩
theorem dl_bd (i j : Nat) : 0 ≤ dl i j ∧ dl i j ≤ 1 := by unfold dl; split <;> omega
theorem dl_end {i j : Nat} (h : i < j) : dl i j = 1 := if_pos h
def fz_ref18_Ranks : Nat → List Nat
  | 32 => [1003]
  | _ => []

def d_ref18_Ranks : Den := den1 aRats (fun a => a.length ≤ 1000 ∧ ∀ r ∈ a, r.sz ≤ 1000) fun a => ratsV (ranksL a)
set_option maxRecDepth 100000 in
set_option maxHeartbeats 1000000 in
theorem s_ref18_Ranks : Sound Try.prog 61 d_ref18_Ranks := by
  refine sound1 (fz := fz_ref18_Ranks) (l := [(38, d_ref2_Cmp), (39, d_ref2_Int), (98, d_ref2_Div)]) TT_ok ⟨s_ref2_Cmp, s_ref2_Int, s_ref2_Div, trivial⟩ mixed Try.func61 Try.ntmps61 Try.results61 Try.call61 rfl (by omega) (fun _ => rfl) ?_
  intro a hp ha
  rw [codeK_start]
  simp only [go_sem, d_ref2_Cmp, d_ref2_Int, d_ref2_Div, int0, fz_ref18_Ranks, Nat.reduceBEq, Nat.reduceBNe, Nat.reduceLT, Nat.reduceLeDiff, Nat.reduceAdd, Nat.reduceSub, Nat.reduceMul, Nat.reduceEqDiff, Int.reduceNeg, Int.reduceAdd, Int.reduceLT, Int.reduceLE, Int.reduceToNat, ↓reduceIte]
  unfold ranksL
  refine codeK_loop (fun i : { i : Nat // i ≤ a.length } => [(4, 0, .av (intV ((i.1 : Nat)))), (0, 0, .av (ratsV a)), (3, 0, .av (.one (.cel (.rf 1003 i.1)))), (1003, 1, .row (.gen 3 ((mkL (rankQ (atQ a) a.length) i.1).map ratCells)))]) (fun i => a.length - i.1) ⟨0, by omega⟩ ?_ ?_
  · refine le_nil 3 1003 (.gen 3 []) (by rfl) (by kernel_rfl) ⟨by omega, trivial⟩ rfl (le_of ?_)
    simp only [go_sem, leL, Nat.reduceBEq, Nat.reduceBNe, Nat.reduceLT, Nat.reduceLeDiff, Nat.reduceAdd, Nat.reduceSub, Nat.reduceMul, Nat.reduceEqDiff, Int.reduceNeg, Int.reduceAdd, Int.reduceLT, Int.reduceLE, Int.reduceToNat, ↓reduceIte, mkL_zero, Int.ofNat_zero, Int.natCast_zero, Int.cast_ofNat_Int]
  · rintro ⟨i, hi0⟩
    have hi0 : i ≤ a.length := hi0
    by_cases hi : i < a.length
    · have hm := hp.2 _ (getD_mem (d := rr0) hi)
      simp only [go_sem, d_ref2_Cmp, d_ref2_Int, d_ref2_Div, fz_ref18_Ranks, Int.ofNat_lt, decide_true, decide_false, Bool.not_true, Bool.not_false, getD_rats hi, getD_ratsI hi, hi, Nat.reduceBEq, Nat.reduceBNe, Nat.reduceLT, Nat.reduceLeDiff, Nat.reduceAdd, Nat.reduceSub, Nat.reduceMul, Nat.reduceEqDiff, Int.reduceNeg, Int.reduceAdd, Int.reduceLT, Int.reduceLE, Int.reduceToNat, ↓reduceIte]
      refine codeK_loop (fun j : { j : Nat // j ≤ a.length } => [(6, 0, .av (intV ((j.1 : Nat)))), (5, 0, .av (intV (2 + tw (atQ a) (a.getD i rr0).q j.1 - dl i j.1))), (4, 0, .av (intV ((i : Nat)))), (0, 0, .av (ratsV a)), (3, 0, .av (.one (.cel (.rf 1003 i)))), (1003, 1, .row (.gen 3 ((mkL (rankQ (atQ a) a.length) i).map ratCells)))]) (fun j => a.length - j.1) ⟨0, by omega⟩ (le_of ?_) ?_
      · simp only [go_sem, leL, Nat.reduceBEq, Nat.reduceBNe, Nat.reduceLT, Nat.reduceLeDiff, Nat.reduceAdd, Nat.reduceSub, Nat.reduceMul, Nat.reduceEqDiff, Int.reduceNeg, Int.reduceAdd, Int.reduceLT, Int.reduceLE, Int.reduceToNat, ↓reduceIte, tw_zero, dl_zero, Int.add_zero, Int.sub_zero, Int.ofNat_zero, Int.natCast_zero, Int.cast_ofNat_Int]
      · rintro ⟨j, hj0⟩
        have hj0 : j ≤ a.length := hj0
        have hb := tw_bd (atQ a) (a.getD i rr0).q j
        have hdb := dl_bd i j
        by_cases hj : j < a.length
        · have hmj := hp.2 _ (getD_mem (d := rr0) hj)
          by_cases c1 : (a.getD j rr0).q < (a.getD i rr0).q
          · have hn : tw (atQ a) (a.getD i rr0).q (j + 1) = tw (atQ a) (a.getD i rr0).q j + 2 := tw_lt c1
            have hd := dl_next (i := i) (j := j) (by rintro rfl; exact Rat.lt_irrefl c1)
            have c2 : ((a.getD j rr0).q = (a.getD i rr0).q) = False := eq_false (fun e => Rat.lt_irrefl (e ▸ c1 : (a.getD i rr0).q < (a.getD i rr0).q))
            simp only [go_sem, d_ref2_Cmp, d_ref2_Int, d_ref2_Div, fz_ref18_Ranks, Int.ofNat_lt, decide_true, decide_false, Bool.not_true, Bool.not_false, getD_rats hi, getD_ratsI hi, hi, getD_rats hj, getD_ratsI hj, hj, c1, c2, Nat.reduceBEq, Nat.reduceBNe, Nat.reduceLT, Nat.reduceLeDiff, Nat.reduceAdd, Nat.reduceSub, Nat.reduceMul, Nat.reduceEqDiff, Int.reduceNeg, Int.reduceAdd, Int.reduceLT, Int.reduceLE, Int.reduceToNat, ↓reduceIte]
            ((try and_intros) <;> first | exact trivial | omega | (show okDraw _ _ = true; kernel_rfl) | (show ∃ _, _; exact ⟨⟨j + 1, by omega⟩, by show a.length - (j + 1) < a.length - j; omega, le_of (by simp only [go_sem, leL, hn, hd, Nat.reduceBEq, Nat.reduceBNe, Nat.reduceLT, Nat.reduceLeDiff, Nat.reduceAdd, Nat.reduceSub, Nat.reduceMul, Nat.reduceEqDiff, Int.reduceNeg, Int.reduceAdd, Int.reduceLT, Int.reduceLE, Int.reduceToNat, ↓reduceIte]; omega)⟩))
          · by_cases c2 : (a.getD j rr0).q = (a.getD i rr0).q
            · have hn : tw (atQ a) (a.getD i rr0).q (j + 1) = tw (atQ a) (a.getD i rr0).q j + 1 := tw_eq c1 c2
              have c2 := eq_true c2
              by_cases c3 : j = i
              · have c4 : (((j : Nat) : Int) = (i : Nat)) = True := eq_true (by omega)
                have hd : dl i (j + 1) = dl i j + 1 := by rw [c3, (dl_self i).1, (dl_self i).2]; rfl
                simp only [go_sem, d_ref2_Cmp, d_ref2_Int, d_ref2_Div, fz_ref18_Ranks, Int.ofNat_lt, decide_true, decide_false, Bool.not_true, Bool.not_false, getD_rats hi, getD_ratsI hi, hi, getD_rats hj, getD_ratsI hj, hj, c1, c2, c4, Nat.reduceBEq, Nat.reduceBNe, Nat.reduceLT, Nat.reduceLeDiff, Nat.reduceAdd, Nat.reduceSub, Nat.reduceMul, Nat.reduceEqDiff, Int.reduceNeg, Int.reduceAdd, Int.reduceLT, Int.reduceLE, Int.reduceToNat, ↓reduceIte]
                ((try and_intros) <;> first | exact trivial | omega | (show okDraw _ _ = true; kernel_rfl) | (show ∃ _, _; exact ⟨⟨j + 1, by omega⟩, by show a.length - (j + 1) < a.length - j; omega, le_of (by simp only [go_sem, leL, hn, hd, Nat.reduceBEq, Nat.reduceBNe, Nat.reduceLT, Nat.reduceLeDiff, Nat.reduceAdd, Nat.reduceSub, Nat.reduceMul, Nat.reduceEqDiff, Int.reduceNeg, Int.reduceAdd, Int.reduceLT, Int.reduceLE, Int.reduceToNat, ↓reduceIte]; omega)⟩))
              · have c4 : (((j : Nat) : Int) = (i : Nat)) = False := eq_false (by omega)
                have hd := dl_next c3
                simp only [go_sem, d_ref2_Cmp, d_ref2_Int, d_ref2_Div, fz_ref18_Ranks, Int.ofNat_lt, decide_true, decide_false, Bool.not_true, Bool.not_false, getD_rats hi, getD_ratsI hi, hi, getD_rats hj, getD_ratsI hj, hj, c1, c2, c4, Nat.reduceBEq, Nat.reduceBNe, Nat.reduceLT, Nat.reduceLeDiff, Nat.reduceAdd, Nat.reduceSub, Nat.reduceMul, Nat.reduceEqDiff, Int.reduceNeg, Int.reduceAdd, Int.reduceLT, Int.reduceLE, Int.reduceToNat, ↓reduceIte]
                ((try and_intros) <;> first | exact trivial | omega | (show okDraw _ _ = true; kernel_rfl) | (show ∃ _, _; exact ⟨⟨j + 1, by omega⟩, by show a.length - (j + 1) < a.length - j; omega, le_of (by simp only [go_sem, leL, hn, hd, Nat.reduceBEq, Nat.reduceBNe, Nat.reduceLT, Nat.reduceLeDiff, Nat.reduceAdd, Nat.reduceSub, Nat.reduceMul, Nat.reduceEqDiff, Int.reduceNeg, Int.reduceAdd, Int.reduceLT, Int.reduceLE, Int.reduceToNat, ↓reduceIte]; omega)⟩))
            · have hn : tw (atQ a) (a.getD i rr0).q (j + 1) = tw (atQ a) (a.getD i rr0).q j := tw_gt c1 c2
              have hd := dl_next (i := i) (j := j) (by rintro rfl; exact c2 rfl)
              simp only [go_sem, d_ref2_Cmp, d_ref2_Int, d_ref2_Div, fz_ref18_Ranks, Int.ofNat_lt, decide_true, decide_false, Bool.not_true, Bool.not_false, getD_rats hi, getD_ratsI hi, hi, getD_rats hj, getD_ratsI hj, hj, c1, c2, Nat.reduceBEq, Nat.reduceBNe, Nat.reduceLT, Nat.reduceLeDiff, Nat.reduceAdd, Nat.reduceSub, Nat.reduceMul, Nat.reduceEqDiff, Int.reduceNeg, Int.reduceAdd, Int.reduceLT, Int.reduceLE, Int.reduceToNat, ↓reduceIte]
              ((try and_intros) <;> first | exact trivial | omega | (show okDraw _ _ = true; kernel_rfl) | (show ∃ _, _; exact ⟨⟨j + 1, by omega⟩, by show a.length - (j + 1) < a.length - j; omega, le_of (by simp only [go_sem, leL, hn, hd, Nat.reduceBEq, Nat.reduceBNe, Nat.reduceLT, Nat.reduceLeDiff, Nat.reduceAdd, Nat.reduceSub, Nat.reduceMul, Nat.reduceEqDiff, Int.reduceNeg, Int.reduceAdd, Int.reduceLT, Int.reduceLE, Int.reduceToNat, ↓reduceIte]; omega)⟩))
        · have ej : j = a.length := by omega
          subst ej
          have hln := mkL_len (rankQ (atQ a) a.length) i
          have hln2 := mkL_len (rankQ (atQ a) a.length) (i + 1)
          have hde := dl_end hi
          have hnn : (2 : Int) + tw (atQ a) (a.getD i rr0).q a.length - dl i a.length = 1 + tw (atQ a) (a.getD i rr0).q a.length := by omega
          have hq : ((1 + tw (atQ a) (a.getD i rr0).q a.length : Int) : Rat) / ((2 : Int) : Rat) = rankQ (atQ a) a.length i := rfl
          have hz : rs ((1 + tw (atQ a) (a.getD i rr0).q a.length : Int) : Rat) ≤ 2 := rsb_int (by omega) (by omega) (by omega)
          have hz2 : rs ((2 : Int) : Rat) ≤ 2 := rsb_int (by omega) (by omega) (by omega)
          have hrow : (mkL (rankQ (atQ a) a.length) i).map ratCells ++ [[.bool (cr (rankQ (atQ a) a.length i)).s, .lim none (cr (rankQ (atQ a) a.length i)).n, .lim none (cr (rankQ (atQ a) a.length i)).d]] = (mkL (rankQ (atQ a) a.length) (i + 1)).map ratCells := mkL_cells _ i
          simp only [go_sem, d_ref2_Cmp, d_ref2_Int, d_ref2_Div, fz_ref18_Ranks, Int.ofNat_lt, decide_true, decide_false, Bool.not_true, Bool.not_false, getD_rats hi, getD_ratsI hi, hi, Nat.lt_irrefl, hnn, hq, Nat.reduceBEq, Nat.reduceBNe, Nat.reduceLT, Nat.reduceLeDiff, Nat.reduceAdd, Nat.reduceSub, Nat.reduceMul, Nat.reduceEqDiff, Int.reduceNeg, Int.reduceAdd, Int.reduceLT, Int.reduceLE, Int.reduceToNat, ↓reduceIte]
          refine ⟨⟨by omega, by omega⟩, ⟨by omega, by omega⟩, ⟨hln.symm, by omega⟩, ⟨by omega, by omega⟩, ⟨i + 1, by omega⟩, by show a.length - (i + 1) < a.length - i; omega, ?_⟩
          refine Le.trans (b := [(4, 0, .av (intV (((i + 1) : Nat)))), (0, 0, .av (ratsV a)), (3, 0, .av (.one (.cel (.rf 54 (i + 1))))), (54, 1, .row (.gen 3 ((mkL (rankQ (atQ a) a.length) (i + 1)).map ratCells)))]) (le_of ?_) (le_ren 54 1003 (c := .gen 3 ((mkL (rankQ (atQ a) a.length) (i + 1)).map ratCells)) (by rfl) (by kernel_rfl) (le_of ?_))
          · simp only [go_sem, leL, hrow, hln2, Nat.reduceBEq, Nat.reduceBNe, Nat.reduceLT, Nat.reduceLeDiff, Nat.reduceAdd, Nat.reduceSub, Nat.reduceMul, Nat.reduceEqDiff, Int.reduceNeg, Int.reduceAdd, Int.reduceLT, Int.reduceLE, Int.reduceToNat, ↓reduceIte]
            omega
          · simp only [go_sem, leL, Nat.reduceBEq, Nat.reduceBNe, Nat.reduceLT, Nat.reduceLeDiff, Nat.reduceAdd, Nat.reduceSub, Nat.reduceMul, Nat.reduceEqDiff, Int.reduceNeg, Int.reduceAdd, Int.reduceLT, Int.reduceLE, Int.reduceToNat, ↓reduceIte]
    · simp only [go_sem, d_ref2_Cmp, d_ref2_Int, d_ref2_Div, fz_ref18_Ranks, Int.ofNat_lt, decide_true, decide_false, Bool.not_true, Bool.not_false, hi, Nat.reduceBEq, Nat.reduceBNe, Nat.reduceLT, Nat.reduceLeDiff, Nat.reduceAdd, Nat.reduceSub, Nat.reduceMul, Nat.reduceEqDiff, Int.reduceNeg, Int.reduceAdd, Int.reduceLT, Int.reduceLE, Int.reduceToNat, ↓reduceIte]
      have e : i = a.length := by omega
      subst e
      have hln := mkL_len (rankQ (atQ a) a.length) a.length
      exact ⟨by omega, by rw [List.take_of_length_le (by rw [List.length_map]; omega)]⟩

def d_ref18_Pairs : Den := den2 aRats aRats (fun a b => (a.length ≤ 1000 ∧ ∀ r ∈ a, r.sz ≤ 1000) ∧ b.length ≤ 1000 ∧ ∀ r ∈ b, r.sz ≤ 1000) fun a b => intsV3 (if a.length = b.length then pc v1 (atQ a) (atQ b) a.length else 0) (if a.length = b.length then pc v2 (atQ a) (atQ b) a.length else 0) (if a.length = b.length then pc v3 (atQ a) (atQ b) a.length else 0) (if a.length = b.length then 0 else 1)
set_option maxRecDepth 100000 in
set_option maxHeartbeats 1000000 in
theorem s_ref18_Pairs : Sound Try.prog 56 d_ref18_Pairs := by
  refine sound2 (fz := nofz) (l := [(38, d_ref2_Cmp)]) TT_ok ⟨s_ref2_Cmp, trivial⟩ mixed Try.func56 Try.ntmps56 Try.results56 Try.call56 rfl (by omega) (fun _ _ => rfl) ?_
  intro a b hp ha hb
  rw [codeK_start]
  have pb := fun (v : Int → Int) (h : ∀ c, 0 ≤ v c ∧ v c ≤ 1) (n : Nat) (hn : n ≤ 1000) => pc_bound h (atQ a) (atQ b) hn
  by_cases hl : a.length = b.length
  · have hlt : (((a.length : Nat) : Int) = b.length) = True := eq_true (by omega)
    have hla := hp.1.1
    simp only [go_sem, d_ref2_Cmp, Int.ofNat_lt, decide_true, decide_false, Bool.not_true, Bool.not_false, hlt, Nat.reduceBEq, Nat.reduceBNe, Nat.reduceLT, Nat.reduceLeDiff, Nat.reduceAdd, Nat.reduceSub, Nat.reduceMul, Nat.reduceEqDiff, Int.reduceNeg, Int.reduceAdd, Int.reduceLT, Int.reduceLE, Int.reduceToNat, ↓reduceIte]
    refine codeK_loop (fun i : { i : Nat // i ≤ a.length } => [(11, 0, .av (intV ((i.1 : Nat)))), (0, 0, .av (ratsV a)), (1, 0, .av (ratsV b)), (8, 0, .av (intV (pc v1 (atQ a) (atQ b) i.1))), (9, 0, .av (intV (pc v2 (atQ a) (atQ b) i.1))), (10, 0, .av (intV (pc v3 (atQ a) (atQ b) i.1)))]) (fun i => a.length - i.1) ⟨0, by omega⟩ (le_of ?_) ?_
    · simp only [go_sem, leL, Nat.reduceBEq, Nat.reduceBNe, Nat.reduceLT, Nat.reduceLeDiff, Nat.reduceAdd, Nat.reduceSub, Nat.reduceMul, Nat.reduceEqDiff, Int.reduceNeg, Int.reduceAdd, Int.reduceLT, Int.reduceLE, Int.reduceToNat, ↓reduceIte, pc_zero, Int.ofNat_zero, Int.natCast_zero, Int.cast_ofNat_Int]
    · rintro ⟨i, hi0⟩
      have hi0 : i ≤ a.length := hi0
      by_cases hi : i < a.length
      · have hi2 : i < b.length := by omega
        have hm := hp.1.2 _ (getD_mem (d := rr0) hi)
        have hm2 := hp.2.2 _ (getD_mem (d := rr0) hi2)
        simp only [go_sem, d_ref2_Cmp, Int.ofNat_lt, decide_true, decide_false, Bool.not_true, Bool.not_false, hlt, getD_rats hi, getD_ratsI hi, hi, getD_rats hi2, getD_ratsI hi2, hi2, Nat.reduceBEq, Nat.reduceBNe, Nat.reduceLT, Nat.reduceLeDiff, Nat.reduceAdd, Nat.reduceSub, Nat.reduceMul, Nat.reduceEqDiff, Int.reduceNeg, Int.reduceAdd, Int.reduceLT, Int.reduceLE, Int.reduceToNat, ↓reduceIte]
        refine codeK_loop (fun j : { j : Nat // j ≤ i } => [(12, 0, .av (intV ((j.1 : Nat)))), (11, 0, .av (intV ((i : Nat)))), (0, 0, .av (ratsV a)), (1, 0, .av (ratsV b)), (8, 0, .av (intV (pc v1 (atQ a) (atQ b) i + pcRow v1 (atQ a) (atQ b) i j.1))), (9, 0, .av (intV (pc v2 (atQ a) (atQ b) i + pcRow v2 (atQ a) (atQ b) i j.1))), (10, 0, .av (intV (pc v3 (atQ a) (atQ b) i + pcRow v3 (atQ a) (atQ b) i j.1)))]) (fun j => i - j.1) ⟨0, by omega⟩ (le_of ?_) ?_
        · simp only [go_sem, leL, Nat.reduceBEq, Nat.reduceBNe, Nat.reduceLT, Nat.reduceLeDiff, Nat.reduceAdd, Nat.reduceSub, Nat.reduceMul, Nat.reduceEqDiff, Int.reduceNeg, Int.reduceAdd, Int.reduceLT, Int.reduceLE, Int.reduceToNat, ↓reduceIte, pcRow_zero, Int.add_zero, Int.ofNat_zero, Int.natCast_zero, Int.cast_ofNat_Int]
        · rintro ⟨j, hj0⟩
          have hj0 : j ≤ i := hj0
          have x1 := pb v1 v1_bd i (by omega)
          have x2 := pb v2 v2_bd i (by omega)
          have x3 := pb v3 v3_bd i (by omega)
          have y1 := pcRow_bd v1_bd (atQ a) (atQ b) i j
          have y2 := pcRow_bd v2_bd (atQ a) (atQ b) i j
          have y3 := pcRow_bd v3_bd (atQ a) (atQ b) i j
          have w1 := pcRow_next v1 (atQ a) (atQ b) i j
          have w2 := pcRow_next v2 (atQ a) (atQ b) i j
          have w3 := pcRow_next v3 (atQ a) (atQ b) i j
          by_cases hj : j < i
          · have hja : j < a.length := by omega
            have hjb : j < b.length := by omega
            have km := hp.1.2 _ (getD_mem (d := rr0) hja)
            have km2 := hp.2.2 _ (getD_mem (d := rr0) hjb)
            have hpr : cmpQ (a.getD i rr0).q (a.getD j rr0).q * cmpQ (b.getD i rr0).q (b.getD j rr0).q = pr (atQ a) (atQ b) i j := rfl
            have hbd := pr_bd (atQ a) (atQ b) i j
            generalize hg : pr (atQ a) (atQ b) i j = t at *
            by_cases c1 : t = 1
            · have u1 : v1 t = 1 := by unfold v1; rw [if_pos c1]
              have u2 : v2 t = 0 := by unfold v2; rw [if_neg (by omega)]
              have u3 : v3 t = 0 := by unfold v3; rw [if_pos c1]
              rw [u1] at w1; rw [u2] at w2; rw [u3] at w3
              simp only [go_sem, d_ref2_Cmp, Int.ofNat_lt, decide_true, decide_false, Bool.not_true, Bool.not_false, hlt, getD_rats hi, getD_ratsI hi, hi, getD_rats hi2, getD_ratsI hi2, hi2, getD_rats hja, getD_ratsI hja, getD_rats hjb, getD_ratsI hjb, hj, hja, hjb, hpr, c1, Nat.reduceBEq, Nat.reduceBNe, Nat.reduceLT, Nat.reduceLeDiff, Nat.reduceAdd, Nat.reduceSub, Nat.reduceMul, Nat.reduceEqDiff, Int.reduceNeg, Int.reduceAdd, Int.reduceLT, Int.reduceLE, Int.reduceToNat, ↓reduceIte]
              ((try and_intros) <;> first | exact trivial | omega | (show okDraw _ _ = true; kernel_rfl) | (show ∃ _, _; exact ⟨⟨j + 1, by omega⟩, by show i - (j + 1) < i - j; omega, le_of (by simp only [go_sem, leL, w1, w2, w3, Nat.reduceBEq, Nat.reduceBNe, Nat.reduceLT, Nat.reduceLeDiff, Nat.reduceAdd, Nat.reduceSub, Nat.reduceMul, Nat.reduceEqDiff, Int.reduceNeg, Int.reduceAdd, Int.reduceLT, Int.reduceLE, Int.reduceToNat, ↓reduceIte]; omega)⟩))
            · by_cases c2 : t = -1
              · have u1 : v1 t = 0 := by unfold v1; rw [if_neg c1]
                have u2 : v2 t = 1 := by unfold v2; rw [if_pos c2]
                have u3 : v3 t = 0 := by unfold v3; rw [if_neg c1, if_pos c2]
                rw [u1] at w1; rw [u2] at w2; rw [u3] at w3
                simp only [go_sem, d_ref2_Cmp, Int.ofNat_lt, decide_true, decide_false, Bool.not_true, Bool.not_false, hlt, getD_rats hi, getD_ratsI hi, hi, getD_rats hi2, getD_ratsI hi2, hi2, getD_rats hja, getD_ratsI hja, getD_rats hjb, getD_ratsI hjb, hj, hja, hjb, hpr, c1, c2, Nat.reduceBEq, Nat.reduceBNe, Nat.reduceLT, Nat.reduceLeDiff, Nat.reduceAdd, Nat.reduceSub, Nat.reduceMul, Nat.reduceEqDiff, Int.reduceNeg, Int.reduceAdd, Int.reduceLT, Int.reduceLE, Int.reduceToNat, ↓reduceIte]
                ((try and_intros) <;> first | exact trivial | omega | (show okDraw _ _ = true; kernel_rfl) | (show ∃ _, _; exact ⟨⟨j + 1, by omega⟩, by show i - (j + 1) < i - j; omega, le_of (by simp only [go_sem, leL, w1, w2, w3, Nat.reduceBEq, Nat.reduceBNe, Nat.reduceLT, Nat.reduceLeDiff, Nat.reduceAdd, Nat.reduceSub, Nat.reduceMul, Nat.reduceEqDiff, Int.reduceNeg, Int.reduceAdd, Int.reduceLT, Int.reduceLE, Int.reduceToNat, ↓reduceIte]; omega)⟩))
              · have u1 : v1 t = 0 := by unfold v1; rw [if_neg c1]
                have u2 : v2 t = 0 := by unfold v2; rw [if_neg c2]
                have u3 : v3 t = 1 := by unfold v3; rw [if_neg c1, if_neg c2]
                rw [u1] at w1; rw [u2] at w2; rw [u3] at w3
                simp only [go_sem, d_ref2_Cmp, Int.ofNat_lt, decide_true, decide_false, Bool.not_true, Bool.not_false, hlt, getD_rats hi, getD_ratsI hi, hi, getD_rats hi2, getD_ratsI hi2, hi2, getD_rats hja, getD_ratsI hja, getD_rats hjb, getD_ratsI hjb, hj, hja, hjb, hpr, c1, c2, Nat.reduceBEq, Nat.reduceBNe, Nat.reduceLT, Nat.reduceLeDiff, Nat.reduceAdd, Nat.reduceSub, Nat.reduceMul, Nat.reduceEqDiff, Int.reduceNeg, Int.reduceAdd, Int.reduceLT, Int.reduceLE, Int.reduceToNat, ↓reduceIte]
                ((try and_intros) <;> first | exact trivial | omega | (show okDraw _ _ = true; kernel_rfl) | (show ∃ _, _; exact ⟨⟨j + 1, by omega⟩, by show i - (j + 1) < i - j; omega, le_of (by simp only [go_sem, leL, w1, w2, w3, Nat.reduceBEq, Nat.reduceBNe, Nat.reduceLT, Nat.reduceLeDiff, Nat.reduceAdd, Nat.reduceSub, Nat.reduceMul, Nat.reduceEqDiff, Int.reduceNeg, Int.reduceAdd, Int.reduceLT, Int.reduceLE, Int.reduceToNat, ↓reduceIte]; omega)⟩))
          · have ej : j = i := by omega
            subst ej
            have e1 := pc_next v1 (atQ a) (atQ b) j
            have e2 := pc_next v2 (atQ a) (atQ b) j
            have e3 := pc_next v3 (atQ a) (atQ b) j
            simp only [go_sem, d_ref2_Cmp, Int.ofNat_lt, decide_true, decide_false, Bool.not_true, Bool.not_false, hlt, getD_rats hi, getD_ratsI hi, hi, getD_rats hi2, getD_ratsI hi2, hi2, Nat.lt_irrefl, Nat.reduceBEq, Nat.reduceBNe, Nat.reduceLT, Nat.reduceLeDiff, Nat.reduceAdd, Nat.reduceSub, Nat.reduceMul, Nat.reduceEqDiff, Int.reduceNeg, Int.reduceAdd, Int.reduceLT, Int.reduceLE, Int.reduceToNat, ↓reduceIte]
            exact ⟨⟨by omega, by omega⟩, ⟨j + 1, by omega⟩, by show a.length - (j + 1) < a.length - j; omega, le_of (by simp only [go_sem, leL, e1, e2, e3, Nat.reduceBEq, Nat.reduceBNe, Nat.reduceLT, Nat.reduceLeDiff, Nat.reduceAdd, Nat.reduceSub, Nat.reduceMul, Nat.reduceEqDiff, Int.reduceNeg, Int.reduceAdd, Int.reduceLT, Int.reduceLE, Int.reduceToNat, ↓reduceIte]; omega)⟩
      · simp only [go_sem, d_ref2_Cmp, Int.ofNat_lt, decide_true, decide_false, Bool.not_true, Bool.not_false, hlt, hi, Nat.reduceBEq, Nat.reduceBNe, Nat.reduceLT, Nat.reduceLeDiff, Nat.reduceAdd, Nat.reduceSub, Nat.reduceMul, Nat.reduceEqDiff, Int.reduceNeg, Int.reduceAdd, Int.reduceLT, Int.reduceLE, Int.reduceToNat, ↓reduceIte]
        have e : i = a.length := by omega
        subst e
        rw [if_pos hl, if_pos hl, if_pos hl, if_pos hl]
        first | exact ⟨rfl, rfl, rfl, rfl⟩ | trivial
  · have hlt : (((a.length : Nat) : Int) = b.length) = False := eq_false (by omega)
    simp only [go_sem, d_ref2_Cmp, Int.ofNat_lt, decide_true, decide_false, Bool.not_true, Bool.not_false, hlt, Nat.reduceBEq, Nat.reduceBNe, Nat.reduceLT, Nat.reduceLeDiff, Nat.reduceAdd, Nat.reduceSub, Nat.reduceMul, Nat.reduceEqDiff, Int.reduceNeg, Int.reduceAdd, Int.reduceLT, Int.reduceLE, Int.reduceToNat, ↓reduceIte]
    rw [if_neg hl, if_neg hl, if_neg hl, if_neg hl]
    first | exact ⟨rfl, rfl, rfl, rfl⟩ | trivial

def d_ref18_Kendall : Den := den2 aRats aRats (fun a b => (a.length ≤ 1000 ∧ ∀ r ∈ a, r.sz ≤ 1000) ∧ b.length ≤ 1000 ∧ ∀ r ∈ b, r.sz ≤ 1000) fun a b => ratIntV (cr (kenQ a b)) (errP a b)
set_option maxRecDepth 100000 in
set_option maxHeartbeats 1000000 in
theorem s_ref18_Kendall : Sound Try.prog 58 d_ref18_Kendall := by
  refine sound2 (fz := nofz) (l := [(56, d_ref18_Pairs), (39, d_ref2_Int), (98, d_ref2_Div)]) TT_ok ⟨s_ref18_Pairs, s_ref2_Int, s_ref2_Div, trivial⟩ mixed Try.func58 Try.ntmps58 Try.results58 Try.call58 rfl (by omega) (fun _ _ => rfl) ?_
  intro a b hp ha hb
  rw [codeK_start]
  have hla := hp.1.1
  have x1 := pc_bound v1_bd (atQ a) (atQ b) hla
  have x2 := pc_bound v2_bd (atQ a) (atQ b) hla
  have x3 := pc_bound v3_bd (atQ a) (atQ b) hla
  have z1 : rs ((pc v1 (atQ a) (atQ b) a.length - pc v2 (atQ a) (atQ b) a.length : Int) : Rat) ≤ 2 := rsb_int (by omega) (by omega) (by omega)
  have z2 : rs ((pc v1 (atQ a) (atQ b) a.length + pc v2 (atQ a) (atQ b) a.length + pc v3 (atQ a) (atQ b) a.length : Int) : Rat) ≤ 2 := rsb_int (by omega) (by omega) (by omega)
  unfold kenQ errP
  by_cases hl0 : a.length = b.length
  · have hl : (a.length = b.length) = True := eq_true hl0
    by_cases h2 : a.length < 2
    · have h3 : (((a.length : Nat) : Int) < 2) = True := eq_true (by omega)
      simp only [go_sem, d_ref18_Pairs, d_ref2_Int, d_ref2_Div, int0, decide_true, decide_false, Bool.not_true, Bool.not_false, if_true, if_false, hl, h2, h3, Nat.reduceBEq, Nat.reduceBNe, Nat.reduceLT, Nat.reduceLeDiff, Nat.reduceAdd, Nat.reduceSub, Nat.reduceMul, Nat.reduceEqDiff, Int.reduceNeg, Int.reduceAdd, Int.reduceLT, Int.reduceLE, Int.reduceToNat, ↓reduceIte]
      ((try and_intros) <;> first | exact trivial | assumption | exact hp.1.2 | exact hp.2.2 | omega | (show okDraw _ _ = true; kernel_rfl) | rfl)
    · have h3 : (((a.length : Nat) : Int) < 2) = False := eq_false (by omega)
      simp only [go_sem, d_ref18_Pairs, d_ref2_Int, d_ref2_Div, int0, decide_true, decide_false, Bool.not_true, Bool.not_false, if_true, if_false, hl, h2, h3, Nat.reduceBEq, Nat.reduceBNe, Nat.reduceLT, Nat.reduceLeDiff, Nat.reduceAdd, Nat.reduceSub, Nat.reduceMul, Nat.reduceEqDiff, Int.reduceNeg, Int.reduceAdd, Int.reduceLT, Int.reduceLE, Int.reduceToNat, ↓reduceIte]
      ((try and_intros) <;> first | exact trivial | assumption | exact hp.1.2 | exact hp.2.2 | omega | (show okDraw _ _ = true; kernel_rfl) | rfl)
  · have hl : (a.length = b.length) = False := eq_false hl0
    simp only [go_sem, d_ref18_Pairs, d_ref2_Int, d_ref2_Div, int0, decide_true, decide_false, Bool.not_true, Bool.not_false, if_true, if_false, hl, Nat.reduceBEq, Nat.reduceBNe, Nat.reduceLT, Nat.reduceLeDiff, Nat.reduceAdd, Nat.reduceSub, Nat.reduceMul, Nat.reduceEqDiff, Int.reduceNeg, Int.reduceAdd, Int.reduceLT, Int.reduceLE, Int.reduceToNat, ↓reduceIte]
    ((try and_intros) <;> first | exact trivial | assumption | exact hp.1.2 | exact hp.2.2 | omega | (show okDraw _ _ = true; kernel_rfl) | rfl)

def d_ref18_Spearman : Den := den2 aRats aRats (fun a b => (a.length ≤ 1000 ∧ ∀ r ∈ a, r.sz ≤ 1000) ∧ b.length ≤ 1000 ∧ ∀ r ∈ b, r.sz ≤ 1000) fun a b => ratIntsV (cr (speQ a b)) (speS a b) (speE a b)
set_option maxRecDepth 100000 in
set_option maxHeartbeats 1000000 in
theorem s_ref18_Spearman : Sound Try.prog 60 d_ref18_Spearman := by
  refine sound2 (fz := nofz) (l := [(39, d_ref2_Int), (61, d_ref18_Ranks), (100, d_ref17_Variance), (101, d_ref17_Covariance), (30, d_ref2_Mul), (98, d_ref2_Div), (38, d_ref2_Cmp)]) TT_ok ⟨s_ref2_Int, s_ref18_Ranks, s_ref17_Variance, s_ref17_Covariance, s_ref2_Mul, s_ref2_Div, s_ref2_Cmp, trivial⟩ mixed Try.func60 Try.ntmps60 Try.results60 Try.call60 rfl (by omega) (fun _ _ => rfl) ?_
  intro a b hp ha hb
  rw [codeK_start]
  have hla := hp.1.1
  have hlb := hp.2.1
  have la := ranksL_len a
  have lb := ranksL_len b
  have xa := ranksL_sz hla
  have xb := ranksL_sz hlb
  have c1 := rs_rkC hla hlb
  have c2 := rs_rkC hla hla
  have c3 := rs_rkC hlb hlb
  have m1 : rs (rkC a b * rkC a b) ≤ 4400004000 := rsb_mul c1 c1 (by omega)
  have m2 : rs (rkC a a * rkC b b) ≤ 4400004000 := rsb_mul c2 c3 (by omega)
  have e0 := errC_ranks a b
  have r1 : covQ (ranksL a) (ranksL b) = rkC a b := rfl
  have r2 : covQ (ranksL a) (ranksL a) = rkC a a := rfl
  have r3 : covQ (ranksL b) (ranksL b) = rkC b b := rfl
  have hpa : (ranksL a).length ≤ 1000 ∧ ∀ r ∈ ranksL a, r.sz ≤ 1000 := ⟨by omega, xa⟩
  have hpb : (ranksL b).length ≤ 1000 ∧ ∀ r ∈ ranksL b, r.sz ≤ 1000 := ⟨by omega, xb⟩
  have t0 : rs (0 : Rat) ≤ 1 := rs0 (by omega)
  unfold speQ speS speE
  unfold errP
  have ea := errC_ranks a a
  have eb := errC_ranks b b
  by_cases hl : a.length = b.length
  · have hl1 : (a.length = b.length) = True := eq_true hl
    have hlt : (((a.length : Nat) : Int) = b.length) = True := eq_true (by omega)
    by_cases h2 : a.length < 2
    · have h3 : (((a.length : Nat) : Int) < 2) = True := eq_true (by omega)
      simp only [go_sem, d_ref2_Int, d_ref18_Ranks, d_ref17_Variance, d_ref17_Covariance, d_ref2_Mul, d_ref2_Div, d_ref2_Cmp, int0, decide_true, decide_false, Bool.not_true, Bool.not_false, if_true, if_false, r1, r2, r3, hl1, hlt, h2, h3, Nat.reduceBEq, Nat.reduceBNe, Nat.reduceLT, Nat.reduceLeDiff, Nat.reduceAdd, Nat.reduceSub, Nat.reduceMul, Nat.reduceEqDiff, Int.reduceNeg, Int.reduceAdd, Int.reduceLT, Int.reduceLE, Int.reduceToNat, ↓reduceIte]
      ((try and_intros) <;> first | exact trivial | assumption | exact hp.1.2 | exact hp.2.2 | exact hp.1 | exact hp.2 | exact ⟨hpa, hpb⟩ | omega | (show okDraw _ _ = true; kernel_rfl) | rfl)
    · have h3 : (((a.length : Nat) : Int) < 2) = False := eq_false (by omega)
      by_cases hz : rkC a a * rkC b b = 0
      · have e2 : (rkC a a * rkC b b = 0) = True := eq_true hz
        simp only [go_sem, d_ref2_Int, d_ref18_Ranks, d_ref17_Variance, d_ref17_Covariance, d_ref2_Mul, d_ref2_Div, d_ref2_Cmp, int0, decide_true, decide_false, Bool.not_true, Bool.not_false, if_true, if_false, r1, r2, r3, hl1, hlt, h2, h3, e2, Nat.reduceBEq, Nat.reduceBNe, Nat.reduceLT, Nat.reduceLeDiff, Nat.reduceAdd, Nat.reduceSub, Nat.reduceMul, Nat.reduceEqDiff, Int.reduceNeg, Int.reduceAdd, Int.reduceLT, Int.reduceLE, Int.reduceToNat, ↓reduceIte]
        try rw [hz, div_zero']
        ((try and_intros) <;> first | exact trivial | assumption | exact hp.1.2 | exact hp.2.2 | exact hp.1 | exact hp.2 | exact ⟨hpa, hpb⟩ | omega | (show okDraw _ _ = true; kernel_rfl) | rfl)
      · have e2 : (rkC a a * rkC b b = 0) = False := eq_false hz
        simp only [go_sem, d_ref2_Int, d_ref18_Ranks, d_ref17_Variance, d_ref17_Covariance, d_ref2_Mul, d_ref2_Div, d_ref2_Cmp, int0, decide_true, decide_false, Bool.not_true, Bool.not_false, if_true, if_false, r1, r2, r3, hl1, hlt, h2, h3, e2, Nat.reduceBEq, Nat.reduceBNe, Nat.reduceLT, Nat.reduceLeDiff, Nat.reduceAdd, Nat.reduceSub, Nat.reduceMul, Nat.reduceEqDiff, Int.reduceNeg, Int.reduceAdd, Int.reduceLT, Int.reduceLE, Int.reduceToNat, ↓reduceIte]
        ((try and_intros) <;> first | exact trivial | assumption | exact hp.1.2 | exact hp.2.2 | exact hp.1 | exact hp.2 | exact ⟨hpa, hpb⟩ | omega | (show okDraw _ _ = true; kernel_rfl) | rfl)
  · have hl1 : (a.length = b.length) = False := eq_false hl
    have hlt : (((a.length : Nat) : Int) = b.length) = False := eq_false (by omega)
    simp only [go_sem, d_ref2_Int, d_ref18_Ranks, d_ref17_Variance, d_ref17_Covariance, d_ref2_Mul, d_ref2_Div, d_ref2_Cmp, int0, decide_true, decide_false, Bool.not_true, Bool.not_false, if_true, if_false, r1, r2, r3, hl1, hlt, Nat.reduceBEq, Nat.reduceBNe, Nat.reduceLT, Nat.reduceLeDiff, Nat.reduceAdd, Nat.reduceSub, Nat.reduceMul, Nat.reduceEqDiff, Int.reduceNeg, Int.reduceAdd, Int.reduceLT, Int.reduceLE, Int.reduceToNat, ↓reduceIte]
    ((try and_intros) <;> first | exact trivial | assumption | exact hp.1.2 | exact hp.2.2 | exact hp.1 | exact hp.2 | exact ⟨hpa, hpb⟩ | omega | (show okDraw _ _ = true; kernel_rfl) | rfl)


end Go.Proofs.Ytpppgmgdcpaffaa
