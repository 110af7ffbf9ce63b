/- The law StatOwn. Condition: rows shorter than 10^14. -/
import Derived.Test.YtifnpelkoklcnaaLm
import Derived.Test.YtifnpelkoklcnaaLh
import Derived.Test.YtifnpelkoklcnaaBj
namespace Go.Proofs.Ytifnpelkoklcnaa
open Go.RowKit
set_option linter.unusedSimpArgs false
set_option linter.unusedVariables false
def sumq : List RR → Rat
  | [] => 0
  | r :: t => r.q + sumq t
theorem sumTo_sumq : ∀ l : List RR, sumTo (atQ l) l.length = sumq l
  | [] => rfl
  | r :: t => by
    rw [List.length_cons, sumTo_shift]
    show r.q + sumTo (fun i => atQ t i) t.length = r.q + sumq t
    rw [show (fun i => atQ t i) = atQ t from rfl, sumTo_sumq t]
theorem sumq_perm {l m : List RR} (h : l.Perm m) : sumq l = sumq m := by
  induction h with
  | nil => rfl
  | cons x _ ih => show x.q + _ = x.q + _; rw [ih]
  | swap x y l => show y.q + (x.q + sumq l) = x.q + (y.q + sumq l); rw [← Rat.add_assoc, ← Rat.add_assoc, Rat.add_comm y.q x.q]
  | trans _ _ h1 h2 => exact h1.trans h2
theorem sum_sort (l : List RR) : sumTo (atQ (sortR l)) l.length = sumTo (atQ l) l.length := by
  have h := sumq_perm (isort_perm (mkL (atQ l) l.length))
  have e : (isort (mkL (atQ l) l.length)).length = l.length := by rw [isort_len, mkL_len]
  have e2 : (mkL (atQ l) l.length).length = l.length := mkL_len _ _
  rw [← sumTo_sumq, ← sumTo_sumq, e, e2] at h
  exact h.trans (sumTo_congr fun i hi => mkL_at _ hi)
/-- the first i numbers laid anew -/
def fillR (l : List RR) (x : RR) (i : Nat) : List RR := List.replicate i x ++ l.drop i
theorem fillR_zero (l : List RR) (x : RR) : fillR l x 0 = l := rfl
theorem fillR_len {l : List RR} {x : RR} {i : Nat} (h : i ≤ l.length) : (fillR l x i).length = l.length := by unfold fillR; simp; omega
theorem fillR_at {l : List RR} {x : RR} {i : Nat} (h : i < l.length) : (fillR l x i).getD i rr0 = l.getD i rr0 := by
  unfold fillR
  rw [List.getD_eq_getElem?_getD, List.getD_eq_getElem?_getD, List.getElem?_append_right (by simp)]
  simp
theorem fillR_next {l : List RR} {x : RR} {i : Nat} (h : i < l.length) : ((fillR l x i).map ratCells).set i (ratCells x) = (fillR l x (i + 1)).map ratCells := by
  rw [← List.map_set]
  congr 1
  unfold fillR
  rw [List.set_append_right _ _ (by simp), List.length_replicate, Nat.sub_self, List.drop_eq_getElem_cons h, List.set_cons_zero, List.replicate_succ']
  simp
theorem own_fa {N : Nat} {fn : Nat → Option Den} {fz : Nat → List Nat} {id t i : Nat} : fieldAddrAV ⟨N, TT, fn, fz⟩ desc_api_Rat 0 [.one (.cel (.rp id t i))] = (True, .one (.cel (.rp id 1 (i * t + 0)))) :=
  Prod.ext (eq_true (show 1 ≠ 0 by omega)) rfl
theorem own_neg {id i : Nat} {rows : List (List CV)} : loadAV (some ti_bool) [.one (.cel (.rp id 1 (i * 3 + 0)))] [some (.row (.gen 3 rows))] = (i < rows.length, .one (.cel (((rows.getD i []).getD 0 .any).strip))) := by
  have e : loadAV (some ti_bool) [.one (.cel (.rp id 1 (i * 3 + 0)))] [some (.row (.gen 3 rows))] = (1 = 1 ∧ i * 3 + 0 < 3 * rows.length, .one (.cel (((rows.getD ((i * 3 + 0) / 3) []).getD ((i * 3 + 0) % 3) .any).strip))) := rfl
  rw [e, show (i * 3 + 0) / 3 = i by omega, show (i * 3 + 0) % 3 = 0 by omega]
  exact Prod.ext (propext ⟨fun h => by omega, fun h => ⟨rfl, by omega⟩⟩) rfl
def fz_StatOwn : Nat → List Nat
  | 1000011 => [1]
  | _ => []
def d_law17_StatOwn : Den := den1 aRats (fun l => (l.length ≤ 100000000000000 ∧ ∀ r ∈ l, r.sz ≤ 100000000000000)) fun l => boolV true
set_option maxRecDepth 100000 in
set_option maxHeartbeats 8000000 in
theorem s_law17_StatOwn : Sound Try.prog 11 d_law17_StatOwn := by
  refine sound1 (fz := fz_StatOwn) (l := [(53, d_law17_much), (2000000 + 58, denSorted), (2000000 + 56, denAny d_stat_Median), (2000000 + 61, denAny d_stat_Variance), (48, d_ref2_Same), (24, d_ref2_Int), (62, d_stat_Sum), (60, d_law17_known)]) TT_ok ⟨s_law17_much, sm_stat_Sorted, soundM_any s_stat_Median, soundM_any s_stat_Variance, s_ref2_Same, s_ref2_Int, s_stat_Sum, s_law17_known, trivial⟩ mixed Try.func11 Try.ntmps11 Try.results11 Try.call11 rfl (by omega) (fun _ => rfl) ?_
  intro l hp hl
  rw [codeK_start]
  have zl := hp
  have hallb : ∀ r ∈ [l], r.length ≤ 100000000000000 ∧ ∀ x ∈ r, x.sz ≤ 100000000000000 := by
    intro r hr
    simp only [List.mem_cons, List.not_mem_nil, or_false] at hr
    rcases hr with rfl <;> assumption
  by_cases hw : [l].any muchL = true
  · skip
    simp only [go_sem, d_law17_much, d_stat_Median, d_stat_Variance, d_ref2_Same, d_ref2_Int, d_stat_Sum, d_law17_known, fz_StatOwn, List.replicate_zero, List.nil_append, chgOut, chgAV, chgEff, valEff, chgB, chgK, rowOf, cvRow, denSorted, denAny, rowsRats_map, hw, Nat.reduceBEq, Nat.reduceBNe, Nat.reduceLT, Nat.reduceLeDiff, Nat.reduceAdd, Nat.reduceSub, Nat.reduceMul, Nat.reduceEqDiff, Int.reduceNeg, Int.reduceAdd, Int.reduceLT, Int.reduceLE, Int.reduceToNat, ↓reduceIte]
    first | exact hallb | (and_intros <;> first | exact hallb | assumption | trivial | (show okDraw _ _ = true; kernel_rfl))
  rw [Bool.not_eq_true] at hw
  obtain ⟨ul, vl⟩ := much_facts (any_false hw l (by simp))
  have pl : l.length ≤ 1000 ∧ ∀ r ∈ l, r.sz ≤ 1000 := ⟨by omega, fun r hr => Nat.le_trans (vl r hr) (by omega)⟩
  have pl1 := pl.1
  have pl2 := pl.2
  have ol := offs_bound hl pl
  have ql := rs_atQ hl pl.2 (by omega)
  have sl : rs (sumTo (atQ l) l.length) ≤ 1000 * (1000 + 1) + 1 := sumQ_bound ql pl.1
  have ml := rs_meanQ ql pl.1
  have pl3 : l.length < 20 := by omega
  have srl := sortR_len l
  have sz := sortR_sz ql
  have ess := sum_sort l
  have ps : (sortR l).length ≤ 1000 ∧ ∀ r ∈ sortR l, r.sz ≤ 1000 := ⟨by omega, sz⟩
  have oks : ∀ r ∈ l, r.ok := hl
  have qs : ∀ i, rs (atQ (sortR l) i) ≤ 1000 := fun i => by
    rcases Nat.lt_or_ge i l.length with h | h
    · have e := sortR_cr l h
      have h2 := sz _ (getD_mem (d := rr0) (l := sortR l) (i := i) (by omega))
      rw [e, cr_sz] at h2
      exact h2
    · have e : atQ (sortR l) i = 0 := by
        unfold atQ
        rw [List.getD_eq_getElem?_getD, List.getElem?_eq_none (by omega)]
        rfl
      rw [e]; exact rs0 (by omega)
  have ss := sumQ_bound qs ps.1
  have htk : List.take l.length (l.map ratCells) = l.map ratCells := List.take_of_length_le (by rw [List.length_map]; omega)
  refine cut_seq fun C hC => ?_
  simp only [go_sem, d_law17_much, d_stat_Median, d_stat_Variance, d_ref2_Same, d_ref2_Int, d_stat_Sum, d_law17_known, fz_StatOwn, List.replicate_zero, List.nil_append, chgOut, chgAV, chgEff, valEff, chgB, chgK, rowOf, cvRow, denSorted, denAny, rowsRats_map, hw, beq_self_eq_true, bne_self_eq_false, eq_self, decide_true, decide_false, Bool.not_true, Bool.not_false, int0, int1, List.length_map, Nat.reduceBEq, Nat.reduceBNe, Nat.reduceLT, Nat.reduceLeDiff, Nat.reduceAdd, Nat.reduceSub, Nat.reduceMul, Nat.reduceEqDiff, Int.reduceNeg, Int.reduceAdd, Int.reduceLT, Int.reduceLE, Int.reduceToNat, ↓reduceIte]
  try and_intros
  all_goals try (first | omega | (show okDraw _ _ = true; kernel_rfl) | exact hallb | assumption)
  subst hC
  refine cut_seq fun C hC => ?_
  simp only [go_sem, d_law17_much, d_stat_Median, d_stat_Variance, d_ref2_Same, d_ref2_Int, d_stat_Sum, d_law17_known, fz_StatOwn, List.replicate_zero, List.nil_append, chgOut, chgAV, chgEff, valEff, chgB, chgK, rowOf, cvRow, denSorted, denAny, rowsRats_map, hw, beq_self_eq_true, bne_self_eq_false, eq_self, decide_true, decide_false, Bool.not_true, Bool.not_false, int0, int1, List.length_map, Nat.reduceBEq, Nat.reduceBNe, Nat.reduceLT, Nat.reduceLeDiff, Nat.reduceAdd, Nat.reduceSub, Nat.reduceMul, Nat.reduceEqDiff, Int.reduceNeg, Int.reduceAdd, Int.reduceLT, Int.reduceLE, Int.reduceToNat, ↓reduceIte]
  try and_intros
  all_goals try (first | omega | (show okDraw _ _ = true; kernel_rfl) | exact hallb | assumption)
  subst hC
  refine cut_seq fun C hC => ?_
  simp only [go_sem, d_law17_much, d_stat_Median, d_stat_Variance, d_ref2_Same, d_ref2_Int, d_stat_Sum, d_law17_known, fz_StatOwn, List.replicate_zero, List.nil_append, chgOut, chgAV, chgEff, valEff, chgB, chgK, rowOf, cvRow, denSorted, denAny, rowsRats_map, hw, beq_self_eq_true, bne_self_eq_false, eq_self, decide_true, decide_false, Bool.not_true, Bool.not_false, int0, int1, List.length_map, Nat.reduceBEq, Nat.reduceBNe, Nat.reduceLT, Nat.reduceLeDiff, Nat.reduceAdd, Nat.reduceSub, Nat.reduceMul, Nat.reduceEqDiff, Int.reduceNeg, Int.reduceAdd, Int.reduceLT, Int.reduceLE, Int.reduceToNat, ↓reduceIte]
  try and_intros
  all_goals try (first | omega | (show okDraw _ _ = true; kernel_rfl) | exact hallb | assumption)
  subst hC
  refine cut_seq fun C hC => ?_
  simp only [go_sem, d_law17_much, d_stat_Median, d_stat_Variance, d_ref2_Same, d_ref2_Int, d_stat_Sum, d_law17_known, fz_StatOwn, List.replicate_zero, List.nil_append, chgOut, chgAV, chgEff, valEff, chgB, chgK, rowOf, cvRow, denSorted, denAny, rowsRats_map, hw, beq_self_eq_true, bne_self_eq_false, eq_self, decide_true, decide_false, Bool.not_true, Bool.not_false, int0, int1, List.length_map, Nat.reduceBEq, Nat.reduceBNe, Nat.reduceLT, Nat.reduceLeDiff, Nat.reduceAdd, Nat.reduceSub, Nat.reduceMul, Nat.reduceEqDiff, Int.reduceNeg, Int.reduceAdd, Int.reduceLT, Int.reduceLE, Int.reduceToNat, ↓reduceIte]
  try and_intros
  all_goals try (first | omega | (show okDraw _ _ = true; kernel_rfl) | exact hallb | assumption)
  subst hC
  refine cut_seq fun C hC => ?_
  simp only [go_sem, d_law17_much, d_stat_Median, d_stat_Variance, d_ref2_Same, d_ref2_Int, d_stat_Sum, d_law17_known, fz_StatOwn, List.replicate_zero, List.nil_append, chgOut, chgAV, chgEff, valEff, chgB, chgK, rowOf, cvRow, denSorted, denAny, rowsRats_map, hw, beq_self_eq_true, bne_self_eq_false, eq_self, decide_true, decide_false, Bool.not_true, Bool.not_false, int0, int1, List.length_map, Nat.reduceBEq, Nat.reduceBNe, Nat.reduceLT, Nat.reduceLeDiff, Nat.reduceAdd, Nat.reduceSub, Nat.reduceMul, Nat.reduceEqDiff, Int.reduceNeg, Int.reduceAdd, Int.reduceLT, Int.reduceLE, Int.reduceToNat, ↓reduceIte]
  try and_intros
  all_goals try (first | omega | (show okDraw _ _ = true; kernel_rfl) | exact hallb | assumption)
  subst hC
  refine cut_seq fun C hC => ?_
  simp only [go_sem, d_law17_much, d_stat_Median, d_stat_Variance, d_ref2_Same, d_ref2_Int, d_stat_Sum, d_law17_known, fz_StatOwn, List.replicate_zero, List.nil_append, chgOut, chgAV, chgEff, valEff, chgB, chgK, rowOf, cvRow, denSorted, denAny, rowsRats_map, hw, beq_self_eq_true, bne_self_eq_false, eq_self, decide_true, decide_false, Bool.not_true, Bool.not_false, int0, int1, List.length_map, Nat.reduceBEq, Nat.reduceBNe, Nat.reduceLT, Nat.reduceLeDiff, Nat.reduceAdd, Nat.reduceSub, Nat.reduceMul, Nat.reduceEqDiff, Int.reduceNeg, Int.reduceAdd, Int.reduceLT, Int.reduceLE, Int.reduceToNat, ↓reduceIte]
  try and_intros
  all_goals try (first | omega | (show okDraw _ _ = true; kernel_rfl) | exact hallb | assumption)
  subst hC
  refine cut_seq fun C hC => ?_
  simp only [go_sem, d_law17_much, d_stat_Median, d_stat_Variance, d_ref2_Same, d_ref2_Int, d_stat_Sum, d_law17_known, fz_StatOwn, List.replicate_zero, List.nil_append, chgOut, chgAV, chgEff, valEff, chgB, chgK, rowOf, cvRow, denSorted, denAny, rowsRats_map, hw, beq_self_eq_true, bne_self_eq_false, eq_self, decide_true, decide_false, Bool.not_true, Bool.not_false, int0, int1, List.length_map, Nat.reduceBEq, Nat.reduceBNe, Nat.reduceLT, Nat.reduceLeDiff, Nat.reduceAdd, Nat.reduceSub, Nat.reduceMul, Nat.reduceEqDiff, Int.reduceNeg, Int.reduceAdd, Int.reduceLT, Int.reduceLE, Int.reduceToNat, ↓reduceIte]
  refine codeK_loop (fun i : { i : Nat // i ≤ l.length } => [(5, 0, .av (intV ((i.1 : Nat) : Int))), (3, 0, .av (.one (.cel (.rf 11 l.length)))), (11, 1, .row (.gen 3 ((fillR l (cr ((9 : Int) : Rat)) (i.1)).map ratCells))), (4, 0, .av (ratsV (sortR l))), (0, 0, .av (ratsV l))]) (fun i => l.length - i.1) ⟨0, by omega⟩ (le_of ?_) ?_
  · simp only [go_sem, leL, fillR_zero, Nat.reduceBEq, Nat.reduceBNe, Nat.reduceLT, Nat.reduceLeDiff, Nat.reduceAdd, Nat.reduceSub, Nat.reduceMul, Nat.reduceEqDiff, Int.reduceNeg, Int.reduceAdd, Int.reduceLT, Int.reduceLE, Int.reduceToNat, ↓reduceIte, Int.ofNat_zero, Int.natCast_zero, Int.cast_ofNat_Int]
  · rintro ⟨i, hi0⟩
    have hi0 : i ≤ l.length := hi0
    have hfl := fillR_len (x := cr ((9 : Int) : Rat)) hi0
    by_cases hi : i < l.length
    · have hfi : i < (fillR l (cr ((9 : Int) : Rat)) i).length := by omega
      have hat := fillR_at (x := cr ((9 : Int) : Rat)) hi
      have hnx := fillR_next (x := cr ((9 : Int) : Rat)) hi
      have hm := pl.2 _ (getD_mem (d := rr0) hi)
      have hfl2 := fillR_len (x := cr ((9 : Int) : Rat)) (show i + 1 ≤ l.length by omega)
      have hnx2 : ((fillR l (cr ((9 : Int) : Rat)) i).map ratCells).set i [.bool (cr ((9 : Int) : Rat)).s, .lim none (cr ((9 : Int) : Rat)).n, .lim none (cr ((9 : Int) : Rat)).d] = (fillR l (cr ((9 : Int) : Rat)) (i + 1)).map ratCells := hnx
      simp only [go_sem, d_law17_much, d_stat_Median, d_stat_Variance, d_ref2_Same, d_ref2_Int, d_stat_Sum, d_law17_known, fz_StatOwn, List.replicate_zero, List.nil_append, chgOut, chgAV, chgEff, valEff, chgB, chgK, rowOf, cvRow, denSorted, denAny, rowsRats_map, hw, beq_self_eq_true, bne_self_eq_false, eq_self, decide_true, decide_false, Bool.not_true, Bool.not_false, int0, int1, List.length_map, own_fa, own_neg, List.getD_cons_zero, hfl, hat, hnx2, getD_rats hfi, getD_ratsI hfi, getD_rats hi, getD_ratsI hi, hi, Int.ofNat_lt, Int.toNat_natCast, Nat.reduceBEq, Nat.reduceBNe, Nat.reduceLT, Nat.reduceLeDiff, Nat.reduceAdd, Nat.reduceSub, Nat.reduceMul, Nat.reduceEqDiff, Int.reduceNeg, Int.reduceAdd, Int.reduceLT, Int.reduceLE, Int.reduceToNat, ↓reduceIte]
      and_intros
      all_goals try (first | assumption | omega | exact trivial | (show okDraw _ _ = true; kernel_rfl))
      refine ⟨⟨i + 1, by omega⟩, by show l.length - (i + 1) < l.length - i; omega, le_of ?_⟩
      simp only [go_sem, leL, Nat.reduceBEq, Nat.reduceBNe, Nat.reduceLT, Nat.reduceLeDiff, Nat.reduceAdd, Nat.reduceSub, Nat.reduceMul, Nat.reduceEqDiff, Int.reduceNeg, Int.reduceAdd, Int.reduceLT, Int.reduceLE, Int.reduceToNat, ↓reduceIte]
      try omega
    · have e : i = l.length := by omega
      subst e
      simp only [go_sem, d_law17_much, d_stat_Median, d_stat_Variance, d_ref2_Same, d_ref2_Int, d_stat_Sum, d_law17_known, fz_StatOwn, List.replicate_zero, List.nil_append, chgOut, chgAV, chgEff, valEff, chgB, chgK, rowOf, cvRow, denSorted, denAny, rowsRats_map, hw, beq_self_eq_true, bne_self_eq_false, eq_self, decide_true, decide_false, Bool.not_true, Bool.not_false, int0, int1, List.length_map, Int.lt_irrefl, Nat.lt_irrefl, Nat.reduceBEq, Nat.reduceBNe, Nat.reduceLT, Nat.reduceLeDiff, Nat.reduceAdd, Nat.reduceSub, Nat.reduceMul, Nat.reduceEqDiff, Int.reduceNeg, Int.reduceAdd, Int.reduceLT, Int.reduceLE, Int.reduceToNat, ↓reduceIte]
      subst hC
      simp only [go_sem, d_law17_much, d_stat_Median, d_stat_Variance, d_ref2_Same, d_ref2_Int, d_stat_Sum, d_law17_known, fz_StatOwn, List.replicate_zero, List.nil_append, chgOut, chgAV, chgEff, valEff, chgB, chgK, rowOf, cvRow, denSorted, denAny, rowsRats_map, hw, beq_self_eq_true, bne_self_eq_false, eq_self, decide_true, decide_false, Bool.not_true, Bool.not_false, int0, int1, List.length_map, srl, ess, Nat.reduceBEq, Nat.reduceBNe, Nat.reduceLT, Nat.reduceLeDiff, Nat.reduceAdd, Nat.reduceSub, Nat.reduceMul, Nat.reduceEqDiff, Int.reduceNeg, Int.reduceAdd, Int.reduceLT, Int.reduceLE, Int.reduceToNat, ↓reduceIte]
      and_intros
      all_goals first
        | assumption
        | exact hallb
        | omega
        | exact Nat.max_le.2 ⟨by rw [cr_sz]; omega, by rw [cr_sz]; omega⟩
        | (show okDraw _ _ = true; kernel_rfl)

end Go.Proofs.Ytifnpelkoklcnaa
