/- The law StatOrders. Condition: rows shorter than 10^14. -/
import Derived.Test.YtifnpelkoklcnaaLk
import Derived.Test.YtifnpelkoklcnaaDc
import Derived.Test.YtifnpelkoklcnaaBj
namespace Go.Proofs.Ytifnpelkoklcnaa
open Go.RowKit
set_option linter.unusedSimpArgs false
set_option linter.unusedVariables false
def d_law17_StatOrders : Den := den2 aRats aRat (fun l q => (l.length ≤ 100000000000000 ∧ ∀ r ∈ l, r.sz ≤ 100000000000000) ∧ q.sz ≤ 100000000000000) fun l q => boolV true
set_option maxRecDepth 100000 in
set_option maxHeartbeats 8000000 in
theorem s_law17_StatOrders : Sound Try.prog 10 d_law17_StatOrders := by
  refine sound2 (fz := nofz) (l := [(53, d_law17_much), (54, d_stat_Quantile), (55, d_ref17_Quantile), (56, d_stat_Median), (28, d_ref2_Of), (58, d_stat_Sorted), (59, d_ref17_Sorted), (57, d_ref2_Rats), (48, d_ref2_Same), (60, d_law17_known)]) TT_ok ⟨s_law17_much, s_stat_Quantile, s_ref17_Quantile, s_stat_Median, s_ref2_Of, s_stat_Sorted, s_ref17_Sorted, s_ref2_Rats, s_ref2_Same, s_law17_known, trivial⟩ mixed Try.func10 Try.ntmps10 Try.results10 Try.call10 rfl (by omega) (fun _ _ => rfl) ?_
  intro l q hp hl hq
  rw [codeK_start]
  have zl := hp.1
  have zq := hp.2
  have hallb : ∀ r ∈ [l], r.length ≤ 100000000000000 ∧ ∀ x ∈ r, x.sz ≤ 100000000000000 := by
    intro r hr
    simp only [List.mem_cons, List.not_mem_nil, or_false] at hr
    rcases hr with rfl <;> assumption
  by_cases hw : [l].any muchL = true
  · skip
    simp only [go_sem, d_law17_much, d_stat_Quantile, d_ref17_Quantile, d_stat_Median, d_ref2_Of, d_stat_Sorted, d_ref17_Sorted, d_ref2_Rats, d_ref2_Same, d_law17_known, hw, Nat.reduceBEq, Nat.reduceBNe, Nat.reduceLT, Nat.reduceLeDiff, Nat.reduceAdd, Nat.reduceSub, Nat.reduceMul, Nat.reduceEqDiff, Int.reduceNeg, Int.reduceAdd, Int.reduceLT, Int.reduceLE, Int.reduceToNat, ↓reduceIte]
    first | exact hallb | (and_intros <;> first | exact hallb | assumption | trivial | (show okDraw _ _ = true; kernel_rfl))
  rw [Bool.not_eq_true] at hw
  obtain ⟨ul, vl⟩ := much_facts (any_false hw l (by simp))
  have pl : l.length ≤ 1000 ∧ ∀ r ∈ l, r.sz ≤ 1000 := ⟨by omega, fun r hr => Nat.le_trans (vl r hr) (by omega)⟩
  have pl1 := pl.1
  have pl2 := pl.2
  have ol := offs_bound hl pl
  have ql := rs_atQ hl pl.2 (by omega)
  have sl : rs (sumTo (atQ l) l.length) ≤ 1000 * (1000 + 1) + 1 := sumQ_bound ql pl.1
  have ml := rs_meanQ ql pl.1
  have hh : qv false (val [1]) (val [2]) = halfQ := by decide +kernel
  have hh3 : qv false 1 (val [2]) = halfQ := by decide +kernel
  have hh2 : qv false 1 2 = halfQ := by decide +kernel
  have hr := rs_half
  by_cases g0 : 1 < ((q.n.length : Nat) : Int)
  · have x0 : (1 < ((q.n.length : Nat) : Int)) = True := eq_true g0
    simp only [go_sem, d_law17_much, d_stat_Quantile, d_ref17_Quantile, d_stat_Median, d_ref2_Of, d_stat_Sorted, d_ref17_Sorted, d_ref2_Rats, d_ref2_Same, d_law17_known, hw, beq_self_eq_true, eq_self, decide_true, decide_false, Bool.not_true, Bool.not_false, int0, int1, hh, hh2, hh3, sameL_self, x0, Nat.reduceBEq, Nat.reduceBNe, Nat.reduceLT, Nat.reduceLeDiff, Nat.reduceAdd, Nat.reduceSub, Nat.reduceMul, Nat.reduceEqDiff, Int.reduceNeg, Int.reduceAdd, Int.reduceLT, Int.reduceLE, Int.reduceToNat, ↓reduceIte]
    first | exact hallb | (and_intros <;> first | exact hallb | assumption | trivial | omega | (show okDraw _ _ = true; kernel_rfl))
  have x0 : (1 < ((q.n.length : Nat) : Int)) = False := eq_false g0
  by_cases g1 : 1 < ((q.d.length : Nat) : Int)
  · have x1 : (1 < ((q.d.length : Nat) : Int)) = True := eq_true g1
    simp only [go_sem, d_law17_much, d_stat_Quantile, d_ref17_Quantile, d_stat_Median, d_ref2_Of, d_stat_Sorted, d_ref17_Sorted, d_ref2_Rats, d_ref2_Same, d_law17_known, hw, beq_self_eq_true, eq_self, decide_true, decide_false, Bool.not_true, Bool.not_false, int0, int1, hh, hh2, hh3, sameL_self, x0, x1, Nat.reduceBEq, Nat.reduceBNe, Nat.reduceLT, Nat.reduceLeDiff, Nat.reduceAdd, Nat.reduceSub, Nat.reduceMul, Nat.reduceEqDiff, Int.reduceNeg, Int.reduceAdd, Int.reduceLT, Int.reduceLE, Int.reduceToNat, ↓reduceIte]
    first | exact hallb | (and_intros <;> first | exact hallb | assumption | trivial | omega | (show okDraw _ _ = true; kernel_rfl))
  have x1 : (1 < ((q.d.length : Nat) : Int)) = False := eq_false g1
  have zq1 : q.sz ≤ 1 := by unfold RR.sz; omega
  have pl3 : l.length < 20 := by omega
  have srl := sortR_len l
  have sz := sortR_sz ql
  have rq : rs q.q ≤ 1 := rs_ok hq zq1 (by omega)
  have hall2 : (sortR l).length ≤ 1000 ∧ ∀ r ∈ sortR l, r.sz ≤ 10000000 := ⟨by omega, fun r hr => Nat.le_trans (sz r hr) (by omega)⟩
  have hall3 := hall2.2
  have qs : ∀ x : Rat, rs x ≤ 1 → rs (quantQ x l) ≤ 1000000 := fun x hx => by
    rcases Nat.eq_zero_or_pos l.length with e | e
    · have e0 : quantQ x l = 0 := by
        unfold quantQ
        rw [if_pos e]
        split <;> rfl
      rw [e0]
      exact Nat.le_trans (rs0 (K := 1) (by omega)) (by omega)
    · exact quant_size ql hx e pl3
  have qs1 := qs q.q rq
  have qs2 := qs halfQ hr
  have hm1 : (cr halfQ).sz ≤ 1 := by rw [cr_sz]; exact hr
  refine cut_seq fun C hC => ?_
  simp only [go_sem, d_law17_much, d_stat_Quantile, d_ref17_Quantile, d_stat_Median, d_ref2_Of, d_stat_Sorted, d_ref17_Sorted, d_ref2_Rats, d_ref2_Same, d_law17_known, hw, beq_self_eq_true, eq_self, decide_true, decide_false, Bool.not_true, Bool.not_false, int0, int1, hh, hh2, hh3, sameL_self, x0, x1, Nat.reduceBEq, Nat.reduceBNe, Nat.reduceLT, Nat.reduceLeDiff, Nat.reduceAdd, Nat.reduceSub, Nat.reduceMul, Nat.reduceEqDiff, Int.reduceNeg, Int.reduceAdd, Int.reduceLT, Int.reduceLE, Int.reduceToNat, ↓reduceIte]
  try and_intros
  all_goals try (first | omega | (show okDraw _ _ = true; kernel_rfl) | exact hallb | assumption)
  subst hC
  refine cut_seq fun C hC => ?_
  simp only [go_sem, d_law17_much, d_stat_Quantile, d_ref17_Quantile, d_stat_Median, d_ref2_Of, d_stat_Sorted, d_ref17_Sorted, d_ref2_Rats, d_ref2_Same, d_law17_known, hw, beq_self_eq_true, eq_self, decide_true, decide_false, Bool.not_true, Bool.not_false, int0, int1, hh, hh2, hh3, sameL_self, x0, x1, Nat.reduceBEq, Nat.reduceBNe, Nat.reduceLT, Nat.reduceLeDiff, Nat.reduceAdd, Nat.reduceSub, Nat.reduceMul, Nat.reduceEqDiff, Int.reduceNeg, Int.reduceAdd, Int.reduceLT, Int.reduceLE, Int.reduceToNat, ↓reduceIte]
  try and_intros
  all_goals try (first | omega | (show okDraw _ _ = true; kernel_rfl) | exact hallb | assumption)
  subst hC
  refine cut_seq fun C hC => ?_
  simp only [go_sem, d_law17_much, d_stat_Quantile, d_ref17_Quantile, d_stat_Median, d_ref2_Of, d_stat_Sorted, d_ref17_Sorted, d_ref2_Rats, d_ref2_Same, d_law17_known, hw, beq_self_eq_true, eq_self, decide_true, decide_false, Bool.not_true, Bool.not_false, int0, int1, hh, hh2, hh3, sameL_self, x0, x1, Nat.reduceBEq, Nat.reduceBNe, Nat.reduceLT, Nat.reduceLeDiff, Nat.reduceAdd, Nat.reduceSub, Nat.reduceMul, Nat.reduceEqDiff, Int.reduceNeg, Int.reduceAdd, Int.reduceLT, Int.reduceLE, Int.reduceToNat, ↓reduceIte]
  try and_intros
  all_goals try (first | omega | (show okDraw _ _ = true; kernel_rfl) | exact hallb | assumption)
  subst hC
  refine cut_seq fun C hC => ?_
  simp only [go_sem, d_law17_much, d_stat_Quantile, d_ref17_Quantile, d_stat_Median, d_ref2_Of, d_stat_Sorted, d_ref17_Sorted, d_ref2_Rats, d_ref2_Same, d_law17_known, hw, beq_self_eq_true, eq_self, decide_true, decide_false, Bool.not_true, Bool.not_false, int0, int1, hh, hh2, hh3, sameL_self, x0, x1, Nat.reduceBEq, Nat.reduceBNe, Nat.reduceLT, Nat.reduceLeDiff, Nat.reduceAdd, Nat.reduceSub, Nat.reduceMul, Nat.reduceEqDiff, Int.reduceNeg, Int.reduceAdd, Int.reduceLT, Int.reduceLE, Int.reduceToNat, ↓reduceIte]
  try and_intros
  all_goals try (first | omega | (show okDraw _ _ = true; kernel_rfl) | exact hallb | assumption)
  subst hC
  refine cut_seq fun C hC => ?_
  simp only [go_sem, d_law17_much, d_stat_Quantile, d_ref17_Quantile, d_stat_Median, d_ref2_Of, d_stat_Sorted, d_ref17_Sorted, d_ref2_Rats, d_ref2_Same, d_law17_known, hw, beq_self_eq_true, eq_self, decide_true, decide_false, Bool.not_true, Bool.not_false, int0, int1, hh, hh2, hh3, sameL_self, x0, x1, Nat.reduceBEq, Nat.reduceBNe, Nat.reduceLT, Nat.reduceLeDiff, Nat.reduceAdd, Nat.reduceSub, Nat.reduceMul, Nat.reduceEqDiff, Int.reduceNeg, Int.reduceAdd, Int.reduceLT, Int.reduceLE, Int.reduceToNat, ↓reduceIte]
  try and_intros
  all_goals try (first | omega | (show okDraw _ _ = true; kernel_rfl) | exact hallb | assumption)
  subst hC
  refine cut_seq fun C hC => ?_
  simp only [go_sem, d_law17_much, d_stat_Quantile, d_ref17_Quantile, d_stat_Median, d_ref2_Of, d_stat_Sorted, d_ref17_Sorted, d_ref2_Rats, d_ref2_Same, d_law17_known, hw, beq_self_eq_true, eq_self, decide_true, decide_false, Bool.not_true, Bool.not_false, int0, int1, hh, hh2, hh3, sameL_self, x0, x1, Nat.reduceBEq, Nat.reduceBNe, Nat.reduceLT, Nat.reduceLeDiff, Nat.reduceAdd, Nat.reduceSub, Nat.reduceMul, Nat.reduceEqDiff, Int.reduceNeg, Int.reduceAdd, Int.reduceLT, Int.reduceLE, Int.reduceToNat, ↓reduceIte]
  try and_intros
  all_goals try (first | omega | (show okDraw _ _ = true; kernel_rfl) | exact hallb | assumption)
  subst hC
  simp only [go_sem, d_law17_much, d_stat_Quantile, d_ref17_Quantile, d_stat_Median, d_ref2_Of, d_stat_Sorted, d_ref17_Sorted, d_ref2_Rats, d_ref2_Same, d_law17_known, hw, beq_self_eq_true, eq_self, decide_true, decide_false, Bool.not_true, Bool.not_false, int0, int1, hh, hh2, hh3, sameL_self, x0, x1, Nat.reduceBEq, Nat.reduceBNe, Nat.reduceLT, Nat.reduceLeDiff, Nat.reduceAdd, Nat.reduceSub, Nat.reduceMul, Nat.reduceEqDiff, Int.reduceNeg, Int.reduceAdd, Int.reduceLT, Int.reduceLE, Int.reduceToNat, ↓reduceIte]
  and_intros
  all_goals first
    | assumption
    | exact hallb
    | omega
    | exact Nat.max_le.2 ⟨by rw [cr_sz]; omega, by rw [cr_sz]; omega⟩
    | (show okDraw _ _ = true; kernel_rfl)

end Go.Proofs.Ytifnpelkoklcnaa
