/- The law StatBetween. Condition: rows shorter than 10^14. -/
import Derived.Test.YtpppgmgdcpaffaaLh
import Derived.Test.YtpppgmgdcpaffaaBj
namespace Go.Proofs.Ytpppgmgdcpaffaa
open Go.RowKit
set_option linter.unusedSimpArgs false
set_option linter.unusedVariables false
def d_law17_StatBetween : Den := den2 aRats aRat (fun l q => (l.length ≤ 100000000000000 ∧ ∀ r ∈ l, r.sz ≤ 100000000000000) ∧ q.sz ≤ 100000000000000) fun l q => boolV true
set_option maxRecDepth 100000 in
set_option maxHeartbeats 8000000 in
theorem s_law17_StatBetween : Sound Try.prog 16 d_law17_StatBetween := by
  refine sound2 (fz := nofz) (l := [(43, d_law17_much), (39, d_ref2_Int), (38, d_ref2_Cmp), (65, d_stat_Sorted), (66, d_stat_Quantile), (44, d_stat_Mean), (46, d_law17_known)]) TT_ok ⟨s_law17_much, s_ref2_Int, s_ref2_Cmp, s_stat_Sorted, s_stat_Quantile, s_stat_Mean, s_law17_known, trivial⟩ mixed Try.func16 Try.ntmps16 Try.results16 Try.call16 rfl (by omega) (fun _ _ => rfl) ?_
  intro l q hp hl hq
  rw [codeK_start]
  have zl := hp.1
  have zq := hp.2
  have hallb : ∀ r ∈ [l], r.length ≤ 100000000000000 ∧ ∀ x ∈ r, x.sz ≤ 100000000000000 := by
    intro r hr
    simp only [List.mem_cons, List.not_mem_nil, or_false] at hr
    rcases hr with rfl <;> assumption
  by_cases hw : [l].any muchL = true
  · skip
    simp only [go_sem, d_law17_much, d_ref2_Int, d_ref2_Cmp, d_stat_Sorted, d_stat_Quantile, d_stat_Mean, d_law17_known, hw, Nat.reduceBEq, Nat.reduceBNe, Nat.reduceLT, Nat.reduceLeDiff, Nat.reduceAdd, Nat.reduceSub, Nat.reduceMul, Nat.reduceEqDiff, Int.reduceNeg, Int.reduceAdd, Int.reduceLT, Int.reduceLE, Int.reduceToNat, ↓reduceIte]
    first | exact hallb | (and_intros <;> first | exact hallb | assumption | trivial | (show okDraw _ _ = true; kernel_rfl))
  rw [Bool.not_eq_true] at hw
  obtain ⟨ul, vl⟩ := much_facts (any_false hw l (by simp))
  have pl : l.length ≤ 1000 ∧ ∀ r ∈ l, r.sz ≤ 1000 := ⟨by omega, fun r hr => Nat.le_trans (vl r hr) (by omega)⟩
  have pl1 := pl.1
  have pl2 := pl.2
  have ol := offs_bound hl pl
  have ql := rs_atQ hl pl.2 (by omega)
  have sl : rs (sumTo (atQ l) l.length) ≤ 1000 * (1000 + 1) + 1 := sumQ_bound ql pl.1
  have ml := rs_meanQ ql pl.1
  have t0 : rs (0 : Rat) ≤ 1 := rs0 (by omega)
  have t1 : rs (1 : Rat) ≤ 1 := rs1 (by omega)
  by_cases g0 : ((l.length : Nat) : Int) = 0
  · have x0 : (((l.length : Nat) : Int) = 0) = True := eq_true g0
    simp only [go_sem, d_law17_much, d_ref2_Int, d_ref2_Cmp, d_stat_Sorted, d_stat_Quantile, d_stat_Mean, d_law17_known, hw, beq_self_eq_true, eq_self, decide_true, decide_false, Bool.not_true, Bool.not_false, int0, int1, x0, Nat.reduceBEq, Nat.reduceBNe, Nat.reduceLT, Nat.reduceLeDiff, Nat.reduceAdd, Nat.reduceSub, Nat.reduceMul, Nat.reduceEqDiff, Int.reduceNeg, Int.reduceAdd, Int.reduceLT, Int.reduceLE, Int.reduceToNat, ↓reduceIte]
    first | exact hallb | (and_intros <;> first | exact hallb | assumption | trivial | omega | (show okDraw _ _ = true; kernel_rfl))
  have x0 : (((l.length : Nat) : Int) = 0) = False := eq_false g0
  by_cases g1 : 1 < ((q.n.length : Nat) : Int)
  · have x1 : (1 < ((q.n.length : Nat) : Int)) = True := eq_true g1
    simp only [go_sem, d_law17_much, d_ref2_Int, d_ref2_Cmp, d_stat_Sorted, d_stat_Quantile, d_stat_Mean, d_law17_known, hw, beq_self_eq_true, eq_self, decide_true, decide_false, Bool.not_true, Bool.not_false, int0, int1, x0, x1, Nat.reduceBEq, Nat.reduceBNe, Nat.reduceLT, Nat.reduceLeDiff, Nat.reduceAdd, Nat.reduceSub, Nat.reduceMul, Nat.reduceEqDiff, Int.reduceNeg, Int.reduceAdd, Int.reduceLT, Int.reduceLE, Int.reduceToNat, ↓reduceIte]
    first | exact hallb | (and_intros <;> first | exact hallb | assumption | trivial | omega | (show okDraw _ _ = true; kernel_rfl))
  have x1 : (1 < ((q.n.length : Nat) : Int)) = False := eq_false g1
  by_cases g2 : 1 < ((q.d.length : Nat) : Int)
  · have x2 : (1 < ((q.d.length : Nat) : Int)) = True := eq_true g2
    simp only [go_sem, d_law17_much, d_ref2_Int, d_ref2_Cmp, d_stat_Sorted, d_stat_Quantile, d_stat_Mean, d_law17_known, hw, beq_self_eq_true, eq_self, decide_true, decide_false, Bool.not_true, Bool.not_false, int0, int1, x0, x1, x2, Nat.reduceBEq, Nat.reduceBNe, Nat.reduceLT, Nat.reduceLeDiff, Nat.reduceAdd, Nat.reduceSub, Nat.reduceMul, Nat.reduceEqDiff, Int.reduceNeg, Int.reduceAdd, Int.reduceLT, Int.reduceLE, Int.reduceToNat, ↓reduceIte]
    first | exact hallb | (and_intros <;> first | exact hallb | assumption | trivial | omega | (show okDraw _ _ = true; kernel_rfl))
  have x2 : (1 < ((q.d.length : Nat) : Int)) = False := eq_false g2
  have zq1 : q.sz ≤ 1 := by unfold RR.sz; omega
  by_cases g3 : q.q < 0
  · have x3 : (q.q < 0) = True := eq_true g3
    simp only [go_sem, d_law17_much, d_ref2_Int, d_ref2_Cmp, d_stat_Sorted, d_stat_Quantile, d_stat_Mean, d_law17_known, hw, beq_self_eq_true, eq_self, decide_true, decide_false, Bool.not_true, Bool.not_false, int0, int1, x0, x1, x2, x3, Nat.reduceBEq, Nat.reduceBNe, Nat.reduceLT, Nat.reduceLeDiff, Nat.reduceAdd, Nat.reduceSub, Nat.reduceMul, Nat.reduceEqDiff, Int.reduceNeg, Int.reduceAdd, Int.reduceLT, Int.reduceLE, Int.reduceToNat, ↓reduceIte]
    first | exact hallb | (and_intros <;> first | exact hallb | assumption | trivial | omega | (show okDraw _ _ = true; kernel_rfl))
  have x3 : (q.q < 0) = False := eq_false g3
  by_cases g4 : 1 < q.q
  · have x4 : (1 < q.q) = True := eq_true g4
    simp only [go_sem, d_law17_much, d_ref2_Int, d_ref2_Cmp, d_stat_Sorted, d_stat_Quantile, d_stat_Mean, d_law17_known, hw, beq_self_eq_true, eq_self, decide_true, decide_false, Bool.not_true, Bool.not_false, int0, int1, x0, x1, x2, x3, x4, Nat.reduceBEq, Nat.reduceBNe, Nat.reduceLT, Nat.reduceLeDiff, Nat.reduceAdd, Nat.reduceSub, Nat.reduceMul, Nat.reduceEqDiff, Int.reduceNeg, Int.reduceAdd, Int.reduceLT, Int.reduceLE, Int.reduceToNat, ↓reduceIte]
    first | exact hallb | (and_intros <;> first | exact hallb | assumption | trivial | omega | (show okDraw _ _ = true; kernel_rfl))
  have x4 : (1 < q.q) = False := eq_false g4
  have hn : 0 < l.length := by omega
  have rq : rs q.q ≤ 1 := rs_ok hq zq1 (by omega)
  have pl3 : l.length < 20 := by omega
  have srl := sortR_len l
  have e1 := errQ_ok (l := l) g3 g4 hn
  have e2 := errD_ok (l := l) hn
  obtain ⟨qb1, qb2⟩ := quant_between (l := l) g3 g4 hn
  obtain ⟨mb1, mb2⟩ := mean_between hn
  have sz := sortR_sz ql
  simp only [go_sem, d_law17_much, d_ref2_Int, d_ref2_Cmp, d_stat_Sorted, d_stat_Quantile, d_stat_Mean, d_law17_known, hw, beq_self_eq_true, eq_self, decide_true, decide_false, Bool.not_true, Bool.not_false, int0, int1, x0, x1, x2, x3, x4, srl, e1, e2, bne_self_eq_false, ne_eq, not_true, Nat.reduceBEq, Nat.reduceBNe, Nat.reduceLT, Nat.reduceLeDiff, Nat.reduceAdd, Nat.reduceSub, Nat.reduceMul, Nat.reduceEqDiff, Int.reduceNeg, Int.reduceAdd, Int.reduceLT, Int.reduceLE, Int.reduceToNat, ↓reduceIte]
  and_intros
  all_goals try (first | exact hallb | assumption | exact trivial | omega | (show okDraw _ _ = true; kernel_rfl))
  refine codeK_loop (fun i : { i : Nat // 1 ≤ i ∧ i ≤ l.length } => [(10, 0, .av (intV ((i.1 : Nat)))), (5, 0, .av (ratsV (sortR l))), (6, 0, .av (.one (.cel (.ptr 6 0)))), (6, 1, .cv (.bool (cr (quantQ q.q l)).s)), (6, 2, .cv (.lim none (cr (quantQ q.q l)).n)), (6, 3, .cv (.lim none (cr (quantQ q.q l)).d)), (8, 0, .av (.one (.cel (.ptr 8 0)))), (8, 1, .cv (.bool (cr (meanQ l)).s)), (8, 2, .cv (.lim none (cr (meanQ l)).n)), (8, 3, .cv (.lim none (cr (meanQ l)).d))]) (fun i => l.length - i.1) ⟨1, by omega⟩ (le_of ?_) ?_
  · simp only [go_sem, leL, Int.natCast_one, Nat.reduceBEq, Nat.reduceBNe, Nat.reduceLT, Nat.reduceLeDiff, Nat.reduceAdd, Nat.reduceSub, Nat.reduceMul, Nat.reduceEqDiff, Int.reduceNeg, Int.reduceAdd, Int.reduceLT, Int.reduceLE, Int.reduceToNat, ↓reduceIte]
    try and_intros
    all_goals try rfl
  · rintro ⟨i, hi1, hi0⟩
    have hi0 : i ≤ l.length := hi0
    have hi1 : 1 ≤ i := hi1
    by_cases hi : i < l.length
    · have hti : (((i : Nat) : Int) - 1).toNat = i - 1 := by omega
      have hl1 : ((((i : Nat) : Int) - 1) < ((l.length : Nat) : Int)) = True := eq_true (by omega)
      have hs : i < (sortR l).length := by omega
      have hs1 : i - 1 < (sortR l).length := by omega
      have hm := sz _ (getD_mem (d := rr0) hs)
      have hm1 := sz _ (getD_mem (d := rr0) hs1)
      have hup : (((sortR l).getD i rr0).q < ((sortR l).getD (i - 1) rr0).q) = False := eq_false (Rat.not_lt.2 (sortR_up l (by omega) hi))
      simp only [go_sem, d_law17_much, d_ref2_Int, d_ref2_Cmp, d_stat_Sorted, d_stat_Quantile, d_stat_Mean, d_law17_known, hw, beq_self_eq_true, eq_self, decide_true, decide_false, Bool.not_true, Bool.not_false, int0, int1, x0, x1, x2, x3, x4, srl, e1, e2, bne_self_eq_false, ne_eq, not_true, hti, hl1, getD_rats hs, getD_ratsI hs, getD_rats hs1, hup, Int.ofNat_lt, hi, Nat.reduceBEq, Nat.reduceBNe, Nat.reduceLT, Nat.reduceLeDiff, Nat.reduceAdd, Nat.reduceSub, Nat.reduceMul, Nat.reduceEqDiff, Int.reduceNeg, Int.reduceAdd, Int.reduceLT, Int.reduceLE, Int.reduceToNat, ↓reduceIte]
      and_intros
      all_goals try (first | assumption | omega | exact trivial | (show okDraw _ _ = true; kernel_rfl))
      refine ⟨⟨i + 1, by omega, by omega⟩, by show l.length - (i + 1) < l.length - i; omega, le_of ?_⟩
      simp only [go_sem, leL, Nat.reduceBEq, Nat.reduceBNe, Nat.reduceLT, Nat.reduceLeDiff, Nat.reduceAdd, Nat.reduceSub, Nat.reduceMul, Nat.reduceEqDiff, Int.reduceNeg, Int.reduceAdd, Int.reduceLT, Int.reduceLE, Int.reduceToNat, ↓reduceIte]
      try omega
    · have e : i = l.length := by omega
      subst e
      have hs0 : 0 < (sortR l).length := by omega
      have hs : l.length - 1 < (sortR l).length := by omega
      have hti : (((l.length : Nat) : Int) - 1).toNat = l.length - 1 := by omega
      have hl1 : ((((l.length : Nat) : Int) - 1) < ((l.length : Nat) : Int)) = True := eq_true (by omega)
      have hm := sz _ (getD_mem (d := rr0) hs)
      have hm0 := sz _ (getD_mem (d := rr0) hs0)
      have y1 : (((sortR l).getD 0 rr0).q ≤ quantQ q.q l) = True := eq_true qb1
      have y2 : (quantQ q.q l ≤ ((sortR l).getD (l.length - 1) rr0).q) = True := eq_true qb2
      have y3 : (((sortR l).getD 0 rr0).q ≤ meanQ l) = True := eq_true mb1
      have y4 : (meanQ l ≤ ((sortR l).getD (l.length - 1) rr0).q) = True := eq_true mb2
      have rwq : rs (quantQ q.q l) ≤ 1000000 := quant_size (fun i => ql i) rq hn pl3
      simp only [go_sem, d_law17_much, d_ref2_Int, d_ref2_Cmp, d_stat_Sorted, d_stat_Quantile, d_stat_Mean, d_law17_known, hw, beq_self_eq_true, eq_self, decide_true, decide_false, Bool.not_true, Bool.not_false, int0, int1, x0, x1, x2, x3, x4, srl, e1, e2, bne_self_eq_false, ne_eq, not_true, hti, hl1, getD_rats hs0, getD_rats hs, getD_ratsI hs, y1, y2, y3, y4, Int.ofNat_lt, Int.lt_irrefl, Nat.lt_irrefl, hn, Nat.reduceBEq, Nat.reduceBNe, Nat.reduceLT, Nat.reduceLeDiff, Nat.reduceAdd, Nat.reduceSub, Nat.reduceMul, Nat.reduceEqDiff, Int.reduceNeg, Int.reduceAdd, Int.reduceLT, Int.reduceLE, Int.reduceToNat, ↓reduceIte]
      and_intros
      all_goals first
        | assumption
        | exact hallb
        | omega
        | exact Nat.max_le.2 ⟨by rw [cr_sz]; omega, by rw [cr_sz]; omega⟩
        | (show okDraw _ _ = true; kernel_rfl)

end Go.Proofs.Ytpppgmgdcpaffaa
