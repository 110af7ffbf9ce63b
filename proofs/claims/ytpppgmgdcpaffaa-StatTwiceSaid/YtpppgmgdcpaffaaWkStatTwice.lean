/- The law StatTwice. Condition: rows shorter than 10^14. -/
import Derived.Test.YtpppgmgdcpaffaaLe
import Derived.Test.YtpppgmgdcpaffaaBj
namespace Go.Proofs.Ytpppgmgdcpaffaa
open Go.RowKit
set_option linter.unusedSimpArgs false
set_option linter.unusedVariables false
/-- the code behind a block is laid aside, before the block's loop begins -/
theorem cut_bs {E : Env} {Q : AEx → AS → Prop} {k : List It} {s : AS} {id : Nat} {c c2 : Code} (h : ∀ C, C = c2 → codeK E Q (.block id :: .seq C :: k) c s) : codeK E Q (.block id :: .seq c2 :: k) c s := h c2 rfl
def fz_StatTwice : Nat → List Nat
  | 16 => [1003]
  | _ => []
def d_law17_StatTwice : Den := den1 aRats (fun l => (l.length ≤ 100000000000000 ∧ ∀ r ∈ l, r.sz ≤ 100000000000000)) fun l => boolV true
set_option maxRecDepth 100000 in
set_option maxHeartbeats 8000000 in
theorem s_law17_StatTwice : Sound Try.prog 15 d_law17_StatTwice := by
  refine sound1 (fz := fz_StatTwice) (l := [(43, d_law17_much), (63, d_stat_Variance), (64, d_stat_Covariance), (34, d_ref2_Same), (65, d_stat_Sorted), (42, d_ref2_Rats), (39, d_ref2_Int), (38, d_ref2_Cmp), (46, d_law17_known)]) TT_ok ⟨s_law17_much, s_stat_Variance, s_stat_Covariance, s_ref2_Same, s_stat_Sorted, s_ref2_Rats, s_ref2_Int, s_ref2_Cmp, s_law17_known, trivial⟩ mixed Try.func15 Try.ntmps15 Try.results15 Try.call15 rfl (by omega) (fun _ => rfl) ?_
  intro l hp hl
  rw [codeK_start]
  have zl := hp
  have hallb : ∀ r ∈ [l], r.length ≤ 100000000000000 ∧ ∀ x ∈ r, x.sz ≤ 100000000000000 := by
    intro r hr
    simp only [List.mem_cons, List.not_mem_nil, or_false] at hr
    rcases hr with rfl <;> assumption
  by_cases hw : [l].any muchL = true
  · skip
    simp only [go_sem, d_law17_much, d_stat_Variance, d_stat_Covariance, d_ref2_Same, d_stat_Sorted, d_ref2_Rats, d_ref2_Int, d_ref2_Cmp, d_law17_known, fz_StatTwice, hw, Nat.reduceBEq, Nat.reduceBNe, Nat.reduceLT, Nat.reduceLeDiff, Nat.reduceAdd, Nat.reduceSub, Nat.reduceMul, Nat.reduceEqDiff, Int.reduceNeg, Int.reduceAdd, Int.reduceLT, Int.reduceLE, Int.reduceToNat, ↓reduceIte]
    first | exact hallb | (and_intros <;> first | exact hallb | assumption | trivial | (show okDraw _ _ = true; kernel_rfl))
  rw [Bool.not_eq_true] at hw
  obtain ⟨ul, vl⟩ := much_facts (any_false hw l (by simp))
  have pl : l.length ≤ 1000 ∧ ∀ r ∈ l, r.sz ≤ 1000 := ⟨by omega, fun r hr => Nat.le_trans (vl r hr) (by omega)⟩
  have pl1 := pl.1
  have pl2 := pl.2
  have ol := offs_bound hl pl
  have ql := rs_atQ hl pl.2 (by omega)
  have sl : rs (sumTo (atQ l) l.length) ≤ 1000 * (1000 + 1) + 1 := sumQ_bound ql pl.1
  have ml := rs_meanQ ql pl.1
  by_cases h2 : ((l.length : Nat) : Int) < 2
  · skip
    simp only [go_sem, d_law17_much, d_stat_Variance, d_stat_Covariance, d_ref2_Same, d_stat_Sorted, d_ref2_Rats, d_ref2_Int, d_ref2_Cmp, d_law17_known, fz_StatTwice, hw, beq_self_eq_true, eq_self, decide_true, decide_false, Bool.not_true, Bool.not_false, int0, int1, h2, Nat.reduceBEq, Nat.reduceBNe, Nat.reduceLT, Nat.reduceLeDiff, Nat.reduceAdd, Nat.reduceSub, Nat.reduceMul, Nat.reduceEqDiff, Int.reduceNeg, Int.reduceAdd, Int.reduceLT, Int.reduceLE, Int.reduceToNat, ↓reduceIte]
    first | exact hallb | (and_intros <;> first | exact hallb | assumption | trivial | (show okDraw _ _ = true; kernel_rfl))
  have h2f : (((l.length : Nat) : Int) < 2) = False := eq_false h2
  simp only [go_sem, d_law17_much, d_stat_Variance, d_stat_Covariance, d_ref2_Same, d_stat_Sorted, d_ref2_Rats, d_ref2_Int, d_ref2_Cmp, d_law17_known, fz_StatTwice, hw, beq_self_eq_true, eq_self, decide_true, decide_false, Bool.not_true, Bool.not_false, int0, int1, h2f, Nat.reduceBEq, Nat.reduceBNe, Nat.reduceLT, Nat.reduceLeDiff, Nat.reduceAdd, Nat.reduceSub, Nat.reduceMul, Nat.reduceEqDiff, Int.reduceNeg, Int.reduceAdd, Int.reduceLT, Int.reduceLE, Int.reduceToNat, ↓reduceIte]
  refine ⟨hallb, ⟨by omega, by omega⟩, ?_⟩
  refine cut_bs fun C hC => ?_
  refine codeK_loop (fun i : { i : Nat // i ≤ l.length } => [(4, 0, .av (intV (((l.length : Nat) : Int) - 1 - ((i.1 : Nat) : Int)))), (3, 0, .av (.one (.cel (.rf 1003 i.1)))), (1003, 1, .row (.gen 3 ((bk l i.1).map ratCells))), (0, 0, .av (ratsV l))]) (fun i => l.length - i.1) ⟨0, by omega⟩ ?_ ?_
  · refine le_nil 3 1003 (.gen 3 []) (by rfl) (by kernel_rfl) ⟨by omega, trivial⟩ rfl (le_of ?_)
    simp only [go_sem, leL, Nat.reduceBEq, Nat.reduceBNe, Nat.reduceLT, Nat.reduceLeDiff, Nat.reduceAdd, Nat.reduceSub, Nat.reduceMul, Nat.reduceEqDiff, Int.reduceNeg, Int.reduceAdd, Int.reduceLT, Int.reduceLE, Int.reduceToNat, ↓reduceIte, bk_zero, Int.ofNat_zero, Int.natCast_zero, Int.cast_ofNat_Int, Int.sub_zero]
  · rintro ⟨i, hi0⟩
    have hi0 : i ≤ l.length := hi0
    by_cases hi : i < l.length
    · have hge : ((0 : Int) ≤ ((l.length : Nat) : Int) - 1 - ((i : Nat) : Int)) = True := eq_true (by omega)
      have hti : (((l.length : Nat) : Int) - 1 - ((i : Nat) : Int)).toNat = l.length - 1 - i := by omega
      have hb : l.length - 1 - i < l.length := by omega
      have hlt : ((((l.length : Nat) : Int) - 1 - ((i : Nat) : Int)) < ((l.length : Nat) : Int)) = True := eq_true (by omega)
      have hln := bk_len l i
      have hln2 := bk_len l (i + 1)
      have hrow : (bk l i).map ratCells ++ [[.bool (l.getD (l.length - 1 - i) rr0).s, .lim none (l.getD (l.length - 1 - i) rr0).n, .lim none (l.getD (l.length - 1 - i) rr0).d]] = (bk l (i + 1)).map ratCells := bk_cells _ i
      simp only [go_sem, d_law17_much, d_stat_Variance, d_stat_Covariance, d_ref2_Same, d_stat_Sorted, d_ref2_Rats, d_ref2_Int, d_ref2_Cmp, d_law17_known, fz_StatTwice, hw, beq_self_eq_true, eq_self, decide_true, decide_false, Bool.not_true, Bool.not_false, int0, int1, hge, hti, hlt, getD_rats hb, getD_ratsI hb, Int.ofNat_lt, Nat.reduceBEq, Nat.reduceBNe, Nat.reduceLT, Nat.reduceLeDiff, Nat.reduceAdd, Nat.reduceSub, Nat.reduceMul, Nat.reduceEqDiff, Int.reduceNeg, Int.reduceAdd, Int.reduceLT, Int.reduceLE, Int.reduceToNat, ↓reduceIte]
      and_intros
      all_goals try (first | assumption | omega | exact hln.symm | (show okDraw _ _ = true; kernel_rfl))
      refine ⟨⟨i + 1, by omega⟩, by show l.length - (i + 1) < l.length - i; omega, Le.trans (b := [(4, 0, .av (intV (((l.length : Nat) : Int) - 1 - (((i + 1) : Nat) : Int)))), (3, 0, .av (.one (.cel (.rf 32 (i + 1))))), (32, 1, .row (.gen 3 ((bk l (i + 1)).map ratCells))), (0, 0, .av (ratsV l))]) (le_of ?_) (le_ren 32 1003 (c := .gen 3 ((bk l (i + 1)).map ratCells)) (by rfl) (by kernel_rfl) (le_of ?_))⟩
      · simp only [go_sem, leL, hrow, hln2, Nat.reduceBEq, Nat.reduceBNe, Nat.reduceLT, Nat.reduceLeDiff, Nat.reduceAdd, Nat.reduceSub, Nat.reduceMul, Nat.reduceEqDiff, Int.reduceNeg, Int.reduceAdd, Int.reduceLT, Int.reduceLE, Int.reduceToNat, ↓reduceIte]
        omega
      · simp only [go_sem, leL, Nat.reduceBEq, Nat.reduceBNe, Nat.reduceLT, Nat.reduceLeDiff, Nat.reduceAdd, Nat.reduceSub, Nat.reduceMul, Nat.reduceEqDiff, Int.reduceNeg, Int.reduceAdd, Int.reduceLT, Int.reduceLE, Int.reduceToNat, ↓reduceIte]
    · have e : i = l.length := by omega
      subst e
      have hge : ((0 : Int) ≤ ((l.length : Nat) : Int) - 1 - ((l.length : Nat) : Int)) = False := eq_false (by omega)
      have hln := bk_len l l.length
      have htake : List.take l.length ((bk l l.length).map ratCells) = (bk l l.length).map ratCells := List.take_of_length_le (by rw [List.length_map]; omega)
      have np : (bk l l.length).length ≤ 1000 ∧ ∀ r ∈ bk l l.length, r.sz ≤ 1000 := ⟨by omega, fun r hr => pl.2 r (bk_mem (Nat.le_refl _) hr)⟩
      have np1 := np.1
      have np2 := np.2
      have np3 : (bk l l.length).length < 20 := by omega
      have pl3 : l.length < 20 := by omega
      have ec : covQ (bk l l.length) (bk l l.length) = covQ l l := bk_cov
      have es : sortR (bk l l.length) = sortR l := sortR_bk l
      have e7 := errC_ok (l := l) (by omega)
      have e8 := errC_ok (l := bk l l.length) (by omega)
      have c1 := rs_covQ ol ol pl.1
      have c0 : (0 ≤ covQ l l) = True := eq_true (cov_self0 (by omega))
      have c0f : (covQ l l < 0) = False := eq_false (Rat.not_lt.2 (cov_self0 (by omega)))
      have ss := sameL_self (sortR l)
      have srl := sortR_len l
      have sz : ∀ r ∈ sortR l, r.sz ≤ 10000000 := fun r hr => Nat.le_trans (sortR_sz ql r hr) (by omega)
      have sl3 : (sortR l).length ≤ 1000 := by omega
      have t0 : rs (0 : Rat) ≤ 1 := rs0 (by omega)
      simp only [go_sem, d_law17_much, d_stat_Variance, d_stat_Covariance, d_ref2_Same, d_stat_Sorted, d_ref2_Rats, d_ref2_Int, d_ref2_Cmp, d_law17_known, fz_StatTwice, hw, beq_self_eq_true, eq_self, decide_true, decide_false, Bool.not_true, Bool.not_false, int0, int1, htake, hln, ec, es, e7, e8, ss, c0, c0f, Int.add_zero, hge, Nat.reduceBEq, Nat.reduceBNe, Nat.reduceLT, Nat.reduceLeDiff, Nat.reduceAdd, Nat.reduceSub, Nat.reduceMul, Nat.reduceEqDiff, Int.reduceNeg, Int.reduceAdd, Int.reduceLT, Int.reduceLE, Int.reduceToNat, ↓reduceIte]
      subst hC
      refine cut_seq fun C hC => ?_
      simp only [go_sem, d_law17_much, d_stat_Variance, d_stat_Covariance, d_ref2_Same, d_stat_Sorted, d_ref2_Rats, d_ref2_Int, d_ref2_Cmp, d_law17_known, fz_StatTwice, hw, beq_self_eq_true, eq_self, decide_true, decide_false, Bool.not_true, Bool.not_false, int0, int1, htake, hln, ec, es, e7, e8, ss, c0, c0f, Int.add_zero, hge, Nat.reduceBEq, Nat.reduceBNe, Nat.reduceLT, Nat.reduceLeDiff, Nat.reduceAdd, Nat.reduceSub, Nat.reduceMul, Nat.reduceEqDiff, Int.reduceNeg, Int.reduceAdd, Int.reduceLT, Int.reduceLE, Int.reduceToNat, ↓reduceIte]
      try and_intros
      all_goals try (first | omega | (show okDraw _ _ = true; kernel_rfl) | exact hallb | assumption)
      subst hC
      refine cut_seq fun C hC => ?_
      simp only [go_sem, d_law17_much, d_stat_Variance, d_stat_Covariance, d_ref2_Same, d_stat_Sorted, d_ref2_Rats, d_ref2_Int, d_ref2_Cmp, d_law17_known, fz_StatTwice, hw, beq_self_eq_true, eq_self, decide_true, decide_false, Bool.not_true, Bool.not_false, int0, int1, htake, hln, ec, es, e7, e8, ss, c0, c0f, Int.add_zero, hge, Nat.reduceBEq, Nat.reduceBNe, Nat.reduceLT, Nat.reduceLeDiff, Nat.reduceAdd, Nat.reduceSub, Nat.reduceMul, Nat.reduceEqDiff, Int.reduceNeg, Int.reduceAdd, Int.reduceLT, Int.reduceLE, Int.reduceToNat, ↓reduceIte]
      try and_intros
      all_goals try (first | omega | (show okDraw _ _ = true; kernel_rfl) | exact hallb | assumption)
      subst hC
      refine cut_seq fun C hC => ?_
      simp only [go_sem, d_law17_much, d_stat_Variance, d_stat_Covariance, d_ref2_Same, d_stat_Sorted, d_ref2_Rats, d_ref2_Int, d_ref2_Cmp, d_law17_known, fz_StatTwice, hw, beq_self_eq_true, eq_self, decide_true, decide_false, Bool.not_true, Bool.not_false, int0, int1, htake, hln, ec, es, e7, e8, ss, c0, c0f, Int.add_zero, hge, Nat.reduceBEq, Nat.reduceBNe, Nat.reduceLT, Nat.reduceLeDiff, Nat.reduceAdd, Nat.reduceSub, Nat.reduceMul, Nat.reduceEqDiff, Int.reduceNeg, Int.reduceAdd, Int.reduceLT, Int.reduceLE, Int.reduceToNat, ↓reduceIte]
      try and_intros
      all_goals try (first | omega | (show okDraw _ _ = true; kernel_rfl) | exact hallb | assumption)
      subst hC
      refine cut_seq fun C hC => ?_
      simp only [go_sem, d_law17_much, d_stat_Variance, d_stat_Covariance, d_ref2_Same, d_stat_Sorted, d_ref2_Rats, d_ref2_Int, d_ref2_Cmp, d_law17_known, fz_StatTwice, hw, beq_self_eq_true, eq_self, decide_true, decide_false, Bool.not_true, Bool.not_false, int0, int1, htake, hln, ec, es, e7, e8, ss, c0, c0f, Int.add_zero, hge, Nat.reduceBEq, Nat.reduceBNe, Nat.reduceLT, Nat.reduceLeDiff, Nat.reduceAdd, Nat.reduceSub, Nat.reduceMul, Nat.reduceEqDiff, Int.reduceNeg, Int.reduceAdd, Int.reduceLT, Int.reduceLE, Int.reduceToNat, ↓reduceIte]
      try and_intros
      all_goals try (first | omega | (show okDraw _ _ = true; kernel_rfl) | exact hallb | assumption)
      subst hC
      simp only [go_sem, d_law17_much, d_stat_Variance, d_stat_Covariance, d_ref2_Same, d_stat_Sorted, d_ref2_Rats, d_ref2_Int, d_ref2_Cmp, d_law17_known, fz_StatTwice, hw, beq_self_eq_true, eq_self, decide_true, decide_false, Bool.not_true, Bool.not_false, int0, int1, htake, hln, ec, es, e7, e8, ss, c0, c0f, Int.add_zero, hge, Nat.reduceBEq, Nat.reduceBNe, Nat.reduceLT, Nat.reduceLeDiff, Nat.reduceAdd, Nat.reduceSub, Nat.reduceMul, Nat.reduceEqDiff, Int.reduceNeg, Int.reduceAdd, Int.reduceLT, Int.reduceLE, Int.reduceToNat, ↓reduceIte]
      and_intros
      all_goals first
        | assumption
        | exact hallb
        | omega
        | exact Nat.max_le.2 ⟨by rw [cr_sz]; omega, by rw [cr_sz]; omega⟩
        | (show okDraw _ _ = true; kernel_rfl)

end Go.Proofs.Ytpppgmgdcpaffaa
