/- The law StatPowers. Condition: rows shorter than 10^14. -/
import Derived.Test.YtmfoihjkhoinaaaCe
import Derived.Test.YtmfoihjkhoinaaaBj
namespace Go.Proofs.Ytmfoihjkhoinaaa
open Go.RowKit
set_option linter.unusedSimpArgs false
set_option linter.unusedVariables false
def d_law17_StatPowers : Den := den1 aRats (fun l => (l.length ≤ 100000000000000 ∧ ∀ r ∈ l, r.sz ≤ 100000000000000)) fun l => boolV true
set_option maxRecDepth 100000 in
set_option maxHeartbeats 8000000 in
theorem s_law17_StatPowers : Sound Try.prog 25 d_law17_StatPowers := by
  refine sound1 (fz := nofz) (l := [(109, d_law17_much), (128, d_stat_Central), (126, d_stat_Variance), (72, d_ref2_Int), (82, d_ref2_Same), (65, d_ref2_Zero), (42, d_ref2_Mul), (112, d_law17_known)]) TT_ok ⟨s_law17_much, s_stat_Central, s_stat_Variance, s_ref2_Int, s_ref2_Same, s_ref2_Zero, s_ref2_Mul, s_law17_known, trivial⟩ mixed Try.func25 Try.ntmps25 Try.results25 Try.call25 rfl (by omega) (fun _ => rfl) ?_
  intro l hp hl
  rw [codeK_start]
  have zl := hp
  have hallb : ∀ r ∈ [l], r.length ≤ 100000000000000 ∧ ∀ x ∈ r, x.sz ≤ 100000000000000 := by
    intro r hr
    simp only [List.mem_cons, List.not_mem_nil, or_false] at hr
    rcases hr with rfl <;> assumption
  by_cases hw : [l].any muchL = true
  · skip
    simp only [go_sem, d_law17_much, d_stat_Central, d_stat_Variance, d_ref2_Int, d_ref2_Same, d_ref2_Zero, d_ref2_Mul, d_law17_known, hw, Nat.reduceBEq, Nat.reduceBNe, Nat.reduceLT, Nat.reduceLeDiff, Nat.reduceAdd, Nat.reduceSub, Nat.reduceMul, Nat.reduceEqDiff, Int.reduceNeg, Int.reduceAdd, Int.reduceLT, Int.reduceLE, Int.reduceToNat, ↓reduceIte]
    first | exact hallb | (and_intros <;> first | exact hallb | assumption | trivial | (show okDraw _ _ = true; kernel_rfl))
  rw [Bool.not_eq_true] at hw
  obtain ⟨ul, vl⟩ := much_facts (any_false hw l (by simp))
  have pl : l.length ≤ 1000 ∧ ∀ r ∈ l, r.sz ≤ 1000 := ⟨by omega, fun r hr => Nat.le_trans (vl r hr) (by omega)⟩
  have pl1 := pl.1
  have pl2 := pl.2
  have ol := offs_bound hl pl
  have ql := rs_atQ hl pl.2 (by omega)
  have sl : rs (sumTo (atQ l) l.length) ≤ 1000 * (1000 + 1) + 1 := sumQ_bound ql pl.1
  have ml := rs_meanQ ql pl.1
  by_cases h2 : ((l.length : Nat) : Int) < 2
  · skip
    simp only [go_sem, d_law17_much, d_stat_Central, d_stat_Variance, d_ref2_Int, d_ref2_Same, d_ref2_Zero, d_ref2_Mul, d_law17_known, hw, h2, decide_true, Nat.reduceBEq, Nat.reduceBNe, Nat.reduceLT, Nat.reduceLeDiff, Nat.reduceAdd, Nat.reduceSub, Nat.reduceMul, Nat.reduceEqDiff, Int.reduceNeg, Int.reduceAdd, Int.reduceLT, Int.reduceLE, Int.reduceToNat, ↓reduceIte]
    first | exact hallb | (and_intros <;> first | exact hallb | assumption | trivial | (show okDraw _ _ = true; kernel_rfl))
  have hl : 2 ≤ l.length := by omega
  have e1 := cen_zero (l := l) (by omega)
  have e2 := cen_one (l := l) (by omega)
  have e3 := cen_two hl
  have e4 := errK_ok (l := l) (by omega) (k := 0) (by omega) (by omega)
  have e5 := errK_ok (l := l) (by omega) (k := 1) (by omega) (by omega)
  have e6 := errK_ok (l := l) (by omega) (k := 2) (by omega) (by omega)
  have e7 := errC_ok hl
  have c1 := rs_covQ ol ol pl.1
  have c2 := rs_cenQ ol pl.1 2
  have c3 : rs (((l.length : Nat) : Int) : Rat) ≤ 2 := rsb_int (by omega) (by omega) (by omega)
  have c4 : rs (((l.length : Int) - 1 : Int) : Rat) ≤ 2 := rsb_int (by omega) (by omega) (by omega)
  have c5 : rs (covQ l l * (((l.length : Int) - 1 : Int) : Rat)) ≤ 2200002002 := rsb_mul c1 c4 (by omega)
  have t1 : rs (1 : Rat) ≤ 1 := rs1 (by omega)
  have t0 : rs (0 : Rat) ≤ 1 := rs0 (by omega)
  refine cut_seq fun C hC => ?_
  simp only [go_sem, d_law17_much, d_stat_Central, d_stat_Variance, d_ref2_Int, d_ref2_Same, d_ref2_Zero, d_ref2_Mul, d_law17_known, hw, h2, e1, e2, e3, e4, e5, e6, e7, int1, int0, beq_self_eq_true, eq_self, decide_true, decide_false, Int.add_zero, Nat.reduceBEq, Nat.reduceBNe, Nat.reduceLT, Nat.reduceLeDiff, Nat.reduceAdd, Nat.reduceSub, Nat.reduceMul, Nat.reduceEqDiff, Int.reduceNeg, Int.reduceAdd, Int.reduceLT, Int.reduceLE, Int.reduceToNat, ↓reduceIte]
  try and_intros
  all_goals try (first | assumption | omega | (show okDraw _ _ = true; kernel_rfl) | exact hallb)
  subst hC
  refine cut_seq fun C hC => ?_
  simp only [go_sem, d_law17_much, d_stat_Central, d_stat_Variance, d_ref2_Int, d_ref2_Same, d_ref2_Zero, d_ref2_Mul, d_law17_known, hw, h2, e1, e2, e3, e4, e5, e6, e7, int1, int0, beq_self_eq_true, eq_self, decide_true, decide_false, Int.add_zero, Nat.reduceBEq, Nat.reduceBNe, Nat.reduceLT, Nat.reduceLeDiff, Nat.reduceAdd, Nat.reduceSub, Nat.reduceMul, Nat.reduceEqDiff, Int.reduceNeg, Int.reduceAdd, Int.reduceLT, Int.reduceLE, Int.reduceToNat, ↓reduceIte]
  try and_intros
  all_goals try (first | assumption | omega | (show okDraw _ _ = true; kernel_rfl) | exact hallb)
  subst hC
  refine cut_seq fun C hC => ?_
  simp only [go_sem, d_law17_much, d_stat_Central, d_stat_Variance, d_ref2_Int, d_ref2_Same, d_ref2_Zero, d_ref2_Mul, d_law17_known, hw, h2, e1, e2, e3, e4, e5, e6, e7, int1, int0, beq_self_eq_true, eq_self, decide_true, decide_false, Int.add_zero, Nat.reduceBEq, Nat.reduceBNe, Nat.reduceLT, Nat.reduceLeDiff, Nat.reduceAdd, Nat.reduceSub, Nat.reduceMul, Nat.reduceEqDiff, Int.reduceNeg, Int.reduceAdd, Int.reduceLT, Int.reduceLE, Int.reduceToNat, ↓reduceIte]
  try and_intros
  all_goals try (first | assumption | omega | (show okDraw _ _ = true; kernel_rfl) | exact hallb)
  subst hC
  refine cut_seq fun C hC => ?_
  simp only [go_sem, d_law17_much, d_stat_Central, d_stat_Variance, d_ref2_Int, d_ref2_Same, d_ref2_Zero, d_ref2_Mul, d_law17_known, hw, h2, e1, e2, e3, e4, e5, e6, e7, int1, int0, beq_self_eq_true, eq_self, decide_true, decide_false, Int.add_zero, Nat.reduceBEq, Nat.reduceBNe, Nat.reduceLT, Nat.reduceLeDiff, Nat.reduceAdd, Nat.reduceSub, Nat.reduceMul, Nat.reduceEqDiff, Int.reduceNeg, Int.reduceAdd, Int.reduceLT, Int.reduceLE, Int.reduceToNat, ↓reduceIte]
  try and_intros
  all_goals try (first | assumption | omega | (show okDraw _ _ = true; kernel_rfl) | exact hallb)
  subst hC
  refine cut_seq fun C hC => ?_
  simp only [go_sem, d_law17_much, d_stat_Central, d_stat_Variance, d_ref2_Int, d_ref2_Same, d_ref2_Zero, d_ref2_Mul, d_law17_known, hw, h2, e1, e2, e3, e4, e5, e6, e7, int1, int0, beq_self_eq_true, eq_self, decide_true, decide_false, Int.add_zero, Nat.reduceBEq, Nat.reduceBNe, Nat.reduceLT, Nat.reduceLeDiff, Nat.reduceAdd, Nat.reduceSub, Nat.reduceMul, Nat.reduceEqDiff, Int.reduceNeg, Int.reduceAdd, Int.reduceLT, Int.reduceLE, Int.reduceToNat, ↓reduceIte]
  try and_intros
  all_goals try (first | assumption | omega | (show okDraw _ _ = true; kernel_rfl) | exact hallb)
  subst hC
  refine cut_seq fun C hC => ?_
  simp only [go_sem, d_law17_much, d_stat_Central, d_stat_Variance, d_ref2_Int, d_ref2_Same, d_ref2_Zero, d_ref2_Mul, d_law17_known, hw, h2, e1, e2, e3, e4, e5, e6, e7, int1, int0, beq_self_eq_true, eq_self, decide_true, decide_false, Int.add_zero, Nat.reduceBEq, Nat.reduceBNe, Nat.reduceLT, Nat.reduceLeDiff, Nat.reduceAdd, Nat.reduceSub, Nat.reduceMul, Nat.reduceEqDiff, Int.reduceNeg, Int.reduceAdd, Int.reduceLT, Int.reduceLE, Int.reduceToNat, ↓reduceIte]
  try and_intros
  all_goals try (first | assumption | omega | (show okDraw _ _ = true; kernel_rfl) | exact hallb)
  subst hC
  refine cut_seq fun C hC => ?_
  simp only [go_sem, d_law17_much, d_stat_Central, d_stat_Variance, d_ref2_Int, d_ref2_Same, d_ref2_Zero, d_ref2_Mul, d_law17_known, hw, h2, e1, e2, e3, e4, e5, e6, e7, int1, int0, beq_self_eq_true, eq_self, decide_true, decide_false, Int.add_zero, Nat.reduceBEq, Nat.reduceBNe, Nat.reduceLT, Nat.reduceLeDiff, Nat.reduceAdd, Nat.reduceSub, Nat.reduceMul, Nat.reduceEqDiff, Int.reduceNeg, Int.reduceAdd, Int.reduceLT, Int.reduceLE, Int.reduceToNat, ↓reduceIte]
  try and_intros
  all_goals try (first | assumption | omega | (show okDraw _ _ = true; kernel_rfl) | exact hallb)
  subst hC
  simp only [go_sem, d_law17_much, d_stat_Central, d_stat_Variance, d_ref2_Int, d_ref2_Same, d_ref2_Zero, d_ref2_Mul, d_law17_known, hw, h2, e1, e2, e3, e4, e5, e6, e7, int1, int0, beq_self_eq_true, eq_self, decide_true, decide_false, Int.add_zero, Nat.reduceBEq, Nat.reduceBNe, Nat.reduceLT, Nat.reduceLeDiff, Nat.reduceAdd, Nat.reduceSub, Nat.reduceMul, Nat.reduceEqDiff, Int.reduceNeg, Int.reduceAdd, Int.reduceLT, Int.reduceLE, Int.reduceToNat, ↓reduceIte]
  and_intros
  all_goals first
    | assumption
    | exact hallb
    | omega
    | exact Nat.max_le.2 ⟨by rw [cr_sz]; omega, by rw [cr_sz]; omega⟩
    | (show okDraw _ _ = true; kernel_rfl)

end Go.Proofs.Ytmfoihjkhoinaaa
