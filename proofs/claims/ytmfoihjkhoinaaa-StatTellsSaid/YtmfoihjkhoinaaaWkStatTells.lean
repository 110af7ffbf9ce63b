/- The law StatTells. Condition: rows shorter than 10^14. -/
import Derived.Test.YtmfoihjkhoinaaaCd
import Derived.Test.YtmfoihjkhoinaaaBj
namespace Go.Proofs.Ytmfoihjkhoinaaa
open Go.RowKit
set_option linter.unusedSimpArgs false
set_option linter.unusedVariables false
def d_law17_StatTells : Den := den3 aRats aRats aInt (fun l b k => (l.length ≤ 100000000000000 ∧ ∀ r ∈ l, r.sz ≤ 100000000000000) ∧ (b.length ≤ 100000000000000 ∧ ∀ r ∈ b, r.sz ≤ 100000000000000)) fun l b k => boolV true
set_option maxRecDepth 100000 in
set_option maxHeartbeats 8000000 in
theorem s_law17_StatTells : Sound Try.prog 24 d_law17_StatTells := by
  refine sound3 (fz := nofz) (l := [(109, d_law17_much), (110, d_stat_Mean), (125, d_ref17_Mean), (126, d_stat_Variance), (127, d_ref17_Variance), (128, d_stat_Central), (129, d_ref17_Central), (130, d_stat_Covariance), (131, d_ref17_Covariance), (111, d_stat_Sum), (105, d_ref17_Sum), (82, d_ref2_Same), (112, d_law17_known)]) TT_ok ⟨s_law17_much, s_stat_Mean, s_ref17_Mean, s_stat_Variance, s_ref17_Variance, s_stat_Central, s_ref17_Central, s_stat_Covariance, s_ref17_Covariance, s_stat_Sum, s_ref17_Sum, s_ref2_Same, s_law17_known, trivial⟩ mixed Try.func24 Try.ntmps24 Try.results24 Try.call24 rfl (by omega) (fun _ _ _ => rfl) ?_
  intro l b k hp hl hb hk
  rw [codeK_start]
  have zl := hp.1
  have zb := hp.2
  have hallb : ∀ r ∈ [l, b], r.length ≤ 100000000000000 ∧ ∀ x ∈ r, x.sz ≤ 100000000000000 := by
    intro r hr
    simp only [List.mem_cons, List.not_mem_nil, or_false] at hr
    rcases hr with rfl | rfl <;> assumption
  by_cases hw : [l, b].any muchL = true
  · skip
    simp only [go_sem, d_law17_much, d_stat_Mean, d_ref17_Mean, d_stat_Variance, d_ref17_Variance, d_stat_Central, d_ref17_Central, d_stat_Covariance, d_ref17_Covariance, d_stat_Sum, d_ref17_Sum, d_ref2_Same, d_law17_known, hw, Nat.reduceBEq, Nat.reduceBNe, Nat.reduceLT, Nat.reduceLeDiff, Nat.reduceAdd, Nat.reduceSub, Nat.reduceMul, Nat.reduceEqDiff, Int.reduceNeg, Int.reduceAdd, Int.reduceLT, Int.reduceLE, Int.reduceToNat, ↓reduceIte]
    first | exact hallb | (and_intros <;> first | exact hallb | assumption | trivial | (show okDraw _ _ = true; kernel_rfl))
  rw [Bool.not_eq_true] at hw
  obtain ⟨ul, vl⟩ := much_facts (any_false hw l (by simp))
  have pl : l.length ≤ 1000 ∧ ∀ r ∈ l, r.sz ≤ 1000 := ⟨by omega, fun r hr => Nat.le_trans (vl r hr) (by omega)⟩
  have pl1 := pl.1
  have pl2 := pl.2
  have ol := offs_bound hl pl
  have ql := rs_atQ hl pl.2 (by omega)
  have sl : rs (sumTo (atQ l) l.length) ≤ 1000 * (1000 + 1) + 1 := sumQ_bound ql pl.1
  have ml := rs_meanQ ql pl.1
  obtain ⟨ub, vb⟩ := much_facts (any_false hw b (by simp))
  have pb : b.length ≤ 1000 ∧ ∀ r ∈ b, r.sz ≤ 1000 := ⟨by omega, fun r hr => Nat.le_trans (vb r hr) (by omega)⟩
  have pb1 := pb.1
  have pb2 := pb.2
  have ob := offs_bound hb pb
  have qb := rs_atQ hb pb.2 (by omega)
  have sb : rs (sumTo (atQ b) b.length) ≤ 1000 * (1000 + 1) + 1 := sumQ_bound qb pb.1
  have mb := rs_meanQ qb pb.1
  by_cases h9 : (4 : Int) < k ∧ k < 9
  · skip
    simp only [go_sem, d_law17_much, d_stat_Mean, d_ref17_Mean, d_stat_Variance, d_ref17_Variance, d_stat_Central, d_ref17_Central, d_stat_Covariance, d_ref17_Covariance, d_stat_Sum, d_ref17_Sum, d_ref2_Same, d_law17_known, hw, h9.1, h9.2, decide_true, Nat.reduceBEq, Nat.reduceBNe, Nat.reduceLT, Nat.reduceLeDiff, Nat.reduceAdd, Nat.reduceSub, Nat.reduceMul, Nat.reduceEqDiff, Int.reduceNeg, Int.reduceAdd, Int.reduceLT, Int.reduceLE, Int.reduceToNat, ↓reduceIte]
    first | exact hallb | (and_intros <;> first | exact hallb | assumption | trivial | (show okDraw _ _ = true; kernel_rfl))
  have c1 := rs_covQ ol ol pl.1
  have c2 := rs_covQ ol ob pl.1
  have c3 := rs_cenQ ol pl.1 k
  have h9a : ((4 : Int) < k → k < 9 → False) := fun x y => h9 ⟨x, y⟩
  by_cases g4 : (4 : Int) < k
  · skip
    have g9 : ¬ k < 9 := fun x => h9 ⟨g4, x⟩
    refine cut_seq fun C hC => ?_
    simp only [go_sem, d_law17_much, d_stat_Mean, d_ref17_Mean, d_stat_Variance, d_ref17_Variance, d_stat_Central, d_ref17_Central, d_stat_Covariance, d_ref17_Covariance, d_stat_Sum, d_ref17_Sum, d_ref2_Same, d_law17_known, hw, beq_self_eq_true, eq_self, decide_true, decide_false, g4, g9, Nat.reduceBEq, Nat.reduceBNe, Nat.reduceLT, Nat.reduceLeDiff, Nat.reduceAdd, Nat.reduceSub, Nat.reduceMul, Nat.reduceEqDiff, Int.reduceNeg, Int.reduceAdd, Int.reduceLT, Int.reduceLE, Int.reduceToNat, ↓reduceIte]
    try and_intros
    all_goals try (first | assumption | omega | (show okDraw _ _ = true; kernel_rfl) | exact hallb)
    subst hC
    refine cut_seq fun C hC => ?_
    simp only [go_sem, d_law17_much, d_stat_Mean, d_ref17_Mean, d_stat_Variance, d_ref17_Variance, d_stat_Central, d_ref17_Central, d_stat_Covariance, d_ref17_Covariance, d_stat_Sum, d_ref17_Sum, d_ref2_Same, d_law17_known, hw, beq_self_eq_true, eq_self, decide_true, decide_false, g4, g9, Nat.reduceBEq, Nat.reduceBNe, Nat.reduceLT, Nat.reduceLeDiff, Nat.reduceAdd, Nat.reduceSub, Nat.reduceMul, Nat.reduceEqDiff, Int.reduceNeg, Int.reduceAdd, Int.reduceLT, Int.reduceLE, Int.reduceToNat, ↓reduceIte]
    try and_intros
    all_goals try (first | assumption | omega | (show okDraw _ _ = true; kernel_rfl) | exact hallb)
    subst hC
    refine cut_seq fun C hC => ?_
    simp only [go_sem, d_law17_much, d_stat_Mean, d_ref17_Mean, d_stat_Variance, d_ref17_Variance, d_stat_Central, d_ref17_Central, d_stat_Covariance, d_ref17_Covariance, d_stat_Sum, d_ref17_Sum, d_ref2_Same, d_law17_known, hw, beq_self_eq_true, eq_self, decide_true, decide_false, g4, g9, Nat.reduceBEq, Nat.reduceBNe, Nat.reduceLT, Nat.reduceLeDiff, Nat.reduceAdd, Nat.reduceSub, Nat.reduceMul, Nat.reduceEqDiff, Int.reduceNeg, Int.reduceAdd, Int.reduceLT, Int.reduceLE, Int.reduceToNat, ↓reduceIte]
    try and_intros
    all_goals try (first | assumption | omega | (show okDraw _ _ = true; kernel_rfl) | exact hallb)
    subst hC
    refine cut_seq fun C hC => ?_
    simp only [go_sem, d_law17_much, d_stat_Mean, d_ref17_Mean, d_stat_Variance, d_ref17_Variance, d_stat_Central, d_ref17_Central, d_stat_Covariance, d_ref17_Covariance, d_stat_Sum, d_ref17_Sum, d_ref2_Same, d_law17_known, hw, beq_self_eq_true, eq_self, decide_true, decide_false, g4, g9, Nat.reduceBEq, Nat.reduceBNe, Nat.reduceLT, Nat.reduceLeDiff, Nat.reduceAdd, Nat.reduceSub, Nat.reduceMul, Nat.reduceEqDiff, Int.reduceNeg, Int.reduceAdd, Int.reduceLT, Int.reduceLE, Int.reduceToNat, ↓reduceIte]
    try and_intros
    all_goals try (first | assumption | omega | (show okDraw _ _ = true; kernel_rfl) | exact hallb)
    subst hC
    refine cut_seq fun C hC => ?_
    simp only [go_sem, d_law17_much, d_stat_Mean, d_ref17_Mean, d_stat_Variance, d_ref17_Variance, d_stat_Central, d_ref17_Central, d_stat_Covariance, d_ref17_Covariance, d_stat_Sum, d_ref17_Sum, d_ref2_Same, d_law17_known, hw, beq_self_eq_true, eq_self, decide_true, decide_false, g4, g9, Nat.reduceBEq, Nat.reduceBNe, Nat.reduceLT, Nat.reduceLeDiff, Nat.reduceAdd, Nat.reduceSub, Nat.reduceMul, Nat.reduceEqDiff, Int.reduceNeg, Int.reduceAdd, Int.reduceLT, Int.reduceLE, Int.reduceToNat, ↓reduceIte]
    try and_intros
    all_goals try (first | assumption | omega | (show okDraw _ _ = true; kernel_rfl) | exact hallb)
    subst hC
    refine cut_seq fun C hC => ?_
    simp only [go_sem, d_law17_much, d_stat_Mean, d_ref17_Mean, d_stat_Variance, d_ref17_Variance, d_stat_Central, d_ref17_Central, d_stat_Covariance, d_ref17_Covariance, d_stat_Sum, d_ref17_Sum, d_ref2_Same, d_law17_known, hw, beq_self_eq_true, eq_self, decide_true, decide_false, g4, g9, Nat.reduceBEq, Nat.reduceBNe, Nat.reduceLT, Nat.reduceLeDiff, Nat.reduceAdd, Nat.reduceSub, Nat.reduceMul, Nat.reduceEqDiff, Int.reduceNeg, Int.reduceAdd, Int.reduceLT, Int.reduceLE, Int.reduceToNat, ↓reduceIte]
    try and_intros
    all_goals try (first | assumption | omega | (show okDraw _ _ = true; kernel_rfl) | exact hallb)
    subst hC
    refine cut_seq fun C hC => ?_
    simp only [go_sem, d_law17_much, d_stat_Mean, d_ref17_Mean, d_stat_Variance, d_ref17_Variance, d_stat_Central, d_ref17_Central, d_stat_Covariance, d_ref17_Covariance, d_stat_Sum, d_ref17_Sum, d_ref2_Same, d_law17_known, hw, beq_self_eq_true, eq_self, decide_true, decide_false, g4, g9, Nat.reduceBEq, Nat.reduceBNe, Nat.reduceLT, Nat.reduceLeDiff, Nat.reduceAdd, Nat.reduceSub, Nat.reduceMul, Nat.reduceEqDiff, Int.reduceNeg, Int.reduceAdd, Int.reduceLT, Int.reduceLE, Int.reduceToNat, ↓reduceIte]
    try and_intros
    all_goals try (first | assumption | omega | (show okDraw _ _ = true; kernel_rfl) | exact hallb)
    subst hC
    refine cut_seq fun C hC => ?_
    simp only [go_sem, d_law17_much, d_stat_Mean, d_ref17_Mean, d_stat_Variance, d_ref17_Variance, d_stat_Central, d_ref17_Central, d_stat_Covariance, d_ref17_Covariance, d_stat_Sum, d_ref17_Sum, d_ref2_Same, d_law17_known, hw, beq_self_eq_true, eq_self, decide_true, decide_false, g4, g9, Nat.reduceBEq, Nat.reduceBNe, Nat.reduceLT, Nat.reduceLeDiff, Nat.reduceAdd, Nat.reduceSub, Nat.reduceMul, Nat.reduceEqDiff, Int.reduceNeg, Int.reduceAdd, Int.reduceLT, Int.reduceLE, Int.reduceToNat, ↓reduceIte]
    try and_intros
    all_goals try (first | assumption | omega | (show okDraw _ _ = true; kernel_rfl) | exact hallb)
    subst hC
    refine cut_seq fun C hC => ?_
    simp only [go_sem, d_law17_much, d_stat_Mean, d_ref17_Mean, d_stat_Variance, d_ref17_Variance, d_stat_Central, d_ref17_Central, d_stat_Covariance, d_ref17_Covariance, d_stat_Sum, d_ref17_Sum, d_ref2_Same, d_law17_known, hw, beq_self_eq_true, eq_self, decide_true, decide_false, g4, g9, Nat.reduceBEq, Nat.reduceBNe, Nat.reduceLT, Nat.reduceLeDiff, Nat.reduceAdd, Nat.reduceSub, Nat.reduceMul, Nat.reduceEqDiff, Int.reduceNeg, Int.reduceAdd, Int.reduceLT, Int.reduceLE, Int.reduceToNat, ↓reduceIte]
    try and_intros
    all_goals try (first | assumption | omega | (show okDraw _ _ = true; kernel_rfl) | exact hallb)
    subst hC
    simp only [go_sem, d_law17_much, d_stat_Mean, d_ref17_Mean, d_stat_Variance, d_ref17_Variance, d_stat_Central, d_ref17_Central, d_stat_Covariance, d_ref17_Covariance, d_stat_Sum, d_ref17_Sum, d_ref2_Same, d_law17_known, hw, beq_self_eq_true, eq_self, decide_true, decide_false, g4, g9, Nat.reduceBEq, Nat.reduceBNe, Nat.reduceLT, Nat.reduceLeDiff, Nat.reduceAdd, Nat.reduceSub, Nat.reduceMul, Nat.reduceEqDiff, Int.reduceNeg, Int.reduceAdd, Int.reduceLT, Int.reduceLE, Int.reduceToNat, ↓reduceIte]
    and_intros
    all_goals first
      | assumption
      | exact hallb
      | omega
      | exact Nat.max_le.2 ⟨by rw [cr_sz]; omega, by rw [cr_sz]; omega⟩
      | (show okDraw _ _ = true; kernel_rfl)
  refine cut_seq fun C hC => ?_
  simp only [go_sem, d_law17_much, d_stat_Mean, d_ref17_Mean, d_stat_Variance, d_ref17_Variance, d_stat_Central, d_ref17_Central, d_stat_Covariance, d_ref17_Covariance, d_stat_Sum, d_ref17_Sum, d_ref2_Same, d_law17_known, hw, beq_self_eq_true, eq_self, decide_true, decide_false, g4, Nat.reduceBEq, Nat.reduceBNe, Nat.reduceLT, Nat.reduceLeDiff, Nat.reduceAdd, Nat.reduceSub, Nat.reduceMul, Nat.reduceEqDiff, Int.reduceNeg, Int.reduceAdd, Int.reduceLT, Int.reduceLE, Int.reduceToNat, ↓reduceIte]
  try and_intros
  all_goals try (first | assumption | omega | (show okDraw _ _ = true; kernel_rfl) | exact hallb)
  subst hC
  refine cut_seq fun C hC => ?_
  simp only [go_sem, d_law17_much, d_stat_Mean, d_ref17_Mean, d_stat_Variance, d_ref17_Variance, d_stat_Central, d_ref17_Central, d_stat_Covariance, d_ref17_Covariance, d_stat_Sum, d_ref17_Sum, d_ref2_Same, d_law17_known, hw, beq_self_eq_true, eq_self, decide_true, decide_false, g4, Nat.reduceBEq, Nat.reduceBNe, Nat.reduceLT, Nat.reduceLeDiff, Nat.reduceAdd, Nat.reduceSub, Nat.reduceMul, Nat.reduceEqDiff, Int.reduceNeg, Int.reduceAdd, Int.reduceLT, Int.reduceLE, Int.reduceToNat, ↓reduceIte]
  try and_intros
  all_goals try (first | assumption | omega | (show okDraw _ _ = true; kernel_rfl) | exact hallb)
  subst hC
  refine cut_seq fun C hC => ?_
  simp only [go_sem, d_law17_much, d_stat_Mean, d_ref17_Mean, d_stat_Variance, d_ref17_Variance, d_stat_Central, d_ref17_Central, d_stat_Covariance, d_ref17_Covariance, d_stat_Sum, d_ref17_Sum, d_ref2_Same, d_law17_known, hw, beq_self_eq_true, eq_self, decide_true, decide_false, g4, Nat.reduceBEq, Nat.reduceBNe, Nat.reduceLT, Nat.reduceLeDiff, Nat.reduceAdd, Nat.reduceSub, Nat.reduceMul, Nat.reduceEqDiff, Int.reduceNeg, Int.reduceAdd, Int.reduceLT, Int.reduceLE, Int.reduceToNat, ↓reduceIte]
  try and_intros
  all_goals try (first | assumption | omega | (show okDraw _ _ = true; kernel_rfl) | exact hallb)
  subst hC
  refine cut_seq fun C hC => ?_
  simp only [go_sem, d_law17_much, d_stat_Mean, d_ref17_Mean, d_stat_Variance, d_ref17_Variance, d_stat_Central, d_ref17_Central, d_stat_Covariance, d_ref17_Covariance, d_stat_Sum, d_ref17_Sum, d_ref2_Same, d_law17_known, hw, beq_self_eq_true, eq_self, decide_true, decide_false, g4, Nat.reduceBEq, Nat.reduceBNe, Nat.reduceLT, Nat.reduceLeDiff, Nat.reduceAdd, Nat.reduceSub, Nat.reduceMul, Nat.reduceEqDiff, Int.reduceNeg, Int.reduceAdd, Int.reduceLT, Int.reduceLE, Int.reduceToNat, ↓reduceIte]
  try and_intros
  all_goals try (first | assumption | omega | (show okDraw _ _ = true; kernel_rfl) | exact hallb)
  subst hC
  refine cut_seq fun C hC => ?_
  simp only [go_sem, d_law17_much, d_stat_Mean, d_ref17_Mean, d_stat_Variance, d_ref17_Variance, d_stat_Central, d_ref17_Central, d_stat_Covariance, d_ref17_Covariance, d_stat_Sum, d_ref17_Sum, d_ref2_Same, d_law17_known, hw, beq_self_eq_true, eq_self, decide_true, decide_false, g4, Nat.reduceBEq, Nat.reduceBNe, Nat.reduceLT, Nat.reduceLeDiff, Nat.reduceAdd, Nat.reduceSub, Nat.reduceMul, Nat.reduceEqDiff, Int.reduceNeg, Int.reduceAdd, Int.reduceLT, Int.reduceLE, Int.reduceToNat, ↓reduceIte]
  try and_intros
  all_goals try (first | assumption | omega | (show okDraw _ _ = true; kernel_rfl) | exact hallb)
  subst hC
  refine cut_seq fun C hC => ?_
  simp only [go_sem, d_law17_much, d_stat_Mean, d_ref17_Mean, d_stat_Variance, d_ref17_Variance, d_stat_Central, d_ref17_Central, d_stat_Covariance, d_ref17_Covariance, d_stat_Sum, d_ref17_Sum, d_ref2_Same, d_law17_known, hw, beq_self_eq_true, eq_self, decide_true, decide_false, g4, Nat.reduceBEq, Nat.reduceBNe, Nat.reduceLT, Nat.reduceLeDiff, Nat.reduceAdd, Nat.reduceSub, Nat.reduceMul, Nat.reduceEqDiff, Int.reduceNeg, Int.reduceAdd, Int.reduceLT, Int.reduceLE, Int.reduceToNat, ↓reduceIte]
  try and_intros
  all_goals try (first | assumption | omega | (show okDraw _ _ = true; kernel_rfl) | exact hallb)
  subst hC
  refine cut_seq fun C hC => ?_
  simp only [go_sem, d_law17_much, d_stat_Mean, d_ref17_Mean, d_stat_Variance, d_ref17_Variance, d_stat_Central, d_ref17_Central, d_stat_Covariance, d_ref17_Covariance, d_stat_Sum, d_ref17_Sum, d_ref2_Same, d_law17_known, hw, beq_self_eq_true, eq_self, decide_true, decide_false, g4, Nat.reduceBEq, Nat.reduceBNe, Nat.reduceLT, Nat.reduceLeDiff, Nat.reduceAdd, Nat.reduceSub, Nat.reduceMul, Nat.reduceEqDiff, Int.reduceNeg, Int.reduceAdd, Int.reduceLT, Int.reduceLE, Int.reduceToNat, ↓reduceIte]
  try and_intros
  all_goals try (first | assumption | omega | (show okDraw _ _ = true; kernel_rfl) | exact hallb)
  subst hC
  refine cut_seq fun C hC => ?_
  simp only [go_sem, d_law17_much, d_stat_Mean, d_ref17_Mean, d_stat_Variance, d_ref17_Variance, d_stat_Central, d_ref17_Central, d_stat_Covariance, d_ref17_Covariance, d_stat_Sum, d_ref17_Sum, d_ref2_Same, d_law17_known, hw, beq_self_eq_true, eq_self, decide_true, decide_false, g4, Nat.reduceBEq, Nat.reduceBNe, Nat.reduceLT, Nat.reduceLeDiff, Nat.reduceAdd, Nat.reduceSub, Nat.reduceMul, Nat.reduceEqDiff, Int.reduceNeg, Int.reduceAdd, Int.reduceLT, Int.reduceLE, Int.reduceToNat, ↓reduceIte]
  try and_intros
  all_goals try (first | assumption | omega | (show okDraw _ _ = true; kernel_rfl) | exact hallb)
  subst hC
  refine cut_seq fun C hC => ?_
  simp only [go_sem, d_law17_much, d_stat_Mean, d_ref17_Mean, d_stat_Variance, d_ref17_Variance, d_stat_Central, d_ref17_Central, d_stat_Covariance, d_ref17_Covariance, d_stat_Sum, d_ref17_Sum, d_ref2_Same, d_law17_known, hw, beq_self_eq_true, eq_self, decide_true, decide_false, g4, Nat.reduceBEq, Nat.reduceBNe, Nat.reduceLT, Nat.reduceLeDiff, Nat.reduceAdd, Nat.reduceSub, Nat.reduceMul, Nat.reduceEqDiff, Int.reduceNeg, Int.reduceAdd, Int.reduceLT, Int.reduceLE, Int.reduceToNat, ↓reduceIte]
  try and_intros
  all_goals try (first | assumption | omega | (show okDraw _ _ = true; kernel_rfl) | exact hallb)
  subst hC
  simp only [go_sem, d_law17_much, d_stat_Mean, d_ref17_Mean, d_stat_Variance, d_ref17_Variance, d_stat_Central, d_ref17_Central, d_stat_Covariance, d_ref17_Covariance, d_stat_Sum, d_ref17_Sum, d_ref2_Same, d_law17_known, hw, beq_self_eq_true, eq_self, decide_true, decide_false, g4, Nat.reduceBEq, Nat.reduceBNe, Nat.reduceLT, Nat.reduceLeDiff, Nat.reduceAdd, Nat.reduceSub, Nat.reduceMul, Nat.reduceEqDiff, Int.reduceNeg, Int.reduceAdd, Int.reduceLT, Int.reduceLE, Int.reduceToNat, ↓reduceIte]
  and_intros
  all_goals first
    | assumption
    | exact hallb
    | omega
    | exact Nat.max_le.2 ⟨by rw [cr_sz]; omega, by rw [cr_sz]; omega⟩
    | (show okDraw _ _ = true; kernel_rfl)

end Go.Proofs.Ytmfoihjkhoinaaa
