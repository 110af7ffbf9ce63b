/- The law RankTells. Condition: rows shorter than 10^14. -/
import Derived.Test.YtpppgmgdcpaffaaDe
import Derived.Test.YtpppgmgdcpaffaaBj
namespace Go.Proofs.Ytpppgmgdcpaffaa
open Go.RowKit
set_option linter.unusedSimpArgs false
set_option linter.unusedVariables false
def d_law18_RankTells : Den := den2 aRats aRats (fun a b => (a.length ≤ 100000000000000 ∧ ∀ r ∈ a, r.sz ≤ 100000000000000) ∧ (b.length ≤ 100000000000000 ∧ ∀ r ∈ b, r.sz ≤ 100000000000000)) fun a b => boolV true
set_option maxRecDepth 100000 in
set_option maxHeartbeats 8000000 in
theorem s_law18_RankTells : Sound Try.prog 13 d_law18_RankTells := by
  refine sound2 (fz := nofz) (l := [(32, d_law18_much), (47, d_rank_Pairs), (56, d_ref18_Pairs), (57, d_rank_Kendall), (58, d_ref18_Kendall), (59, d_rank_Spearman), (60, d_ref18_Spearman), (33, d_rank_Ranks), (61, d_ref18_Ranks), (42, d_ref2_Rats), (34, d_ref2_Same), (37, d_law18_known)]) TT_ok ⟨s_law18_much, s_rank_Pairs, s_ref18_Pairs, s_rank_Kendall, s_ref18_Kendall, s_rank_Spearman, s_ref18_Spearman, s_rank_Ranks, s_ref18_Ranks, s_ref2_Rats, s_ref2_Same, s_law18_known, trivial⟩ mixed Try.func13 Try.ntmps13 Try.results13 Try.call13 rfl (by omega) (fun _ _ => rfl) ?_
  intro a b hp ha hb
  rw [codeK_start]
  have za := hp.1
  have zb := hp.2
  have hallb : ∀ r ∈ [a, b], r.length ≤ 100000000000000 ∧ ∀ x ∈ r, x.sz ≤ 100000000000000 := by
    intro r hr
    simp only [List.mem_cons, List.not_mem_nil, or_false] at hr
    rcases hr with rfl | rfl <;> assumption
  by_cases hw : [a, b].any muchL = true
  · skip
    simp only [go_sem, d_law18_much, d_rank_Pairs, d_ref18_Pairs, d_rank_Kendall, d_ref18_Kendall, d_rank_Spearman, d_ref18_Spearman, d_rank_Ranks, d_ref18_Ranks, d_ref2_Rats, d_ref2_Same, d_law18_known, hw, Nat.reduceBEq, Nat.reduceBNe, Nat.reduceLT, Nat.reduceLeDiff, Nat.reduceAdd, Nat.reduceSub, Nat.reduceMul, Nat.reduceEqDiff, Int.reduceNeg, Int.reduceAdd, Int.reduceLT, Int.reduceLE, Int.reduceToNat, ↓reduceIte]
    first | exact hallb | (and_intros <;> first | exact hallb | assumption | trivial | (show okDraw _ _ = true; kernel_rfl))
  rw [Bool.not_eq_true] at hw
  obtain ⟨ua, va⟩ := much_facts (any_false hw a (by simp))
  have pa : a.length ≤ 1000 ∧ ∀ r ∈ a, r.sz ≤ 1000 := ⟨by omega, fun r hr => Nat.le_trans (va r hr) (by omega)⟩
  have pa1 := pa.1
  have pa2 := pa.2
  have oa := offs_bound ha pa
  have qa := rs_atQ ha pa.2 (by omega)
  have sa : rs (sumTo (atQ a) a.length) ≤ 1000 * (1000 + 1) + 1 := sumQ_bound qa pa.1
  have ma := rs_meanQ qa pa.1
  obtain ⟨ub, vb⟩ := much_facts (any_false hw b (by simp))
  have pb : b.length ≤ 1000 ∧ ∀ r ∈ b, r.sz ≤ 1000 := ⟨by omega, fun r hr => Nat.le_trans (vb r hr) (by omega)⟩
  have pb1 := pb.1
  have pb2 := pb.2
  have ob := offs_bound hb pb
  have qb := rs_atQ hb pb.2 (by omega)
  have sb : rs (sumTo (atQ b) b.length) ≤ 1000 * (1000 + 1) + 1 := sumQ_bound qb pb.1
  have mb := rs_meanQ qb pb.1
  have rla := ranksL_len a
  have rpa : (ranksL a).length ≤ 1000 ∧ ∀ r ∈ ranksL a, r.sz ≤ 1000 := ⟨by omega, ranksL_sz pa.1⟩
  have rqa := rpa.1
  have rza := rpa.2
  have rta : ∀ r ∈ ranksL a, r.sz ≤ 10000000 := fun r hr => Nat.le_trans (rza r hr) (by omega)
  have rlb := ranksL_len b
  have rpb : (ranksL b).length ≤ 1000 ∧ ∀ r ∈ ranksL b, r.sz ≤ 1000 := ⟨by omega, ranksL_sz pb.1⟩
  have rqb := rpb.1
  have rzb := rpb.2
  have rtb : ∀ r ∈ ranksL b, r.sz ≤ 10000000 := fun r hr => Nat.le_trans (rzb r hr) (by omega)
  have y1 := rs_kenQ (b := b) pa.1
  have y2 := rs_speQ pa.1 pb.1
  have y3 := sameL_self (ranksL a)
  refine cut_seq fun C hC => ?_
  simp only [go_sem, d_law18_much, d_rank_Pairs, d_ref18_Pairs, d_rank_Kendall, d_ref18_Kendall, d_rank_Spearman, d_ref18_Spearman, d_rank_Ranks, d_ref18_Ranks, d_ref2_Rats, d_ref2_Same, d_law18_known, hw, y3, beq_self_eq_true, eq_self, decide_true, decide_false, Nat.reduceBEq, Nat.reduceBNe, Nat.reduceLT, Nat.reduceLeDiff, Nat.reduceAdd, Nat.reduceSub, Nat.reduceMul, Nat.reduceEqDiff, Int.reduceNeg, Int.reduceAdd, Int.reduceLT, Int.reduceLE, Int.reduceToNat, ↓reduceIte]
  try and_intros
  all_goals try (first | assumption | omega | (show okDraw _ _ = true; kernel_rfl) | exact hallb)
  subst hC
  refine cut_seq fun C hC => ?_
  simp only [go_sem, d_law18_much, d_rank_Pairs, d_ref18_Pairs, d_rank_Kendall, d_ref18_Kendall, d_rank_Spearman, d_ref18_Spearman, d_rank_Ranks, d_ref18_Ranks, d_ref2_Rats, d_ref2_Same, d_law18_known, hw, y3, beq_self_eq_true, eq_self, decide_true, decide_false, Nat.reduceBEq, Nat.reduceBNe, Nat.reduceLT, Nat.reduceLeDiff, Nat.reduceAdd, Nat.reduceSub, Nat.reduceMul, Nat.reduceEqDiff, Int.reduceNeg, Int.reduceAdd, Int.reduceLT, Int.reduceLE, Int.reduceToNat, ↓reduceIte]
  try and_intros
  all_goals try (first | assumption | omega | (show okDraw _ _ = true; kernel_rfl) | exact hallb)
  subst hC
  refine cut_seq fun C hC => ?_
  simp only [go_sem, d_law18_much, d_rank_Pairs, d_ref18_Pairs, d_rank_Kendall, d_ref18_Kendall, d_rank_Spearman, d_ref18_Spearman, d_rank_Ranks, d_ref18_Ranks, d_ref2_Rats, d_ref2_Same, d_law18_known, hw, y3, beq_self_eq_true, eq_self, decide_true, decide_false, Nat.reduceBEq, Nat.reduceBNe, Nat.reduceLT, Nat.reduceLeDiff, Nat.reduceAdd, Nat.reduceSub, Nat.reduceMul, Nat.reduceEqDiff, Int.reduceNeg, Int.reduceAdd, Int.reduceLT, Int.reduceLE, Int.reduceToNat, ↓reduceIte]
  try and_intros
  all_goals try (first | assumption | omega | (show okDraw _ _ = true; kernel_rfl) | exact hallb)
  subst hC
  refine cut_seq fun C hC => ?_
  simp only [go_sem, d_law18_much, d_rank_Pairs, d_ref18_Pairs, d_rank_Kendall, d_ref18_Kendall, d_rank_Spearman, d_ref18_Spearman, d_rank_Ranks, d_ref18_Ranks, d_ref2_Rats, d_ref2_Same, d_law18_known, hw, y3, beq_self_eq_true, eq_self, decide_true, decide_false, Nat.reduceBEq, Nat.reduceBNe, Nat.reduceLT, Nat.reduceLeDiff, Nat.reduceAdd, Nat.reduceSub, Nat.reduceMul, Nat.reduceEqDiff, Int.reduceNeg, Int.reduceAdd, Int.reduceLT, Int.reduceLE, Int.reduceToNat, ↓reduceIte]
  try and_intros
  all_goals try (first | assumption | omega | (show okDraw _ _ = true; kernel_rfl) | exact hallb)
  subst hC
  refine cut_seq fun C hC => ?_
  simp only [go_sem, d_law18_much, d_rank_Pairs, d_ref18_Pairs, d_rank_Kendall, d_ref18_Kendall, d_rank_Spearman, d_ref18_Spearman, d_rank_Ranks, d_ref18_Ranks, d_ref2_Rats, d_ref2_Same, d_law18_known, hw, y3, beq_self_eq_true, eq_self, decide_true, decide_false, Nat.reduceBEq, Nat.reduceBNe, Nat.reduceLT, Nat.reduceLeDiff, Nat.reduceAdd, Nat.reduceSub, Nat.reduceMul, Nat.reduceEqDiff, Int.reduceNeg, Int.reduceAdd, Int.reduceLT, Int.reduceLE, Int.reduceToNat, ↓reduceIte]
  try and_intros
  all_goals try (first | assumption | omega | (show okDraw _ _ = true; kernel_rfl) | exact hallb)
  subst hC
  refine cut_seq fun C hC => ?_
  simp only [go_sem, d_law18_much, d_rank_Pairs, d_ref18_Pairs, d_rank_Kendall, d_ref18_Kendall, d_rank_Spearman, d_ref18_Spearman, d_rank_Ranks, d_ref18_Ranks, d_ref2_Rats, d_ref2_Same, d_law18_known, hw, y3, beq_self_eq_true, eq_self, decide_true, decide_false, Nat.reduceBEq, Nat.reduceBNe, Nat.reduceLT, Nat.reduceLeDiff, Nat.reduceAdd, Nat.reduceSub, Nat.reduceMul, Nat.reduceEqDiff, Int.reduceNeg, Int.reduceAdd, Int.reduceLT, Int.reduceLE, Int.reduceToNat, ↓reduceIte]
  try and_intros
  all_goals try (first | assumption | omega | (show okDraw _ _ = true; kernel_rfl) | exact hallb)
  subst hC
  refine cut_seq fun C hC => ?_
  simp only [go_sem, d_law18_much, d_rank_Pairs, d_ref18_Pairs, d_rank_Kendall, d_ref18_Kendall, d_rank_Spearman, d_ref18_Spearman, d_rank_Ranks, d_ref18_Ranks, d_ref2_Rats, d_ref2_Same, d_law18_known, hw, y3, beq_self_eq_true, eq_self, decide_true, decide_false, Nat.reduceBEq, Nat.reduceBNe, Nat.reduceLT, Nat.reduceLeDiff, Nat.reduceAdd, Nat.reduceSub, Nat.reduceMul, Nat.reduceEqDiff, Int.reduceNeg, Int.reduceAdd, Int.reduceLT, Int.reduceLE, Int.reduceToNat, ↓reduceIte]
  try and_intros
  all_goals try (first | assumption | omega | (show okDraw _ _ = true; kernel_rfl) | exact hallb)
  subst hC
  refine cut_seq fun C hC => ?_
  simp only [go_sem, d_law18_much, d_rank_Pairs, d_ref18_Pairs, d_rank_Kendall, d_ref18_Kendall, d_rank_Spearman, d_ref18_Spearman, d_rank_Ranks, d_ref18_Ranks, d_ref2_Rats, d_ref2_Same, d_law18_known, hw, y3, beq_self_eq_true, eq_self, decide_true, decide_false, Nat.reduceBEq, Nat.reduceBNe, Nat.reduceLT, Nat.reduceLeDiff, Nat.reduceAdd, Nat.reduceSub, Nat.reduceMul, Nat.reduceEqDiff, Int.reduceNeg, Int.reduceAdd, Int.reduceLT, Int.reduceLE, Int.reduceToNat, ↓reduceIte]
  try and_intros
  all_goals try (first | assumption | omega | (show okDraw _ _ = true; kernel_rfl) | exact hallb)
  subst hC
  simp only [go_sem, d_law18_much, d_rank_Pairs, d_ref18_Pairs, d_rank_Kendall, d_ref18_Kendall, d_rank_Spearman, d_ref18_Spearman, d_rank_Ranks, d_ref18_Ranks, d_ref2_Rats, d_ref2_Same, d_law18_known, hw, y3, beq_self_eq_true, eq_self, decide_true, decide_false, Nat.reduceBEq, Nat.reduceBNe, Nat.reduceLT, Nat.reduceLeDiff, Nat.reduceAdd, Nat.reduceSub, Nat.reduceMul, Nat.reduceEqDiff, Int.reduceNeg, Int.reduceAdd, Int.reduceLT, Int.reduceLE, Int.reduceToNat, ↓reduceIte]
  and_intros
  all_goals first
    | assumption
    | exact hallb
    | omega
    | exact Nat.max_le.2 ⟨by rw [cr_sz]; omega, by rw [cr_sz]; omega⟩
    | (show okDraw _ _ = true; kernel_rfl)

end Go.Proofs.Ytpppgmgdcpaffaa
