/- The law RankBounds. Condition: rows shorter than 10^14. -/
import Derived.Test.YtpppgmgdcpaffaaDe
import Derived.Test.YtpppgmgdcpaffaaBj
namespace Go.Proofs.Ytpppgmgdcpaffaa
open Go.RowKit
set_option linter.unusedSimpArgs false
set_option linter.unusedVariables false
def d_law18_RankBounds : Den := den2 aRats aRats (fun a b => (a.length ≤ 100000000000000 ∧ ∀ r ∈ a, r.sz ≤ 100000000000000) ∧ (b.length ≤ 100000000000000 ∧ ∀ r ∈ b, r.sz ≤ 100000000000000)) fun a b => boolV true
set_option maxRecDepth 100000 in
set_option maxHeartbeats 8000000 in
theorem s_law18_RankBounds : Sound Try.prog 14 d_law18_RankBounds := by
  refine sound2 (fz := nofz) (l := [(32, d_law18_much), (57, d_rank_Kendall), (59, d_rank_Spearman), (39, d_ref2_Int), (38, d_ref2_Cmp), (60, d_ref18_Spearman), (37, d_law18_known), (62, d_ref2_Zero)]) TT_ok ⟨s_law18_much, s_rank_Kendall, s_rank_Spearman, s_ref2_Int, s_ref2_Cmp, s_ref18_Spearman, s_law18_known, s_ref2_Zero, trivial⟩ mixed Try.func14 Try.ntmps14 Try.results14 Try.call14 rfl (by omega) (fun _ _ => rfl) ?_
  intro a b hp ha hb
  rw [codeK_start]
  have za := hp.1
  have zb := hp.2
  have hallb : ∀ r ∈ [a, b], r.length ≤ 100000000000000 ∧ ∀ x ∈ r, x.sz ≤ 100000000000000 := by
    intro r hr
    simp only [List.mem_cons, List.not_mem_nil, or_false] at hr
    rcases hr with rfl | rfl <;> assumption
  by_cases hw : [a, b].any muchL = true
  · skip
    simp only [go_sem, d_law18_much, d_rank_Kendall, d_rank_Spearman, d_ref2_Int, d_ref2_Cmp, d_ref18_Spearman, d_law18_known, d_ref2_Zero, hw, Nat.reduceBEq, Nat.reduceBNe, Nat.reduceLT, Nat.reduceLeDiff, Nat.reduceAdd, Nat.reduceSub, Nat.reduceMul, Nat.reduceEqDiff, Int.reduceNeg, Int.reduceAdd, Int.reduceLT, Int.reduceLE, Int.reduceToNat, ↓reduceIte]
    first | exact hallb | (and_intros <;> first | exact hallb | assumption | trivial | (show okDraw _ _ = true; kernel_rfl))
  rw [Bool.not_eq_true] at hw
  obtain ⟨ua, va⟩ := much_facts (any_false hw a (by simp))
  have pa : a.length ≤ 1000 ∧ ∀ r ∈ a, r.sz ≤ 1000 := ⟨by omega, fun r hr => Nat.le_trans (va r hr) (by omega)⟩
  have pa1 := pa.1
  have pa2 := pa.2
  have oa := offs_bound ha pa
  have qa := rs_atQ ha pa.2 (by omega)
  have sa : rs (sumTo (atQ a) a.length) ≤ 1000 * (1000 + 1) + 1 := sumQ_bound qa pa.1
  have ma := rs_meanQ qa pa.1
  obtain ⟨ub, vb⟩ := much_facts (any_false hw b (by simp))
  have pb : b.length ≤ 1000 ∧ ∀ r ∈ b, r.sz ≤ 1000 := ⟨by omega, fun r hr => Nat.le_trans (vb r hr) (by omega)⟩
  have pb1 := pb.1
  have pb2 := pb.2
  have ob := offs_bound hb pb
  have qb := rs_atQ hb pb.2 (by omega)
  have sb : rs (sumTo (atQ b) b.length) ≤ 1000 * (1000 + 1) + 1 := sumQ_bound qb pb.1
  have mb := rs_meanQ qb pb.1
  have rla := ranksL_len a
  have rpa : (ranksL a).length ≤ 1000 ∧ ∀ r ∈ ranksL a, r.sz ≤ 1000 := ⟨by omega, ranksL_sz pa.1⟩
  have rqa := rpa.1
  have rza := rpa.2
  have rta : ∀ r ∈ ranksL a, r.sz ≤ 10000000 := fun r hr => Nat.le_trans (rza r hr) (by omega)
  have rlb := ranksL_len b
  have rpb : (ranksL b).length ≤ 1000 ∧ ∀ r ∈ ranksL b, r.sz ≤ 1000 := ⟨by omega, ranksL_sz pb.1⟩
  have rqb := rpb.1
  have rzb := rpb.2
  have rtb : ∀ r ∈ ranksL b, r.sz ≤ 10000000 := fun r hr => Nat.le_trans (rzb r hr) (by omega)
  by_cases g1 : a.length = b.length
  rotate_left
  · skip
    have x1 : (((a.length : Nat) : Int) = b.length) = False := eq_false (by omega)
    simp only [go_sem, d_law18_much, d_rank_Kendall, d_rank_Spearman, d_ref2_Int, d_ref2_Cmp, d_ref18_Spearman, d_law18_known, d_ref2_Zero, hw, beq_self_eq_true, eq_self, decide_true, decide_false, Bool.not_true, Bool.not_false, int0, int1, x1, Nat.reduceBEq, Nat.reduceBNe, Nat.reduceLT, Nat.reduceLeDiff, Nat.reduceAdd, Nat.reduceSub, Nat.reduceMul, Nat.reduceEqDiff, Int.reduceNeg, Int.reduceAdd, Int.reduceLT, Int.reduceLE, Int.reduceToNat, ↓reduceIte]
    first | exact hallb | (and_intros <;> first | exact hallb | assumption | trivial | (show okDraw _ _ = true; kernel_rfl))
  have x1 : (((a.length : Nat) : Int) = b.length) = True := eq_true (by omega)
  by_cases g2 : a.length < 2
  · skip
    have x2 : (((a.length : Nat) : Int) < 2) = True := eq_true (by omega)
    simp only [go_sem, d_law18_much, d_rank_Kendall, d_rank_Spearman, d_ref2_Int, d_ref2_Cmp, d_ref18_Spearman, d_law18_known, d_ref2_Zero, hw, beq_self_eq_true, eq_self, decide_true, decide_false, Bool.not_true, Bool.not_false, int0, int1, x1, x2, Nat.reduceBEq, Nat.reduceBNe, Nat.reduceLT, Nat.reduceLeDiff, Nat.reduceAdd, Nat.reduceSub, Nat.reduceMul, Nat.reduceEqDiff, Int.reduceNeg, Int.reduceAdd, Int.reduceLT, Int.reduceLE, Int.reduceToNat, ↓reduceIte]
    first | exact hallb | (and_intros <;> first | exact hallb | assumption | trivial | (show okDraw _ _ = true; kernel_rfl))
  have x2 : (((a.length : Nat) : Int) < 2) = False := eq_false (by omega)
  have he : errP a b = 0 := by unfold errP; rw [if_pos g1, if_neg g2]
  have hk := ken_bound a b
  have y1 := rs_kenQ (b := b) pa.1
  have y2 := rs_speQ pa.1 pb.1
  have k1 : ((1 : Rat) < kenQ a b) = False := eq_false (Rat.not_lt.2 hk.2)
  have k2 : (kenQ a b < -1) = False := eq_false (Rat.not_lt.2 hk.1)
  have km : ((-1 : Int) : Rat) = -1 := rfl
  have t1 : rs (1 : Rat) ≤ 1 := rs1 (by omega)
  have t0 : rs (0 : Rat) ≤ 1 := rs0 (by omega)
  have t2 : rs (-1 : Rat) ≤ 1 := by rw [rs_neg]; exact rs1 (by omega)
  by_cases hz : rkC a a * rkC b b = 0
  · skip
    have es : speE a b = 5 := by unfold speE; rw [if_pos he, if_pos hz]
    refine cut_seq fun C hC => ?_
    simp only [go_sem, d_law18_much, d_rank_Kendall, d_rank_Spearman, d_ref2_Int, d_ref2_Cmp, d_ref18_Spearman, d_law18_known, d_ref2_Zero, hw, beq_self_eq_true, eq_self, decide_true, decide_false, Bool.not_true, Bool.not_false, int0, int1, x1, x2, he, k1, k2, km, es, Nat.reduceBEq, Nat.reduceBNe, Nat.reduceLT, Nat.reduceLeDiff, Nat.reduceAdd, Nat.reduceSub, Nat.reduceMul, Nat.reduceEqDiff, Int.reduceNeg, Int.reduceAdd, Int.reduceLT, Int.reduceLE, Int.reduceToNat, ↓reduceIte]
    try and_intros
    all_goals try (first | assumption | omega | (show okDraw _ _ = true; kernel_rfl) | exact hallb)
    subst hC
    refine cut_seq fun C hC => ?_
    simp only [go_sem, d_law18_much, d_rank_Kendall, d_rank_Spearman, d_ref2_Int, d_ref2_Cmp, d_ref18_Spearman, d_law18_known, d_ref2_Zero, hw, beq_self_eq_true, eq_self, decide_true, decide_false, Bool.not_true, Bool.not_false, int0, int1, x1, x2, he, k1, k2, km, es, Nat.reduceBEq, Nat.reduceBNe, Nat.reduceLT, Nat.reduceLeDiff, Nat.reduceAdd, Nat.reduceSub, Nat.reduceMul, Nat.reduceEqDiff, Int.reduceNeg, Int.reduceAdd, Int.reduceLT, Int.reduceLE, Int.reduceToNat, ↓reduceIte]
    try and_intros
    all_goals try (first | assumption | omega | (show okDraw _ _ = true; kernel_rfl) | exact hallb)
    subst hC
    refine cut_seq fun C hC => ?_
    simp only [go_sem, d_law18_much, d_rank_Kendall, d_rank_Spearman, d_ref2_Int, d_ref2_Cmp, d_ref18_Spearman, d_law18_known, d_ref2_Zero, hw, beq_self_eq_true, eq_self, decide_true, decide_false, Bool.not_true, Bool.not_false, int0, int1, x1, x2, he, k1, k2, km, es, Nat.reduceBEq, Nat.reduceBNe, Nat.reduceLT, Nat.reduceLeDiff, Nat.reduceAdd, Nat.reduceSub, Nat.reduceMul, Nat.reduceEqDiff, Int.reduceNeg, Int.reduceAdd, Int.reduceLT, Int.reduceLE, Int.reduceToNat, ↓reduceIte]
    try and_intros
    all_goals try (first | assumption | omega | (show okDraw _ _ = true; kernel_rfl) | exact hallb)
    subst hC
    simp only [go_sem, d_law18_much, d_rank_Kendall, d_rank_Spearman, d_ref2_Int, d_ref2_Cmp, d_ref18_Spearman, d_law18_known, d_ref2_Zero, hw, beq_self_eq_true, eq_self, decide_true, decide_false, Bool.not_true, Bool.not_false, int0, int1, x1, x2, he, k1, k2, km, es, Nat.reduceBEq, Nat.reduceBNe, Nat.reduceLT, Nat.reduceLeDiff, Nat.reduceAdd, Nat.reduceSub, Nat.reduceMul, Nat.reduceEqDiff, Int.reduceNeg, Int.reduceAdd, Int.reduceLT, Int.reduceLE, Int.reduceToNat, ↓reduceIte]
    and_intros
    all_goals first
      | assumption
      | exact hallb
      | omega
      | exact Nat.max_le.2 ⟨by rw [cr_sz]; omega, by rw [cr_sz]; omega⟩
      | (show okDraw _ _ = true; kernel_rfl)
  have es : speE a b = 0 := by unfold speE; rw [if_pos he, if_neg hz]
  obtain ⟨b1, b2, b3⟩ := spe_bound g1 (by omega) hz
  have k3 : (speQ a b ≤ 1) = True := eq_true b2
  have k4 : (0 ≤ speQ a b) = True := eq_true b1
  have k5 : (speS a b = 0) = (speQ a b = 0) := by unfold speS; rw [if_pos he, if_neg hz, cmpQ_eq0]; exact propext b3.symm
  refine cut_seq fun C hC => ?_
  simp only [go_sem, d_law18_much, d_rank_Kendall, d_rank_Spearman, d_ref2_Int, d_ref2_Cmp, d_ref18_Spearman, d_law18_known, d_ref2_Zero, hw, beq_self_eq_true, eq_self, decide_true, decide_false, Bool.not_true, Bool.not_false, int0, int1, x1, x2, he, k1, k2, km, es, k3, k4, k5, Nat.reduceBEq, Nat.reduceBNe, Nat.reduceLT, Nat.reduceLeDiff, Nat.reduceAdd, Nat.reduceSub, Nat.reduceMul, Nat.reduceEqDiff, Int.reduceNeg, Int.reduceAdd, Int.reduceLT, Int.reduceLE, Int.reduceToNat, ↓reduceIte]
  try and_intros
  all_goals try (first | assumption | omega | (show okDraw _ _ = true; kernel_rfl) | exact hallb)
  subst hC
  refine cut_seq fun C hC => ?_
  simp only [go_sem, d_law18_much, d_rank_Kendall, d_rank_Spearman, d_ref2_Int, d_ref2_Cmp, d_ref18_Spearman, d_law18_known, d_ref2_Zero, hw, beq_self_eq_true, eq_self, decide_true, decide_false, Bool.not_true, Bool.not_false, int0, int1, x1, x2, he, k1, k2, km, es, k3, k4, k5, Nat.reduceBEq, Nat.reduceBNe, Nat.reduceLT, Nat.reduceLeDiff, Nat.reduceAdd, Nat.reduceSub, Nat.reduceMul, Nat.reduceEqDiff, Int.reduceNeg, Int.reduceAdd, Int.reduceLT, Int.reduceLE, Int.reduceToNat, ↓reduceIte]
  try and_intros
  all_goals try (first | assumption | omega | (show okDraw _ _ = true; kernel_rfl) | exact hallb)
  subst hC
  refine cut_seq fun C hC => ?_
  simp only [go_sem, d_law18_much, d_rank_Kendall, d_rank_Spearman, d_ref2_Int, d_ref2_Cmp, d_ref18_Spearman, d_law18_known, d_ref2_Zero, hw, beq_self_eq_true, eq_self, decide_true, decide_false, Bool.not_true, Bool.not_false, int0, int1, x1, x2, he, k1, k2, km, es, k3, k4, k5, Nat.reduceBEq, Nat.reduceBNe, Nat.reduceLT, Nat.reduceLeDiff, Nat.reduceAdd, Nat.reduceSub, Nat.reduceMul, Nat.reduceEqDiff, Int.reduceNeg, Int.reduceAdd, Int.reduceLT, Int.reduceLE, Int.reduceToNat, ↓reduceIte]
  try and_intros
  all_goals try (first | assumption | omega | (show okDraw _ _ = true; kernel_rfl) | exact hallb)
  subst hC
  simp only [go_sem, d_law18_much, d_rank_Kendall, d_rank_Spearman, d_ref2_Int, d_ref2_Cmp, d_ref18_Spearman, d_law18_known, d_ref2_Zero, hw, beq_self_eq_true, eq_self, decide_true, decide_false, Bool.not_true, Bool.not_false, int0, int1, x1, x2, he, k1, k2, km, es, k3, k4, k5, Nat.reduceBEq, Nat.reduceBNe, Nat.reduceLT, Nat.reduceLeDiff, Nat.reduceAdd, Nat.reduceSub, Nat.reduceMul, Nat.reduceEqDiff, Int.reduceNeg, Int.reduceAdd, Int.reduceLT, Int.reduceLE, Int.reduceToNat, ↓reduceIte]
  and_intros
  all_goals first
    | assumption
    | exact hallb
    | omega
    | exact Nat.max_le.2 ⟨by rw [cr_sz]; omega, by rw [cr_sz]; omega⟩
    | (show okDraw _ _ = true; kernel_rfl)

end Go.Proofs.Ytpppgmgdcpaffaa
