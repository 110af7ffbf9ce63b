/- The law StatJoins. Condition: rows shorter than 10^14. -/
import Derived.Test.YtpppgmgdcpaffaaCf
import Derived.Test.YtpppgmgdcpaffaaBj
namespace Go.Proofs.Ytpppgmgdcpaffaa
open Go.RowKit
set_option linter.unusedSimpArgs false
set_option linter.unusedVariables false
def fz_StatJoins : Nat → List Nat
  | 8 => [31]
  | _ => []
def d_law17_StatJoins : Den := den2 aRats aRats (fun a b => (a.length ≤ 100000000000000 ∧ ∀ r ∈ a, r.sz ≤ 100000000000000) ∧ (b.length ≤ 100000000000000 ∧ ∀ r ∈ b, r.sz ≤ 100000000000000)) fun a b => boolV true
set_option maxRecDepth 100000 in
set_option maxHeartbeats 8000000 in
theorem s_law17_StatJoins : Sound Try.prog 7 d_law17_StatJoins := by
  refine sound2 (fz := fz_StatJoins) (l := [(43, d_law17_much), (44, d_stat_Mean), (45, d_stat_Sum), (28, d_ref2_Add), (34, d_ref2_Same), (38, d_ref2_Cmp), (46, d_law17_known)]) TT_ok ⟨s_law17_much, s_stat_Mean, s_stat_Sum, s_ref2_Add, s_ref2_Same, s_ref2_Cmp, s_law17_known, trivial⟩ mixed Try.func7 Try.ntmps7 Try.results7 Try.call7 rfl (by omega) (fun _ _ => rfl) ?_
  intro a b hp ha hb
  rw [codeK_start]
  have za := hp.1
  have zb := hp.2
  have hallb : ∀ r ∈ [a, b], r.length ≤ 100000000000000 ∧ ∀ x ∈ r, x.sz ≤ 100000000000000 := by
    intro r hr
    simp only [List.mem_cons, List.not_mem_nil, or_false] at hr
    rcases hr with rfl | rfl <;> assumption
  by_cases hw : [a, b].any muchL = true
  · skip
    simp only [go_sem, d_law17_much, d_stat_Mean, d_stat_Sum, d_ref2_Add, d_ref2_Same, d_ref2_Cmp, d_law17_known, fz_StatJoins, hw, Nat.reduceBEq, Nat.reduceBNe, Nat.reduceLT, Nat.reduceLeDiff, Nat.reduceAdd, Nat.reduceSub, Nat.reduceMul, Nat.reduceEqDiff, Int.reduceNeg, Int.reduceAdd, Int.reduceLT, Int.reduceLE, Int.reduceToNat, ↓reduceIte]
    first | exact hallb | (and_intros <;> first | exact hallb | assumption | trivial | (show okDraw _ _ = true; kernel_rfl))
  rw [Bool.not_eq_true] at hw
  obtain ⟨ua, va⟩ := much_facts (any_false hw a (by simp))
  have pa : a.length ≤ 1000 ∧ ∀ r ∈ a, r.sz ≤ 1000 := ⟨by omega, fun r hr => Nat.le_trans (va r hr) (by omega)⟩
  have pa1 := pa.1
  have pa2 := pa.2
  have oa := offs_bound ha pa
  have qa := rs_atQ ha pa.2 (by omega)
  have sa : rs (sumTo (atQ a) a.length) ≤ 1000 * (1000 + 1) + 1 := sumQ_bound qa pa.1
  have ma := rs_meanQ qa pa.1
  obtain ⟨ub, vb⟩ := much_facts (any_false hw b (by simp))
  have pb : b.length ≤ 1000 ∧ ∀ r ∈ b, r.sz ≤ 1000 := ⟨by omega, fun r hr => Nat.le_trans (vb r hr) (by omega)⟩
  have pb1 := pb.1
  have pb2 := pb.2
  have ob := offs_bound hb pb
  have qb := rs_atQ hb pb.2 (by omega)
  have sb : rs (sumTo (atQ b) b.length) ≤ 1000 * (1000 + 1) + 1 := sumQ_bound qb pb.1
  have mb := rs_meanQ qb pb.1
  by_cases g1 : ((a.length : Nat) : Int) = 0
  · skip
    have x1 : (((a.length : Nat) : Int) = 0) = True := eq_true g1
    simp only [go_sem, d_law17_much, d_stat_Mean, d_stat_Sum, d_ref2_Add, d_ref2_Same, d_ref2_Cmp, d_law17_known, fz_StatJoins, hw, x1, decide_true, Nat.reduceBEq, Nat.reduceBNe, Nat.reduceLT, Nat.reduceLeDiff, Nat.reduceAdd, Nat.reduceSub, Nat.reduceMul, Nat.reduceEqDiff, Int.reduceNeg, Int.reduceAdd, Int.reduceLT, Int.reduceLE, Int.reduceToNat, ↓reduceIte]
    first | exact hallb | (and_intros <;> first | exact hallb | assumption | trivial | (show okDraw _ _ = true; kernel_rfl))
  by_cases g2 : ((b.length : Nat) : Int) = 0
  · skip
    have x1 : (((a.length : Nat) : Int) = 0) = False := eq_false g1
    have x2 : (((b.length : Nat) : Int) = 0) = True := eq_true g2
    simp only [go_sem, d_law17_much, d_stat_Mean, d_stat_Sum, d_ref2_Add, d_ref2_Same, d_ref2_Cmp, d_law17_known, fz_StatJoins, hw, x1, x2, decide_true, decide_false, Nat.reduceBEq, Nat.reduceBNe, Nat.reduceLT, Nat.reduceLeDiff, Nat.reduceAdd, Nat.reduceSub, Nat.reduceMul, Nat.reduceEqDiff, Int.reduceNeg, Int.reduceAdd, Int.reduceLT, Int.reduceLE, Int.reduceToNat, ↓reduceIte]
    first | exact hallb | (and_intros <;> first | exact hallb | assumption | trivial | (show okDraw _ _ = true; kernel_rfl))
  have x1 : (((a.length : Nat) : Int) = 0) = False := eq_false g1
  have x2 : (((b.length : Nat) : Int) = 0) = False := eq_false g2
  have hrow : List.map ratCells a ++ List.map ratCells b = List.map ratCells (a ++ b) := List.map_append.symm
  have htake : List.take (a ++ b).length (List.map ratCells (a ++ b)) = List.map ratCells (a ++ b) := List.take_of_length_le (by rw [List.length_map]; omega)
  have hab : (a ++ b).length ≤ 1000 ∧ ∀ r ∈ a ++ b, r.sz ≤ 1000 := ⟨by rw [List.length_append]; omega, fun r hr => by rcases List.mem_append.1 hr with h | h; exact pa.2 r h; exact pb.2 r h⟩
  have hok : ∀ r ∈ a ++ b, r.ok := fun r hr => by rcases List.mem_append.1 hr with h | h; exact ha r h; exact hb r h
  have hab1 := hab.1
  have hab2 := hab.2
  have qab := rs_atQ hok hab.2 (by omega)
  have sab : rs (sumTo (atQ (a ++ b)) (a ++ b).length) ≤ 1000 * (1000 + 1) + 1 := sumQ_bound qab hab.1
  have mab := rs_meanQ qab hab.1
  have es := sum_app a b
  have em := mean_app (a := a) (b := b) (by omega) (by omega)
  have d1 := errD_ok (l := a) (by omega)
  have d2 := errD_ok (l := b) (by omega)
  have d3 := errD_ok (l := a ++ b) (by rw [List.length_append]; omega)
  have em1 := em.1
  have em2 := em.2
  have esz : rs (sumTo (atQ a) a.length + sumTo (atQ b) b.length) ≤ 1000 * (1000 + 1) + 1 := by rw [← es]; exact sab
  have hla : (a ++ b).length = a.length + b.length := List.length_append
  refine cut_seq fun C hC => ?_
  simp only [go_sem, d_law17_much, d_stat_Mean, d_stat_Sum, d_ref2_Add, d_ref2_Same, d_ref2_Cmp, d_law17_known, fz_StatJoins, hw, fz_StatJoins, List.replicate_zero, x1, x2, hrow, htake, es, em1, d1, d2, d3, beq_self_eq_true, eq_self, decide_true, decide_false, Int.add_zero, Nat.reduceBEq, Nat.reduceBNe, Nat.reduceLT, Nat.reduceLeDiff, Nat.reduceAdd, Nat.reduceSub, Nat.reduceMul, Nat.reduceEqDiff, Int.reduceNeg, Int.reduceAdd, Int.reduceLT, Int.reduceLE, Int.reduceToNat, ↓reduceIte]
  try and_intros
  all_goals try (first | assumption | omega | (show okDraw _ _ = true; kernel_rfl) | exact hallb)
  subst hC
  refine cut_seq fun C hC => ?_
  simp only [go_sem, d_law17_much, d_stat_Mean, d_stat_Sum, d_ref2_Add, d_ref2_Same, d_ref2_Cmp, d_law17_known, fz_StatJoins, hw, fz_StatJoins, List.replicate_zero, x1, x2, hrow, htake, es, em1, d1, d2, d3, beq_self_eq_true, eq_self, decide_true, decide_false, Int.add_zero, Nat.reduceBEq, Nat.reduceBNe, Nat.reduceLT, Nat.reduceLeDiff, Nat.reduceAdd, Nat.reduceSub, Nat.reduceMul, Nat.reduceEqDiff, Int.reduceNeg, Int.reduceAdd, Int.reduceLT, Int.reduceLE, Int.reduceToNat, ↓reduceIte]
  try and_intros
  all_goals try (first | assumption | omega | (show okDraw _ _ = true; kernel_rfl) | exact hallb)
  subst hC
  refine cut_seq fun C hC => ?_
  simp only [go_sem, d_law17_much, d_stat_Mean, d_stat_Sum, d_ref2_Add, d_ref2_Same, d_ref2_Cmp, d_law17_known, fz_StatJoins, hw, fz_StatJoins, List.replicate_zero, x1, x2, hrow, htake, es, em1, d1, d2, d3, beq_self_eq_true, eq_self, decide_true, decide_false, Int.add_zero, Nat.reduceBEq, Nat.reduceBNe, Nat.reduceLT, Nat.reduceLeDiff, Nat.reduceAdd, Nat.reduceSub, Nat.reduceMul, Nat.reduceEqDiff, Int.reduceNeg, Int.reduceAdd, Int.reduceLT, Int.reduceLE, Int.reduceToNat, ↓reduceIte]
  try and_intros
  all_goals try (first | assumption | omega | (show okDraw _ _ = true; kernel_rfl) | exact hallb)
  subst hC
  simp only [go_sem, d_law17_much, d_stat_Mean, d_stat_Sum, d_ref2_Add, d_ref2_Same, d_ref2_Cmp, d_law17_known, fz_StatJoins, hw, fz_StatJoins, List.replicate_zero, x1, x2, hrow, htake, es, em1, d1, d2, d3, beq_self_eq_true, eq_self, decide_true, decide_false, Int.add_zero, Nat.reduceBEq, Nat.reduceBNe, Nat.reduceLT, Nat.reduceLeDiff, Nat.reduceAdd, Nat.reduceSub, Nat.reduceMul, Nat.reduceEqDiff, Int.reduceNeg, Int.reduceAdd, Int.reduceLT, Int.reduceLE, Int.reduceToNat, ↓reduceIte]
  and_intros
  all_goals first
    | assumption
    | exact hallb
    | omega
    | exact Nat.max_le.2 ⟨by rw [cr_sz]; omega, by rw [cr_sz]; omega⟩
    | (show okDraw _ _ = true; kernel_rfl)

end Go.Proofs.Ytpppgmgdcpaffaa
