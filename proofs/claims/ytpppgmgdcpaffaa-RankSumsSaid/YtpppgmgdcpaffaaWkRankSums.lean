/- The law RankSums. Condition: rows shorter than 10^14. -/
import Derived.Test.YtpppgmgdcpaffaaDe
import Derived.Test.YtpppgmgdcpaffaaBj
namespace Go.Proofs.Ytpppgmgdcpaffaa
open Go.RowKit
set_option linter.unusedSimpArgs false
set_option linter.unusedVariables false
def d_law18_RankSums : Den := den1 aRats (fun l => (l.length ≤ 100000000000000 ∧ ∀ r ∈ l, r.sz ≤ 100000000000000)) fun l => boolV true
set_option maxRecDepth 100000 in
set_option maxHeartbeats 8000000 in
theorem s_law18_RankSums : Sound Try.prog 5 d_law18_RankSums := by
  refine sound1 (fz := nofz) (l := [(32, d_law18_much), (33, d_rank_Ranks), (35, d_ref17_Sum), (36, d_ref2_Of), (34, d_ref2_Same), (37, d_law18_known)]) TT_ok ⟨s_law18_much, s_rank_Ranks, s_ref17_Sum, s_ref2_Of, s_ref2_Same, s_law18_known, trivial⟩ mixed Try.func5 Try.ntmps5 Try.results5 Try.call5 rfl (by omega) (fun _ => rfl) ?_
  intro l hp hl
  rw [codeK_start]
  have zl := hp
  have hallb : ∀ r ∈ [l], r.length ≤ 100000000000000 ∧ ∀ x ∈ r, x.sz ≤ 100000000000000 := by
    intro r hr
    simp only [List.mem_cons, List.not_mem_nil, or_false] at hr
    rcases hr with rfl <;> assumption
  by_cases hw : [l].any muchL = true
  · skip
    simp only [go_sem, d_law18_much, d_rank_Ranks, d_ref17_Sum, d_ref2_Of, d_ref2_Same, d_law18_known, hw, Nat.reduceBEq, Nat.reduceBNe, Nat.reduceLT, Nat.reduceLeDiff, Nat.reduceAdd, Nat.reduceSub, Nat.reduceMul, Nat.reduceEqDiff, Int.reduceNeg, Int.reduceAdd, Int.reduceLT, Int.reduceLE, Int.reduceToNat, ↓reduceIte]
    first | exact hallb | (and_intros <;> first | exact hallb | assumption | trivial | (show okDraw _ _ = true; kernel_rfl))
  rw [Bool.not_eq_true] at hw
  obtain ⟨ul, vl⟩ := much_facts (any_false hw l (by simp))
  have pl : l.length ≤ 1000 ∧ ∀ r ∈ l, r.sz ≤ 1000 := ⟨by omega, fun r hr => Nat.le_trans (vl r hr) (by omega)⟩
  have pl1 := pl.1
  have pl2 := pl.2
  have ol := offs_bound hl pl
  have ql := rs_atQ hl pl.2 (by omega)
  have sl : rs (sumTo (atQ l) l.length) ≤ 1000 * (1000 + 1) + 1 := sumQ_bound ql pl.1
  have ml := rs_meanQ ql pl.1
  have rll := ranksL_len l
  have rpl : (ranksL l).length ≤ 1000 ∧ ∀ r ∈ ranksL l, r.sz ≤ 1000 := ⟨by omega, ranksL_sz pl.1⟩
  have rql := rpl.1
  have rzl := rpl.2
  have rtl : ∀ r ∈ ranksL l, r.sz ≤ 10000000 := fun r hr => Nat.le_trans (rzl r hr) (by omega)
  have e1 := ranks_sumL l ul
  rw [rll] at e1
  have hw1 : muchL l = false := any_false hw l (by simp)
  have hmul : l.length * (l.length + 1) ≤ 12 * 13 := Nat.mul_le_mul ul (by omega)
  have hm2 : ((l.length : Nat) : Int) * (((l.length : Nat) : Int) + 1) = ((l.length * (l.length + 1) : Nat) : Int) := by rw [Int.natCast_mul, Int.natCast_add]; rfl
  generalize hgm : l.length * (l.length + 1) = m at e1 hm2 hmul
  have hwr : IntKind.u32.wrap ((m : Nat) : Int) = (m : Nat) := by unfold IntKind.wrap; simp [IntKind.signed, IntKind.bits]; omega
  have hmv : val [m] = m := by simp only [val]; omega
  have hz : rs (qv false (val [m]) (val [2])) ≤ 1 := by rw [hmv]; exact rs_qv _ _ _ _ (limbs_len_le (by omega)) (by decide) (by omega)
  simp only [go_sem, d_law18_much, d_rank_Ranks, d_ref17_Sum, d_ref2_Of, d_ref2_Same, d_law18_known, hw, hw1, e1, hm2, hwr, rll, Int.toNat_natCast, beq_self_eq_true, eq_self, decide_true, decide_false, Nat.reduceBEq, Nat.reduceBNe, Nat.reduceLT, Nat.reduceLeDiff, Nat.reduceAdd, Nat.reduceSub, Nat.reduceMul, Nat.reduceEqDiff, Int.reduceNeg, Int.reduceAdd, Int.reduceLT, Int.reduceLE, Int.reduceToNat, ↓reduceIte]
  and_intros
  all_goals first
    | assumption
    | exact hallb
    | omega
    | exact Nat.max_le.2 ⟨by rw [cr_sz]; omega, by rw [cr_sz]; omega⟩
    | (show okDraw _ _ = true; kernel_rfl)

end Go.Proofs.Ytpppgmgdcpaffaa
