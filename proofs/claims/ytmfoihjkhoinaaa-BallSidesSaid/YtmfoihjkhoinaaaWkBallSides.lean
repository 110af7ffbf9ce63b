/- The law BallSides. Condition: rows shorter than 10^14. -/
import Derived.Test.YtmfoihjkhoinaaaBi
namespace Go.Proofs.Ytmfoihjkhoinaaa
open Go.RowKit
set_option linter.unusedSimpArgs false
set_option linter.unusedVariables false
def d_law4_BallSides : Den := den2 aBall aBall (fun a b => a.sz ≤ 100000000000000 ∧ b.sz ≤ 100000000000000) fun a b => boolV true
set_option maxRecDepth 100000 in
set_option maxHeartbeats 4000000 in
theorem s_law4_BallSides : Sound Try.prog 19 d_law4_BallSides := by
  refine sound2 (fz := nofz) (l := [(88, d_law4_wide), (113, d_ball_Side), (114, d_ball_Meet), (115, d_ref4_Is), (51, d_ref4_Within), (116, d_ball_Within), (87, d_law4_known)]) TT_ok ⟨s_law4_wide, s_ball_Side, s_ball_Meet, s_ref4_Is, s_ref4_Within, s_ball_Within, s_law4_known, trivial⟩ mixed Try.func19 Try.ntmps19 Try.results19 Try.call19 rfl (by omega) (fun _ _ => rfl) ?_
  intro a b hp ha hb
  rw [codeK_start]
  have za := hp.1
  have zb := hp.2
  have hallb : ∀ r ∈ [a, b], r.sz ≤ 100000000000000 := by
    intro r hr
    simp only [List.mem_cons, List.not_mem_nil, or_false] at hr
    rcases hr with rfl | rfl <;> assumption
  by_cases hw : [a, b].any wideB = true
  · skip
    simp only [go_sem, d_law4_wide, d_ball_Side, d_ball_Meet, d_ref4_Is, d_ref4_Within, d_ball_Within, d_law4_known, hw, Nat.reduceBEq, Nat.reduceBNe, Nat.reduceLT, Nat.reduceLeDiff, Nat.reduceAdd, Nat.reduceSub, Nat.reduceMul, Nat.reduceEqDiff, Int.reduceNeg, Int.reduceAdd, Int.reduceLT, Int.reduceLE, Int.reduceToNat, ↓reduceIte]
    first | exact hallb | (and_intros <;> first | exact hallb | assumption | trivial | (show okDraw _ _ = true; kernel_rfl))
  rw [Bool.not_eq_true] at hw
  obtain ⟨ua, va, ca, ea, oa, ia⟩ := wide_facts (any_false hw a (by simp))
  have xa : rs a.lo.q ≤ 3 := rs_ok ha.1 ua (by omega)
  have ya : rs a.hi.q ≤ 3 := rs_ok ha.2 va (by omega)
  have wa : a.sz ≤ 3 := Nat.max_le.2 ⟨ua, va⟩
  obtain ⟨ub, vb, cb, eb, ob, ib⟩ := wide_facts (any_false hw b (by simp))
  have xb : rs b.lo.q ≤ 3 := rs_ok hb.1 ub (by omega)
  have yb : rs b.hi.q ≤ 3 := rs_ok hb.2 vb (by omega)
  have wb : b.sz ≤ 3 := Nat.max_le.2 ⟨ub, vb⟩
  have t1 := side_turn a b oa ob
  have b1 := side_bound a b
  have b2 := side_bound b a
  have q1 : (sideI a b = 0 - sideI b a) = True := eq_true (by omega)
  have w1 := has_self oa
  have d1 := rs_meetLo xa xb (by omega)
  have d2 := rs_meetHi ya yb (by omega)
  by_cases hs : sideI a b = 0
  · skip
    obtain ⟨m1, m2, m3⟩ := meet_facts oa ob hs
    have hs2 : sideI b a = 0 := by omega
    have hd : decide (sideI a b = 0) = true := decide_eq_true hs
    simp only [go_sem, d_law4_wide, d_ball_Side, d_ball_Meet, d_ref4_Is, d_ref4_Within, d_ball_Within, d_law4_known, hw, sameB_self, decide_true, decide_false, Nat.reduceBEq, Nat.reduceBNe, Nat.reduceLT, Nat.reduceLeDiff, Nat.reduceAdd, Nat.reduceSub, Nat.reduceMul, Nat.reduceEqDiff, Int.reduceNeg, Int.reduceAdd, Int.reduceLT, Int.reduceLE, Int.reduceToNat, ↓reduceIte]
    simp only [hs, hs2, hd, m1, m2, m3, w1, decide_true, Bool.not_true, Bool.not_false, beq_self_eq_true, Bool.false_eq_true, Bool.true_eq_false, if_true, if_false, and_true]
    and_intros
    all_goals first
      | assumption
      | exact hallb
      | exact hallhbig
      | omega
      | exact Nat.max_le.2 ⟨by rw [cr_sz]; omega, by rw [cr_sz]; omega⟩
      | (show okDraw _ _ = true; kernel_rfl)
  have hd : decide (sideI a b = 0) = false := decide_eq_false hs
  simp only [go_sem, d_law4_wide, d_ball_Side, d_ball_Meet, d_ref4_Is, d_ref4_Within, d_ball_Within, d_law4_known, hw, sameB_self, decide_true, decide_false, Nat.reduceBEq, Nat.reduceBNe, Nat.reduceLT, Nat.reduceLeDiff, Nat.reduceAdd, Nat.reduceSub, Nat.reduceMul, Nat.reduceEqDiff, Int.reduceNeg, Int.reduceAdd, Int.reduceLT, Int.reduceLE, Int.reduceToNat, ↓reduceIte]
  simp only [q1, hd, w1, decide_true, Bool.not_true, Bool.not_false, beq_self_eq_true, Bool.false_eq_true, Bool.true_eq_false, if_true, if_false, and_true]
  and_intros
  all_goals first
    | assumption
    | exact hallb
    | exact hallhbig
    | omega
    | exact Nat.max_le.2 ⟨by rw [cr_sz]; omega, by rw [cr_sz]; omega⟩
    | (show okDraw _ _ = true; kernel_rfl)

end Go.Proofs.Ytmfoihjkhoinaaa
