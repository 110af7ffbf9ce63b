/- The law BallTrims. Condition: rows shorter than 10^14. -/
import Derived.Test.YtmfoihjkhoinaaaBi
namespace Go.Proofs.Ytmfoihjkhoinaaa
open Go.RowKit
set_option linter.unusedSimpArgs false
set_option linter.unusedVariables false
def d_law4_BallTrims : Den := den3 aBall aRat aInt (fun a x k => a.sz ≤ 100000000000000 ∧ x.sz ≤ 100000000000000) fun a x k => boolV true
set_option maxRecDepth 100000 in
set_option maxHeartbeats 4000000 in
theorem s_law4_BallTrims : Sound Try.prog 14 d_law4_BallTrims := by
  refine sound3 (fz := nofz) (l := [(88, d_law4_wide), (83, d_law4_big), (97, d_ball_Down), (99, d_ref4_Down), (82, d_ref2_Same), (98, d_ball_Up), (100, d_ref4_Up), (101, d_ball_Trim), (102, d_ref4_Trim), (81, d_ref4_Same), (87, d_law4_known)]) TT_ok ⟨s_law4_wide, s_law4_big, s_ball_Down, s_ref4_Down, s_ref2_Same, s_ball_Up, s_ref4_Up, s_ball_Trim, s_ref4_Trim, s_ref4_Same, s_law4_known, trivial⟩ mixed Try.func14 Try.ntmps14 Try.results14 Try.call14 rfl (by omega) (fun _ _ _ => rfl) ?_
  intro a x k hp ha hx hk
  rw [codeK_start]
  have za := hp.1
  have zx := hp.2
  have hallb : ∀ r ∈ [a], r.sz ≤ 100000000000000 := by
    intro r hr
    simp only [List.mem_cons, List.not_mem_nil, or_false] at hr
    rcases hr with rfl <;> assumption
  by_cases hw : [a].any wideB = true
  · skip
    simp only [go_sem, d_law4_wide, d_law4_big, d_ball_Down, d_ref4_Down, d_ref2_Same, d_ball_Up, d_ref4_Up, d_ball_Trim, d_ref4_Trim, d_ref4_Same, d_law4_known, hw, Nat.reduceBEq, Nat.reduceBNe, Nat.reduceLT, Nat.reduceLeDiff, Nat.reduceAdd, Nat.reduceSub, Nat.reduceMul, Nat.reduceEqDiff, Int.reduceNeg, Int.reduceAdd, Int.reduceLT, Int.reduceLE, Int.reduceToNat, ↓reduceIte]
    first | exact hallb | (and_intros <;> first | exact hallb | assumption | trivial | (show okDraw _ _ = true; kernel_rfl))
  rw [Bool.not_eq_true] at hw
  obtain ⟨ua, va, ca, ea, oa, ia⟩ := wide_facts (any_false hw a (by simp))
  have xa : rs a.lo.q ≤ 3 := rs_ok ha.1 ua (by omega)
  have ya : rs a.hi.q ≤ 3 := rs_ok ha.2 va (by omega)
  have wa : a.sz ≤ 3 := Nat.max_le.2 ⟨ua, va⟩
  have hallhbig : ∀ r ∈ [x], r.sz ≤ 100000000000000 := by
    intro r hr
    simp only [List.mem_cons, List.not_mem_nil, or_false] at hr
    rcases hr with rfl <;> assumption
  by_cases hbig : [x].any bigR = true
  · skip
    simp only [go_sem, d_law4_wide, d_law4_big, d_ball_Down, d_ref4_Down, d_ref2_Same, d_ball_Up, d_ref4_Up, d_ball_Trim, d_ref4_Trim, d_ref4_Same, d_law4_known, hw, hbig, Nat.reduceBEq, Nat.reduceBNe, Nat.reduceLT, Nat.reduceLeDiff, Nat.reduceAdd, Nat.reduceSub, Nat.reduceMul, Nat.reduceEqDiff, Int.reduceNeg, Int.reduceAdd, Int.reduceLT, Int.reduceLE, Int.reduceToNat, ↓reduceIte]
    first | exact hallhbig | (and_intros <;> first | exact hallb | exact hallhbig | assumption | trivial | (show okDraw _ _ = true; kernel_rfl))
  rw [Bool.not_eq_true] at hbig
  have sx : x.sz ≤ 3 := not_big (any_false hbig x (by simp))
  have rx : rs x.q ≤ 3 := rs_ok hx sx (by omega)
  have d1 := rs_dn rx (hold_le k)
  have d2 := rs_up rx (hold_le k)
  have d3 := rs_dn xa (hold_le k)
  have d4 := rs_up ya (hold_le k)
  simp only [go_sem, d_law4_wide, d_law4_big, d_ball_Down, d_ref4_Down, d_ref2_Same, d_ball_Up, d_ref4_Up, d_ball_Trim, d_ref4_Trim, d_ref4_Same, d_law4_known, hw, hbig, sameB_self, eq_self, decide_true, decide_false, Nat.reduceBEq, Nat.reduceBNe, Nat.reduceLT, Nat.reduceLeDiff, Nat.reduceAdd, Nat.reduceSub, Nat.reduceMul, Nat.reduceEqDiff, Int.reduceNeg, Int.reduceAdd, Int.reduceLT, Int.reduceLE, Int.reduceToNat, ↓reduceIte]
  and_intros
  all_goals first
    | assumption
    | exact hallb
    | exact hallhbig
    | omega
    | exact Nat.max_le.2 ⟨by rw [cr_sz]; omega, by rw [cr_sz]; omega⟩
    | (show okDraw _ _ = true; kernel_rfl)

end Go.Proofs.Ytmfoihjkhoinaaa
