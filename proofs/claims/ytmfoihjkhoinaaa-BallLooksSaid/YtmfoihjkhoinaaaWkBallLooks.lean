/- The law BallLooks. Condition: rows shorter than 10^14. -/
import Derived.Test.YtmfoihjkhoinaaaBi
namespace Go.Proofs.Ytmfoihjkhoinaaa
open Go.RowKit
set_option linter.unusedSimpArgs false
set_option linter.unusedVariables false
def d_law4_BallLooks : Den := den3 aBall aBall aRat (fun a b x => a.sz ≤ 100000000000000 ∧ b.sz ≤ 100000000000000 ∧ x.sz ≤ 100000000000000) fun a b x => boolV true
set_option maxRecDepth 100000 in
set_option maxHeartbeats 8000000 in
theorem s_law4_BallLooks : Sound Try.prog 23 d_law4_BallLooks := by
  refine sound3 (fz := nofz) (l := [(83, d_law4_big), (121, d_ball_Is), (115, d_ref4_Is), (84, d_ball_Of), (86, d_ref4_Of), (81, d_ref4_Same), (88, d_law4_wide), (87, d_law4_known), (114, d_ball_Meet), (122, d_ref4_Meet), (90, d_ball_Width), (46, d_ref4_Width), (82, d_ref2_Same), (123, d_ball_Has), (124, d_ref4_Has), (116, d_ball_Within), (51, d_ref4_Within), (113, d_ball_Side), (49, d_ref4_Side)]) TT_ok ⟨s_law4_big, s_ball_Is, s_ref4_Is, s_ball_Of, s_ref4_Of, s_ref4_Same, s_law4_wide, s_law4_known, s_ball_Meet, s_ref4_Meet, s_ball_Width, s_ref4_Width, s_ref2_Same, s_ball_Has, s_ref4_Has, s_ball_Within, s_ref4_Within, s_ball_Side, s_ref4_Side, trivial⟩ mixed Try.func23 Try.ntmps23 Try.results23 Try.call23 rfl (by omega) (fun _ _ _ => rfl) ?_
  intro a b x hp ha hb hx
  rw [codeK_start]
  have za := hp.1
  have zb := hp.2.1
  have zx := hp.2.2
  have la := BB.lens za
  have lb := BB.lens zb
  have k1 := la.1
  have k2 := la.2
  have k3 := lb.1
  have k4 := lb.2
  have hallhbig : ∀ r ∈ [a.lo, a.hi, b.lo, b.hi, x], r.sz ≤ 100000000000000 := by
    intro r hr
    simp only [List.mem_cons, List.not_mem_nil, or_false] at hr
    rcases hr with rfl | rfl | rfl | rfl | rfl <;> assumption
  by_cases hbig : [a.lo, a.hi, b.lo, b.hi, x].any bigR = true
  · skip
    simp only [go_sem, d_law4_big, d_ball_Is, d_ref4_Is, d_ball_Of, d_ref4_Of, d_ref4_Same, d_law4_wide, d_law4_known, d_ball_Meet, d_ref4_Meet, d_ball_Width, d_ref4_Width, d_ref2_Same, d_ball_Has, d_ref4_Has, d_ball_Within, d_ref4_Within, d_ball_Side, d_ref4_Side, hbig, Nat.reduceBEq, Nat.reduceBNe, Nat.reduceLT, Nat.reduceLeDiff, Nat.reduceAdd, Nat.reduceSub, Nat.reduceMul, Nat.reduceEqDiff, Int.reduceNeg, Int.reduceAdd, Int.reduceLT, Int.reduceLE, Int.reduceToNat, ↓reduceIte]
    first | exact hallhbig | (and_intros <;> first | exact hallb | exact hallhbig | assumption | trivial | (show okDraw _ _ = true; kernel_rfl))
  rw [Bool.not_eq_true] at hbig
  have sx : x.sz ≤ 3 := not_big (any_false hbig x (by simp))
  have rx : rs x.q ≤ 3 := rs_ok hx sx (by omega)
  have m1 : a.lo.sz ≤ 3 := not_big (any_false hbig a.lo (by simp))
  have m2 : a.hi.sz ≤ 3 := not_big (any_false hbig a.hi (by simp))
  have m3 : b.lo.sz ≤ 3 := not_big (any_false hbig b.lo (by simp))
  have m4 : b.hi.sz ≤ 3 := not_big (any_false hbig b.hi (by simp))
  have sx : x.sz ≤ 3 := not_big (any_false hbig x (by simp))
  have rx : rs x.q ≤ 3 := rs_ok hx sx (by omega)
  have n1 : a.sz ≤ 3 := Nat.max_le.2 ⟨m1, m2⟩
  have n2 : b.sz ≤ 3 := Nat.max_le.2 ⟨m3, m4⟩
  have hallb : ∀ r ∈ [a, b], r.sz ≤ 100000000000000 := by
    intro r hr
    simp only [List.mem_cons, List.not_mem_nil, or_false] at hr
    rcases hr with rfl | rfl <;> assumption
  by_cases hw : [a, b].any wideB = true
  · skip
    simp only [go_sem, d_law4_big, d_ball_Is, d_ref4_Is, d_ball_Of, d_ref4_Of, d_ref4_Same, d_law4_wide, d_law4_known, d_ball_Meet, d_ref4_Meet, d_ball_Width, d_ref4_Width, d_ref2_Same, d_ball_Has, d_ref4_Has, d_ball_Within, d_ref4_Within, d_ball_Side, d_ref4_Side, hbig, sameB_self, beq_self_eq_true, eq_self, decide_true, decide_false, bne_self_eq_false, Bool.or_false, Bool.not_true, hw, Nat.reduceBEq, Nat.reduceBNe, Nat.reduceLT, Nat.reduceLeDiff, Nat.reduceAdd, Nat.reduceSub, Nat.reduceMul, Nat.reduceEqDiff, Int.reduceNeg, Int.reduceAdd, Int.reduceLT, Int.reduceLE, Int.reduceToNat, ↓reduceIte]
    and_intros
    all_goals first
      | assumption
      | exact hallb
      | exact hallhbig
      | omega
      | exact Nat.max_le.2 ⟨by rw [cr_sz]; omega, by rw [cr_sz]; omega⟩
      | (show okDraw _ _ = true; kernel_rfl)
  rw [Bool.not_eq_true] at hw
  obtain ⟨ua, va, ca, ea, oa, ia⟩ := wide_facts (any_false hw a (by simp))
  have xa : rs a.lo.q ≤ 3 := rs_ok ha.1 ua (by omega)
  have ya : rs a.hi.q ≤ 3 := rs_ok ha.2 va (by omega)
  obtain ⟨ub, vb, cb, eb, ob, ib⟩ := wide_facts (any_false hw b (by simp))
  have xb : rs b.lo.q ≤ 3 := rs_ok hb.1 ub (by omega)
  have yb : rs b.hi.q ≤ 3 := rs_ok hb.2 vb (by omega)
  have d1 := rs_meetLo xa xb (by omega)
  have d2 := rs_meetHi ya yb (by omega)
  have d3 : rs (a.hi.q - a.lo.q) ≤ 7 := rsb_sub ya xa (by omega)
  simp only [go_sem, d_law4_big, d_ball_Is, d_ref4_Is, d_ball_Of, d_ref4_Of, d_ref4_Same, d_law4_wide, d_law4_known, d_ball_Meet, d_ref4_Meet, d_ball_Width, d_ref4_Width, d_ref2_Same, d_ball_Has, d_ref4_Has, d_ball_Within, d_ref4_Within, d_ball_Side, d_ref4_Side, hbig, sameB_self, beq_self_eq_true, eq_self, decide_true, decide_false, bne_self_eq_false, Bool.or_false, Bool.not_true, hw, Nat.reduceBEq, Nat.reduceBNe, Nat.reduceLT, Nat.reduceLeDiff, Nat.reduceAdd, Nat.reduceSub, Nat.reduceMul, Nat.reduceEqDiff, Int.reduceNeg, Int.reduceAdd, Int.reduceLT, Int.reduceLE, Int.reduceToNat, ↓reduceIte]
  and_intros
  all_goals first
    | assumption
    | exact hallb
    | exact hallhbig
    | omega
    | exact Nat.max_le.2 ⟨by rw [cr_sz]; omega, by rw [cr_sz]; omega⟩
    | (show okDraw _ _ = true; kernel_rfl)

end Go.Proofs.Ytmfoihjkhoinaaa
