/- The law BallOut. Condition: rows shorter than 10^14. -/
import Derived.Test.YtmfoihjkhoinaaaBi
namespace Go.Proofs.Ytmfoihjkhoinaaa
open Go.RowKit
set_option linter.unusedSimpArgs false
set_option linter.unusedVariables false
def d_law4_BallOut : Den := den2 aBall aInt (fun a k => a.sz ≤ 100000000000000) fun a k => boolV true
set_option maxRecDepth 100000 in
set_option maxHeartbeats 4000000 in
theorem s_law4_BallOut : Sound Try.prog 15 d_law4_BallOut := by
  refine sound2 (fz := nofz) (l := [(88, d_law4_wide), (101, d_ball_Trim), (47, d_ref4_Bit), (72, d_ref2_Int), (42, d_ref2_Mul), (51, d_ref4_Within), (46, d_ref4_Width), (59, d_ref2_Add), (45, d_ref2_Cmp), (81, d_ref4_Same), (87, d_law4_known)]) TT_ok ⟨s_law4_wide, s_ball_Trim, s_ref4_Bit, s_ref2_Int, s_ref2_Mul, s_ref4_Within, s_ref4_Width, s_ref2_Add, s_ref2_Cmp, s_ref4_Same, s_law4_known, trivial⟩ mixed Try.func15 Try.ntmps15 Try.results15 Try.call15 rfl (by omega) (fun _ _ => rfl) ?_
  intro a k hp ha hk
  rw [codeK_start]
  have za := hp
  have hallb : ∀ r ∈ [a], r.sz ≤ 100000000000000 := by
    intro r hr
    simp only [List.mem_cons, List.not_mem_nil, or_false] at hr
    rcases hr with rfl <;> assumption
  by_cases hw : [a].any wideB = true
  · skip
    simp only [go_sem, d_law4_wide, d_ball_Trim, d_ref4_Bit, d_ref2_Int, d_ref2_Mul, d_ref4_Within, d_ref4_Width, d_ref2_Add, d_ref2_Cmp, d_ref4_Same, d_law4_known, hw, Nat.reduceBEq, Nat.reduceBNe, Nat.reduceLT, Nat.reduceLeDiff, Nat.reduceAdd, Nat.reduceSub, Nat.reduceMul, Nat.reduceEqDiff, Int.reduceNeg, Int.reduceAdd, Int.reduceLT, Int.reduceLE, Int.reduceToNat, ↓reduceIte]
    first | exact hallb | (and_intros <;> first | exact hallb | assumption | trivial | (show okDraw _ _ = true; kernel_rfl))
  rw [Bool.not_eq_true] at hw
  obtain ⟨ua, va, ca, ea, oa, ia⟩ := wide_facts (any_false hw a (by simp))
  have xa : rs a.lo.q ≤ 3 := rs_ok ha.1 ua (by omega)
  have ya : rs a.hi.q ≤ 3 := rs_ok ha.2 va (by omega)
  have wa : a.sz ≤ 3 := Nat.max_le.2 ⟨ua, va⟩
  by_cases g1 : k < 0
  · skip
    simp only [go_sem, d_law4_wide, d_ball_Trim, d_ref4_Bit, d_ref2_Int, d_ref2_Mul, d_ref4_Within, d_ref4_Width, d_ref2_Add, d_ref2_Cmp, d_ref4_Same, d_law4_known, hw, g1, decide_true, decide_false, Nat.reduceBEq, Nat.reduceBNe, Nat.reduceLT, Nat.reduceLeDiff, Nat.reduceAdd, Nat.reduceSub, Nat.reduceMul, Nat.reduceEqDiff, Int.reduceNeg, Int.reduceAdd, Int.reduceLT, Int.reduceLE, Int.reduceToNat, ↓reduceIte]
    first | exact hallb | trivial | (and_intros <;> first | exact hallb | exact hallhbig | assumption | trivial | omega | (show okDraw _ _ = true; kernel_rfl))
  by_cases g2 : (100 : Int) < k
  · skip
    simp only [go_sem, d_law4_wide, d_ball_Trim, d_ref4_Bit, d_ref2_Int, d_ref2_Mul, d_ref4_Within, d_ref4_Width, d_ref2_Add, d_ref2_Cmp, d_ref4_Same, d_law4_known, hw, g1, g2, decide_true, decide_false, Nat.reduceBEq, Nat.reduceBNe, Nat.reduceLT, Nat.reduceLeDiff, Nat.reduceAdd, Nat.reduceSub, Nat.reduceMul, Nat.reduceEqDiff, Int.reduceNeg, Int.reduceAdd, Int.reduceLT, Int.reduceLE, Int.reduceToNat, ↓reduceIte]
    first | exact hallb | trivial | (and_intros <;> first | exact hallb | exact hallhbig | assumption | trivial | omega | (show okDraw _ _ = true; kernel_rfl))
  have hk2 := hold_nat (p := k) (by omega) (by omega)
  have d3 := rs_dn xa (hold_le k)
  have d4 := rs_up ya (hold_le k)
  have w1 := trim_in oa (hold k)
  have w2 := trim_width a.lo.q a.hi.q (hold k)
  have d5 := rs_unitP (h := hold k) (by have := hold_le k; omega)
  have d6 : rs ((2 : Int) : Rat) ≤ 2 := rsb_int (by omega) (by omega) (by omega)
  have d7 : rs (a.hi.q - a.lo.q) ≤ 7 := rsb_sub ya xa (by omega)
  have d8 : rs (unitP (hold k) * ((2 : Int) : Rat)) ≤ 35 := rsb_mul d5 d6 (by omega)
  have d9 : rs (up a.hi.q (hold k) - dn a.lo.q (hold k)) ≤ 141 := rsb_sub d4 d3 (by omega)
  have d0 : rs (a.hi.q - a.lo.q + unitP (hold k) * ((2 : Int) : Rat)) ≤ 43 := rsb_add d7 d8 (by omega)
  simp only [go_sem, d_law4_wide, d_ball_Trim, d_ref4_Bit, d_ref2_Int, d_ref2_Mul, d_ref4_Within, d_ref4_Width, d_ref2_Add, d_ref2_Cmp, d_ref4_Same, d_law4_known, hw, g1, g2, sameB_self, eq_self, decide_true, decide_false, unitP_eq, ← hk2, w1, w2, dn_dn, up_up, Nat.reduceBEq, Nat.reduceBNe, Nat.reduceLT, Nat.reduceLeDiff, Nat.reduceAdd, Nat.reduceSub, Nat.reduceMul, Nat.reduceEqDiff, Int.reduceNeg, Int.reduceAdd, Int.reduceLT, Int.reduceLE, Int.reduceToNat, ↓reduceIte]
  and_intros
  all_goals first
    | assumption
    | exact hallb
    | exact hallhbig
    | omega
    | exact Nat.max_le.2 ⟨by rw [cr_sz]; omega, by rw [cr_sz]; omega⟩
    | (show okDraw _ _ = true; kernel_rfl)

end Go.Proofs.Ytmfoihjkhoinaaa
