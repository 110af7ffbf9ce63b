/- The law BallShorter. Condition: rows shorter than 10^14. -/
import Derived.Test.YtmfoihjkhoinaaaBi
namespace Go.Proofs.Ytmfoihjkhoinaaa
open Go.RowKit
set_option linter.unusedSimpArgs false
set_option linter.unusedVariables false
def d_law4_BallShorter : Den := den2 aRat aInt (fun x k => x.sz ≤ 100000000000000) fun x k => boolV true
set_option maxRecDepth 100000 in
set_option maxHeartbeats 4000000 in
theorem s_law4_BallShorter : Sound Try.prog 13 d_law4_BallShorter := by
  refine sound2 (fz := nofz) (l := [(83, d_law4_big), (97, d_ball_Down), (98, d_ball_Up), (47, d_ref4_Bit), (45, d_ref2_Cmp), (59, d_ref2_Add), (95, d_ref2_Sub), (82, d_ref2_Same), (87, d_law4_known)]) TT_ok ⟨s_law4_big, s_ball_Down, s_ball_Up, s_ref4_Bit, s_ref2_Cmp, s_ref2_Add, s_ref2_Sub, s_ref2_Same, s_law4_known, trivial⟩ mixed Try.func13 Try.ntmps13 Try.results13 Try.call13 rfl (by omega) (fun _ _ => rfl) ?_
  intro x k hp hx hk
  rw [codeK_start]
  have zx := hp
  have hallhbig : ∀ r ∈ [x], r.sz ≤ 100000000000000 := by
    intro r hr
    simp only [List.mem_cons, List.not_mem_nil, or_false] at hr
    rcases hr with rfl <;> assumption
  by_cases hbig : [x].any bigR = true
  · skip
    simp only [go_sem, d_law4_big, d_ball_Down, d_ball_Up, d_ref4_Bit, d_ref2_Cmp, d_ref2_Add, d_ref2_Sub, d_ref2_Same, d_law4_known, hbig, Nat.reduceBEq, Nat.reduceBNe, Nat.reduceLT, Nat.reduceLeDiff, Nat.reduceAdd, Nat.reduceSub, Nat.reduceMul, Nat.reduceEqDiff, Int.reduceNeg, Int.reduceAdd, Int.reduceLT, Int.reduceLE, Int.reduceToNat, ↓reduceIte]
    first | exact hallhbig | (and_intros <;> first | exact hallb | exact hallhbig | assumption | trivial | (show okDraw _ _ = true; kernel_rfl))
  rw [Bool.not_eq_true] at hbig
  have sx : x.sz ≤ 3 := not_big (any_false hbig x (by simp))
  have rx : rs x.q ≤ 3 := rs_ok hx sx (by omega)
  by_cases g1 : k < 0
  · skip
    simp only [go_sem, d_law4_big, d_ball_Down, d_ball_Up, d_ref4_Bit, d_ref2_Cmp, d_ref2_Add, d_ref2_Sub, d_ref2_Same, d_law4_known, hbig, g1, decide_true, decide_false, Nat.reduceBEq, Nat.reduceBNe, Nat.reduceLT, Nat.reduceLeDiff, Nat.reduceAdd, Nat.reduceSub, Nat.reduceMul, Nat.reduceEqDiff, Int.reduceNeg, Int.reduceAdd, Int.reduceLT, Int.reduceLE, Int.reduceToNat, ↓reduceIte]
    first | exact hallb | trivial | (and_intros <;> first | exact hallb | exact hallhbig | assumption | trivial | omega | (show okDraw _ _ = true; kernel_rfl))
  by_cases g2 : (100 : Int) < k
  · skip
    simp only [go_sem, d_law4_big, d_ball_Down, d_ball_Up, d_ref4_Bit, d_ref2_Cmp, d_ref2_Add, d_ref2_Sub, d_ref2_Same, d_law4_known, hbig, g1, g2, decide_true, decide_false, Nat.reduceBEq, Nat.reduceBNe, Nat.reduceLT, Nat.reduceLeDiff, Nat.reduceAdd, Nat.reduceSub, Nat.reduceMul, Nat.reduceEqDiff, Int.reduceNeg, Int.reduceAdd, Int.reduceLT, Int.reduceLE, Int.reduceToNat, ↓reduceIte]
    first | exact hallb | trivial | (and_intros <;> first | exact hallb | exact hallhbig | assumption | trivial | omega | (show okDraw _ _ = true; kernel_rfl))
  have hk2 := hold_nat (p := k) (by omega) (by omega)
  have d3 := rs_dn rx (hold_le k)
  have d4 := rs_up rx (hold_le k)
  have d5 := rs_unitP (h := hold k) (by have := hold_le k; omega)
  have w1 := dn_le x.q (hold k)
  have w2 := lt_dn x.q (hold k)
  have w3 := le_up x.q (hold k)
  have w4 := up_lt x.q (hold k)
  have d9 : rs (dn x.q (hold k) + unitP (hold k)) ≤ 141 := rsb_add d3 d5 (by omega)
  have d0 : rs (up x.q (hold k) - unitP (hold k)) ≤ 141 := rsb_sub d4 d5 (by omega)
  simp only [go_sem, d_law4_big, d_ball_Down, d_ball_Up, d_ref4_Bit, d_ref2_Cmp, d_ref2_Add, d_ref2_Sub, d_ref2_Same, d_law4_known, hbig, g1, g2, sameB_self, eq_self, decide_true, decide_false, unitP_eq, ← hk2, w1, w2, w3, w4, dn_dn, up_dn, Nat.reduceBEq, Nat.reduceBNe, Nat.reduceLT, Nat.reduceLeDiff, Nat.reduceAdd, Nat.reduceSub, Nat.reduceMul, Nat.reduceEqDiff, Int.reduceNeg, Int.reduceAdd, Int.reduceLT, Int.reduceLE, Int.reduceToNat, ↓reduceIte]
  and_intros
  all_goals first
    | assumption
    | exact hallb
    | exact hallhbig
    | omega
    | exact Nat.max_le.2 ⟨by rw [cr_sz]; omega, by rw [cr_sz]; omega⟩
    | (show okDraw _ _ = true; kernel_rfl)

end Go.Proofs.Ytmfoihjkhoinaaa
