/- The law RootRises. Condition: rows shorter than 10^14. -/
import Derived.Test.YtmfoihjkhoinaaaBf
namespace Go.Proofs.Ytmfoihjkhoinaaa
open Go.RowKit
set_option linter.unusedSimpArgs false
set_option linter.unusedVariables false
def d_law5_RootRises : Den := den4 aRat aRat aInt aInt (fun a b p m => a.sz ≤ 100000000000000 ∧ b.sz ≤ 100000000000000) fun a b p m => boolV true
set_option maxRecDepth 100000 in
set_option maxHeartbeats 4000000 in
theorem s_law5_RootRises : Sound Try.prog 5 d_law5_RootRises := by
  refine sound4 (fz := nofz) (l := [(37, d_law5_big), (38, d_ref2_Norm), (45, d_ref2_Cmp), (41, d_root_Sqrt), (51, d_ref4_Within), (48, d_law5_known)]) TT_ok ⟨s_law5_big, s_ref2_Norm, s_ref2_Cmp, s_root_Sqrt, s_ref4_Within, s_law5_known, trivial⟩ mixed Try.func5 Try.ntmps5 Try.results5 Try.call5 rfl (by omega) (fun _ _ _ _ => rfl) ?_
  intro a b p m hp ha hb hp hm
  rw [codeK_start]
  have hall : ∀ r ∈ [a, b], r.sz ≤ 100000000000000 := by
    intro r hr
    simp only [List.mem_cons, List.not_mem_nil, or_false] at hr
    rcases hr with rfl | rfl <;> first | exact hp | exact hp.1 | exact hp.2 | exact hp.2.1 | exact hp.2.2 | exact hp.2.2.1
  by_cases hbig : [a, b].any bigR = true
  · skip
    simp only [go_sem, d_law5_big, d_ref2_Norm, d_ref2_Cmp, d_root_Sqrt, d_ref4_Within, d_law5_known, hbig, Nat.reduceBEq, Nat.reduceBNe, Nat.reduceLT, Nat.reduceLeDiff, Nat.reduceAdd, Nat.reduceSub, Nat.reduceMul, Nat.reduceEqDiff, Int.reduceNeg, Int.reduceAdd, Int.reduceLT, Int.reduceLE, Int.reduceToNat, ↓reduceIte]
    exact hall
  rw [Bool.not_eq_true] at hbig
  have sa : a.sz ≤ 3 := not_big (any_false hbig a (by simp))
  have ra : rs a.q ≤ 3 := rs_ok ha sa (by omega)
  have sb : b.sz ≤ 3 := not_big (any_false hbig b (by simp))
  have rb : rs b.q ≤ 3 := rs_ok hb sb (by omega)
  by_cases g0 : p < 0
  · skip
    simp only [go_sem, d_law5_big, d_ref2_Norm, d_ref2_Cmp, d_root_Sqrt, d_ref4_Within, d_law5_known, hbig, g0, decide_false, decide_true, Nat.reduceBEq, Nat.reduceBNe, Nat.reduceLT, Nat.reduceLeDiff, Nat.reduceAdd, Nat.reduceSub, Nat.reduceMul, Nat.reduceEqDiff, Int.reduceNeg, Int.reduceAdd, Int.reduceLT, Int.reduceLE, Int.reduceToNat, ↓reduceIte]
    first | exact hall | (and_intros <;> first | exact hall | omega | (show okDraw _ _ = true; kernel_rfl))
  by_cases g1 : (60 : Int) < p
  · skip
    simp only [go_sem, d_law5_big, d_ref2_Norm, d_ref2_Cmp, d_root_Sqrt, d_ref4_Within, d_law5_known, hbig, g0, g1, decide_false, decide_true, Nat.reduceBEq, Nat.reduceBNe, Nat.reduceLT, Nat.reduceLeDiff, Nat.reduceAdd, Nat.reduceSub, Nat.reduceMul, Nat.reduceEqDiff, Int.reduceNeg, Int.reduceAdd, Int.reduceLT, Int.reduceLE, Int.reduceToNat, ↓reduceIte]
    first | exact hall | (and_intros <;> first | exact hall | omega | (show okDraw _ _ = true; kernel_rfl))
  by_cases g2 : m < 0
  · skip
    simp only [go_sem, d_law5_big, d_ref2_Norm, d_ref2_Cmp, d_root_Sqrt, d_ref4_Within, d_law5_known, hbig, g0, g1, g2, decide_false, decide_true, Nat.reduceBEq, Nat.reduceBNe, Nat.reduceLT, Nat.reduceLeDiff, Nat.reduceAdd, Nat.reduceSub, Nat.reduceMul, Nat.reduceEqDiff, Int.reduceNeg, Int.reduceAdd, Int.reduceLT, Int.reduceLE, Int.reduceToNat, ↓reduceIte]
    first | exact hall | (and_intros <;> first | exact hall | omega | (show okDraw _ _ = true; kernel_rfl))
  by_cases g3 : (60 : Int) < m
  · skip
    simp only [go_sem, d_law5_big, d_ref2_Norm, d_ref2_Cmp, d_root_Sqrt, d_ref4_Within, d_law5_known, hbig, g0, g1, g2, g3, decide_false, decide_true, Nat.reduceBEq, Nat.reduceBNe, Nat.reduceLT, Nat.reduceLeDiff, Nat.reduceAdd, Nat.reduceSub, Nat.reduceMul, Nat.reduceEqDiff, Int.reduceNeg, Int.reduceAdd, Int.reduceLT, Int.reduceLE, Int.reduceToNat, ↓reduceIte]
    first | exact hall | (and_intros <;> first | exact hall | omega | (show okDraw _ _ = true; kernel_rfl))
  by_cases g4 : (cr a.q).s = true
  · skip
    simp only [go_sem, d_law5_big, d_ref2_Norm, d_ref2_Cmp, d_root_Sqrt, d_ref4_Within, d_law5_known, hbig, g0, g1, g2, g3, g4, decide_false, decide_true, Nat.reduceBEq, Nat.reduceBNe, Nat.reduceLT, Nat.reduceLeDiff, Nat.reduceAdd, Nat.reduceSub, Nat.reduceMul, Nat.reduceEqDiff, Int.reduceNeg, Int.reduceAdd, Int.reduceLT, Int.reduceLE, Int.reduceToNat, ↓reduceIte]
    first | exact hall | (and_intros <;> first | exact hall | omega | (show okDraw _ _ = true; kernel_rfl))
  by_cases g5 : b.q < a.q
  · skip
    simp only [go_sem, d_law5_big, d_ref2_Norm, d_ref2_Cmp, d_root_Sqrt, d_ref4_Within, d_law5_known, hbig, g0, g1, g2, g3, g4, g5, decide_false, decide_true, Nat.reduceBEq, Nat.reduceBNe, Nat.reduceLT, Nat.reduceLeDiff, Nat.reduceAdd, Nat.reduceSub, Nat.reduceMul, Nat.reduceEqDiff, Int.reduceNeg, Int.reduceAdd, Int.reduceLT, Int.reduceLE, Int.reduceToNat, ↓reduceIte]
    first | exact hall | (and_intros <;> first | exact hall | omega | (show okDraw _ _ = true; kernel_rfl))
  have na : ng a.q = false := by simpa [cr_s] using g4
  have sf : (cr a.q).s = false := na
  have hab : a.q ≤ b.q := Rat.not_lt.1 g5
  have hs5 : ¬ b.q < a.q := g5
  have nb := ng_of_le na hab
  have w1 := sqLo_le_sqHi na hab p p
  have w2 := within_more na (p := p) (m := m) (by omega) (by omega) (by omega)
  have r1 := rs_sqLo ra (by omega) p
  have r2 := rs_sqHi ra (by omega) p
  have r3 := rs_sqLo rb (by omega) p
  have r4 := rs_sqHi rb (by omega) p
  have r5 := rs_sqLo ra (by omega) (p + m)
  have r6 := rs_sqHi ra (by omega) (p + m)
  simp only [go_sem, d_law5_big, d_ref2_Norm, d_ref2_Cmp, d_root_Sqrt, d_ref4_Within, d_law5_known, hbig, sf, na, nb, w1, w2, decide_false, decide_true, g0, g1, g2, g3, hs5, Nat.reduceBEq, Nat.reduceBNe, Nat.reduceLT, Nat.reduceLeDiff, Nat.reduceAdd, Nat.reduceSub, Nat.reduceMul, Nat.reduceEqDiff, Int.reduceNeg, Int.reduceAdd, Int.reduceLT, Int.reduceLE, Int.reduceToNat, ↓reduceIte]
  and_intros
  all_goals first
    | exact hall
    | exact Nat.max_le.2 ⟨by rw [cr_sz]; omega, by rw [cr_sz]; omega⟩
    | exact hall
    | assumption
    | omega
    | (show okDraw _ _ = true; kernel_rfl)

end Go.Proofs.Ytmfoihjkhoinaaa
