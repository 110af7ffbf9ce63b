/- The law RootMuls. Condition: rows shorter than 10^14. -/
import Derived.Test.YtmfoihjkhoinaaaBf
namespace Go.Proofs.Ytmfoihjkhoinaaa
open Go.RowKit
set_option linter.unusedSimpArgs false
set_option linter.unusedVariables false
def d_law5_RootMuls : Den := den3 aRat aRat aInt (fun a b p => a.sz ≤ 100000000000000 ∧ b.sz ≤ 100000000000000) fun a b p => boolV true
set_option maxRecDepth 100000 in
set_option maxHeartbeats 4000000 in
theorem s_law5_RootMuls : Sound Try.prog 4 d_law5_RootMuls := by
  refine sound3 (fz := nofz) (l := [(37, d_law5_big), (38, d_ref2_Norm), (41, d_root_Sqrt), (42, d_ref2_Mul), (50, d_ref4_Mul), (49, d_ref4_Side), (48, d_law5_known)]) TT_ok ⟨s_law5_big, s_ref2_Norm, s_root_Sqrt, s_ref2_Mul, s_ref4_Mul, s_ref4_Side, s_law5_known, trivial⟩ mixed Try.func4 Try.ntmps4 Try.results4 Try.call4 rfl (by omega) (fun _ _ _ => rfl) ?_
  intro a b p hp ha hb hp
  rw [codeK_start]
  have hall : ∀ r ∈ [a, b], r.sz ≤ 100000000000000 := by
    intro r hr
    simp only [List.mem_cons, List.not_mem_nil, or_false] at hr
    rcases hr with rfl | rfl <;> first | exact hp | exact hp.1 | exact hp.2 | exact hp.2.1 | exact hp.2.2 | exact hp.2.2.1
  by_cases hbig : [a, b].any bigR = true
  · skip
    simp only [go_sem, d_law5_big, d_ref2_Norm, d_root_Sqrt, d_ref2_Mul, d_ref4_Mul, d_ref4_Side, d_law5_known, hbig, Nat.reduceBEq, Nat.reduceBNe, Nat.reduceLT, Nat.reduceLeDiff, Nat.reduceAdd, Nat.reduceSub, Nat.reduceMul, Nat.reduceEqDiff, Int.reduceNeg, Int.reduceAdd, Int.reduceLT, Int.reduceLE, Int.reduceToNat, ↓reduceIte]
    exact hall
  rw [Bool.not_eq_true] at hbig
  have sa : a.sz ≤ 3 := not_big (any_false hbig a (by simp))
  have ra : rs a.q ≤ 3 := rs_ok ha sa (by omega)
  have sb : b.sz ≤ 3 := not_big (any_false hbig b (by simp))
  have rb : rs b.q ≤ 3 := rs_ok hb sb (by omega)
  by_cases g0 : p < 0
  · skip
    simp only [go_sem, d_law5_big, d_ref2_Norm, d_root_Sqrt, d_ref2_Mul, d_ref4_Mul, d_ref4_Side, d_law5_known, hbig, g0, decide_false, decide_true, Nat.reduceBEq, Nat.reduceBNe, Nat.reduceLT, Nat.reduceLeDiff, Nat.reduceAdd, Nat.reduceSub, Nat.reduceMul, Nat.reduceEqDiff, Int.reduceNeg, Int.reduceAdd, Int.reduceLT, Int.reduceLE, Int.reduceToNat, ↓reduceIte]
    first | exact hall | (and_intros <;> first | exact hall | omega | (show okDraw _ _ = true; kernel_rfl))
  by_cases g1 : (80 : Int) < p
  · skip
    simp only [go_sem, d_law5_big, d_ref2_Norm, d_root_Sqrt, d_ref2_Mul, d_ref4_Mul, d_ref4_Side, d_law5_known, hbig, g0, g1, decide_false, decide_true, Nat.reduceBEq, Nat.reduceBNe, Nat.reduceLT, Nat.reduceLeDiff, Nat.reduceAdd, Nat.reduceSub, Nat.reduceMul, Nat.reduceEqDiff, Int.reduceNeg, Int.reduceAdd, Int.reduceLT, Int.reduceLE, Int.reduceToNat, ↓reduceIte]
    first | exact hall | (and_intros <;> first | exact hall | omega | (show okDraw _ _ = true; kernel_rfl))
  by_cases g2 : (cr a.q).s = true
  · skip
    simp only [go_sem, d_law5_big, d_ref2_Norm, d_root_Sqrt, d_ref2_Mul, d_ref4_Mul, d_ref4_Side, d_law5_known, hbig, g0, g1, g2, decide_false, decide_true, Nat.reduceBEq, Nat.reduceBNe, Nat.reduceLT, Nat.reduceLeDiff, Nat.reduceAdd, Nat.reduceSub, Nat.reduceMul, Nat.reduceEqDiff, Int.reduceNeg, Int.reduceAdd, Int.reduceLT, Int.reduceLE, Int.reduceToNat, ↓reduceIte]
    first | exact hall | (and_intros <;> first | exact hall | omega | (show okDraw _ _ = true; kernel_rfl))
  by_cases g3 : (cr b.q).s = true
  · skip
    simp only [go_sem, d_law5_big, d_ref2_Norm, d_root_Sqrt, d_ref2_Mul, d_ref4_Mul, d_ref4_Side, d_law5_known, hbig, g0, g1, g2, g3, decide_false, decide_true, Nat.reduceBEq, Nat.reduceBNe, Nat.reduceLT, Nat.reduceLeDiff, Nat.reduceAdd, Nat.reduceSub, Nat.reduceMul, Nat.reduceEqDiff, Int.reduceNeg, Int.reduceAdd, Int.reduceLT, Int.reduceLE, Int.reduceToNat, ↓reduceIte]
    first | exact hall | (and_intros <;> first | exact hall | omega | (show okDraw _ _ = true; kernel_rfl))
  have sfa : (cr a.q).s = false := by simpa using g2
  have sfb : (cr b.q).s = false := by simpa using g3
  have na : ng a.q = false := sfa
  have nb : ng b.q = false := sfb
  have nab := ng_mul na nb
  have w := root_muls na nb p
  have rab : rs (a.q * b.q) ≤ 6 := rsb_mul ra rb (by omega)
  have r1 := rs_sqLo ra (by omega) p
  have r2 := rs_sqHi ra (by omega) p
  have r3 := rs_sqLo rb (by omega) p
  have r4 := rs_sqHi rb (by omega) p
  have r5 := rs_sqLo rab (by omega) p
  have r6 := rs_sqHi rab (by omega) p
  simp only [go_sem, d_law5_big, d_ref2_Norm, d_root_Sqrt, d_ref2_Mul, d_ref4_Mul, d_ref4_Side, d_law5_known, hbig, sfa, sfb, na, nb, nab, decide_false, decide_true, g0, g1, Nat.reduceBEq, Nat.reduceBNe, Nat.reduceLT, Nat.reduceLeDiff, Nat.reduceAdd, Nat.reduceSub, Nat.reduceMul, Nat.reduceEqDiff, Int.reduceNeg, Int.reduceAdd, Int.reduceLT, Int.reduceLE, Int.reduceToNat, ↓reduceIte]
  have m1 := rs_mulLo (a := bb (sqLo a.q p) (sqHi a.q p)) (b := bb (sqLo b.q p) (sqHi b.q p)) (K := 37) (by show rs (cr (sqLo a.q p)).q ≤ _; rw [cr_q]; omega) (by show rs (cr (sqHi a.q p)).q ≤ _; rw [cr_q]; omega) (by show rs (cr (sqLo b.q p)).q ≤ _; rw [cr_q]; omega) (by show rs (cr (sqHi b.q p)).q ≤ _; rw [cr_q]; omega)
  have m2 := rs_mulHi (a := bb (sqLo a.q p) (sqHi a.q p)) (b := bb (sqLo b.q p) (sqHi b.q p)) (K := 37) (by show rs (cr (sqLo a.q p)).q ≤ _; rw [cr_q]; omega) (by show rs (cr (sqHi a.q p)).q ≤ _; rw [cr_q]; omega) (by show rs (cr (sqLo b.q p)).q ≤ _; rw [cr_q]; omega) (by show rs (cr (sqHi b.q p)).q ≤ _; rw [cr_q]; omega)
  simp only [bb] at m1 m2 w
  rw [if_pos w]
  and_intros
  all_goals first
    | exact hall
    | exact Nat.max_le.2 ⟨by rw [cr_sz]; omega, by rw [cr_sz]; omega⟩
    | exact hall
    | assumption
    | omega
    | (show okDraw _ _ = true; kernel_rfl)

end Go.Proofs.Ytmfoihjkhoinaaa
