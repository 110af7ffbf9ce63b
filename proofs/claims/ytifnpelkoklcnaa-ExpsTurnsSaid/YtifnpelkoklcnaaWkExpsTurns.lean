/- The law ExpsTurns. Condition: rows shorter than 10^14. -/
import Derived.Test.YtifnpelkoklcnaaMc
namespace Go.Proofs.Ytifnpelkoklcnaa
open Go.RowKit
set_option linter.unusedSimpArgs false
set_option linter.unusedVariables false
def d_law6_ExpsTurns : Den := den2 aRat aInt (fun a p => a.sz ≤ 100000000000000) fun a p => boolV true
set_option maxRecDepth 100000 in
set_option maxHeartbeats 4000000 in
theorem s_law6_ExpsTurns : Sound Try.prog 7 d_law6_ExpsTurns := by
  refine sound2 (fz := nofz) (l := [(38, d_law6_big), (39, d_exps_Exp), (18, d_ref2_Neg), (26, d_ref4_Mul), (24, d_ref2_Int), (40, d_ref4_Has), (41, d_law6_known)]) TT_ok ⟨s_law6_big, s_exps_Exp, s_ref2_Neg, s_ref4_Mul, s_ref2_Int, s_ref4_Has, s_law6_known, trivial⟩ mixed Try.func7 Try.ntmps7 Try.results7 Try.call7 rfl (by omega) (fun _ _ => rfl) ?_
  intro a p hp ha hp
  rw [codeK_start]
  have hall : ∀ r ∈ [a], r.sz ≤ 100000000000000 := by
    intro r hr
    simp only [List.mem_cons, List.not_mem_nil, or_false] at hr
    rcases hr with rfl <;> first | exact hp | exact hp.1 | exact hp.2 | exact hp.2.1 | exact hp.2.2 | exact hp.2.2.1
  by_cases hbig : [a].any bigR = true
  · skip
    simp only [go_sem, d_law6_big, d_exps_Exp, d_ref2_Neg, d_ref4_Mul, d_ref2_Int, d_ref4_Has, d_law6_known, hbig, Nat.reduceBEq, Nat.reduceBNe, Nat.reduceLT, Nat.reduceLeDiff, Nat.reduceAdd, Nat.reduceSub, Nat.reduceMul, Nat.reduceEqDiff, Int.reduceNeg, Int.reduceAdd, Int.reduceLT, Int.reduceLE, Int.reduceToNat, ↓reduceIte]
    exact hall
  rw [Bool.not_eq_true] at hbig
  have sa : a.sz ≤ 3 := not_big (any_false hbig a (by simp))
  have ra : rs a.q ≤ 3 := rs_ok ha sa (by omega)
  by_cases g0 : p < 0
  · skip
    simp only [go_sem, d_law6_big, d_exps_Exp, d_ref2_Neg, d_ref4_Mul, d_ref2_Int, d_ref4_Has, d_law6_known, hbig, g0, decide_false, decide_true, Nat.reduceBEq, Nat.reduceBNe, Nat.reduceLT, Nat.reduceLeDiff, Nat.reduceAdd, Nat.reduceSub, Nat.reduceMul, Nat.reduceEqDiff, Int.reduceNeg, Int.reduceAdd, Int.reduceLT, Int.reduceLE, Int.reduceToNat, ↓reduceIte]
    first | exact hall | (and_intros <;> first | exact hall | omega | (show okDraw _ _ = true; kernel_rfl))
  by_cases g1 : (60 : Int) < p
  · skip
    simp only [go_sem, d_law6_big, d_exps_Exp, d_ref2_Neg, d_ref4_Mul, d_ref2_Int, d_ref4_Has, d_law6_known, hbig, g0, g1, decide_false, decide_true, Nat.reduceBEq, Nat.reduceBNe, Nat.reduceLT, Nat.reduceLeDiff, Nat.reduceAdd, Nat.reduceSub, Nat.reduceMul, Nat.reduceEqDiff, Int.reduceNeg, Int.reduceAdd, Int.reduceLT, Int.reduceLE, Int.reduceToNat, ↓reduceIte]
    first | exact hall | (and_intros <;> first | exact hall | omega | (show okDraw _ _ = true; kernel_rfl))
  have hd : a.q.den ≤ 2 ^ 200 := den_le (by omega)
  have hdn : (-a.q).den ≤ 2 ^ 200 := hd
  have hn := expOk_neg a.q
  obtain ⟨r1, r2⟩ := rs_exp p hd
  obtain ⟨r3, r4⟩ := rs_exp p hdn
  have rn : rs (-a.q) ≤ 3 := rsb_neg ra
  cases hk : expOk a.q with
  | false =>
    simp only [go_sem, d_law6_big, d_exps_Exp, d_ref2_Neg, d_ref4_Mul, d_ref2_Int, d_ref4_Has, d_law6_known, hbig, hn, hk, decide_false, decide_true, g0, g1, Nat.reduceBEq, Nat.reduceBNe, Nat.reduceLT, Nat.reduceLeDiff, Nat.reduceAdd, Nat.reduceSub, Nat.reduceMul, Nat.reduceEqDiff, Int.reduceNeg, Int.reduceAdd, Int.reduceLT, Int.reduceLE, Int.reduceToNat, ↓reduceIte]
    rw [if_neg (by decide)]
    exact ⟨hall, ⟨by omega, hd⟩, by omega, ⟨by omega, hdn⟩, trivial⟩
  | true =>
    have ht := exp_turn p hk hd
    have m1 := rs_mulLo (a := bb (expLo a.q p) (expHi a.q p)) (b := bb (expLo (-a.q) p) (expHi (-a.q) p)) (K := 30) (by simpa [bb, cr_q] using r1) (by simpa [bb, cr_q] using r2) (by simpa [bb, cr_q] using r3) (by simpa [bb, cr_q] using r4)
    have m2 := rs_mulHi (a := bb (expLo a.q p) (expHi a.q p)) (b := bb (expLo (-a.q) p) (expHi (-a.q) p)) (K := 30) (by simpa [bb, cr_q] using r1) (by simpa [bb, cr_q] using r2) (by simpa [bb, cr_q] using r3) (by simpa [bb, cr_q] using r4)
    have r0 : rs ((1 : Int) : Rat) ≤ 10 := by decide +kernel
    simp only [go_sem, d_law6_big, d_exps_Exp, d_ref2_Neg, d_ref4_Mul, d_ref2_Int, d_ref4_Has, d_law6_known, hbig, hn, hk, decide_false, decide_true, g0, g1, Nat.reduceBEq, Nat.reduceBNe, Nat.reduceLT, Nat.reduceLeDiff, Nat.reduceAdd, Nat.reduceSub, Nat.reduceMul, Nat.reduceEqDiff, Int.reduceNeg, Int.reduceAdd, Int.reduceLT, Int.reduceLE, Int.reduceToNat, ↓reduceIte]
    simp only [bb] at ht m1 m2
    rw [if_neg (by decide), if_pos ht]
    exact ⟨hall, ⟨by omega, hd⟩, by omega, ⟨by omega, hdn⟩, ⟨Nat.max_le.2 ⟨by rw [cr_sz]; omega, by rw [cr_sz]; omega⟩, Nat.max_le.2 ⟨by rw [cr_sz]; omega, by rw [cr_sz]; omega⟩⟩, ⟨Nat.max_le.2 ⟨by rw [cr_sz]; omega, by rw [cr_sz]; omega⟩, by omega⟩, trivial⟩

end Go.Proofs.Ytifnpelkoklcnaa
