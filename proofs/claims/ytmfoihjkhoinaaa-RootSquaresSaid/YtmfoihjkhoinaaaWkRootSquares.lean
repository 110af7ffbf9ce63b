/- The law RootSquares. Condition: rows shorter than 10^14. -/
import Derived.Test.YtmfoihjkhoinaaaBf
namespace Go.Proofs.Ytmfoihjkhoinaaa
open Go.RowKit
set_option linter.unusedSimpArgs false
set_option linter.unusedVariables false
def d_law5_RootSquares : Den := den3 aLim aRat aInt (fun n a p => n.length ≤ 100000000000000 ∧ a.sz ≤ 100000000000000) fun n a p => boolV true
set_option maxRecDepth 100000 in
set_option maxHeartbeats 4000000 in
theorem s_law5_RootSquares : Sound Try.prog 3 d_law5_RootSquares := by
  refine sound3 (fz := nofz) (l := [(37, d_law5_big), (38, d_ref2_Norm), (39, d_root_Int), (40, d_ref1_Add), (41, d_root_Sqrt), (42, d_ref2_Mul), (44, d_ref1_Mul), (43, d_ref1_Cmp), (45, d_ref2_Cmp), (46, d_ref4_Width), (47, d_ref4_Bit), (48, d_law5_known)]) TT_ok ⟨s_law5_big, s_ref2_Norm, s_root_Int, s_ref1_Add, s_root_Sqrt, s_ref2_Mul, s_ref1_Mul, s_ref1_Cmp, s_ref2_Cmp, s_ref4_Width, s_ref4_Bit, s_law5_known, trivial⟩ mixed Try.func3 Try.ntmps3 Try.results3 Try.call3 rfl (by omega) (fun _ _ _ => rfl) ?_
  intro n a p hp hn ha hp
  rw [codeK_start]
  by_cases h0 : (8 : Int) < n.length
  · skip
    simp only [go_sem, d_law5_big, d_ref2_Norm, d_root_Int, d_ref1_Add, d_root_Sqrt, d_ref2_Mul, d_ref1_Mul, d_ref1_Cmp, d_ref2_Cmp, d_ref4_Width, d_ref4_Bit, d_law5_known, h0, decide_true, Nat.reduceBEq, Nat.reduceBNe, Nat.reduceLT, Nat.reduceLeDiff, Nat.reduceAdd, Nat.reduceSub, Nat.reduceMul, Nat.reduceEqDiff, Int.reduceNeg, Int.reduceAdd, Int.reduceLT, Int.reduceLE, Int.reduceToNat, ↓reduceIte]
  have hall : ∀ r ∈ [a], r.sz ≤ 100000000000000 := by
    intro r hr
    simp only [List.mem_cons, List.not_mem_nil, or_false] at hr
    rcases hr with rfl <;> first | exact hp | exact hp.1 | exact hp.2 | exact hp.2.1 | exact hp.2.2 | exact hp.2.2.1
  by_cases hbig : [a].any bigR = true
  · skip
    simp only [go_sem, d_law5_big, d_ref2_Norm, d_root_Int, d_ref1_Add, d_root_Sqrt, d_ref2_Mul, d_ref1_Mul, d_ref1_Cmp, d_ref2_Cmp, d_ref4_Width, d_ref4_Bit, d_law5_known, h0, decide_false, hbig, Nat.reduceBEq, Nat.reduceBNe, Nat.reduceLT, Nat.reduceLeDiff, Nat.reduceAdd, Nat.reduceSub, Nat.reduceMul, Nat.reduceEqDiff, Int.reduceNeg, Int.reduceAdd, Int.reduceLT, Int.reduceLE, Int.reduceToNat, ↓reduceIte]
    exact hall
  rw [Bool.not_eq_true] at hbig
  have sa : a.sz ≤ 3 := not_big (any_false hbig a (by simp))
  have ra : rs a.q ≤ 3 := rs_ok ha sa (by omega)
  by_cases g1 : p < 0
  · skip
    simp only [go_sem, d_law5_big, d_ref2_Norm, d_root_Int, d_ref1_Add, d_root_Sqrt, d_ref2_Mul, d_ref1_Mul, d_ref1_Cmp, d_ref2_Cmp, d_ref4_Width, d_ref4_Bit, d_law5_known, hbig, h0, g1, decide_false, decide_true, Nat.reduceBEq, Nat.reduceBNe, Nat.reduceLT, Nat.reduceLeDiff, Nat.reduceAdd, Nat.reduceSub, Nat.reduceMul, Nat.reduceEqDiff, Int.reduceNeg, Int.reduceAdd, Int.reduceLT, Int.reduceLE, Int.reduceToNat, ↓reduceIte]
    first | exact hall | (and_intros <;> first | exact hall | omega | (show okDraw _ _ = true; kernel_rfl))
  by_cases g2 : (100 : Int) < p
  · skip
    simp only [go_sem, d_law5_big, d_ref2_Norm, d_root_Int, d_ref1_Add, d_root_Sqrt, d_ref2_Mul, d_ref1_Mul, d_ref1_Cmp, d_ref2_Cmp, d_ref4_Width, d_ref4_Bit, d_law5_known, hbig, h0, g1, g2, decide_false, decide_true, Nat.reduceBEq, Nat.reduceBNe, Nat.reduceLT, Nat.reduceLeDiff, Nat.reduceAdd, Nat.reduceSub, Nat.reduceMul, Nat.reduceEqDiff, Int.reduceNeg, Int.reduceAdd, Int.reduceLT, Int.reduceLE, Int.reduceToNat, ↓reduceIte]
    first | exact hall | (and_intros <;> first | exact hall | omega | (show okDraw _ _ = true; kernel_rfl))
  by_cases g3 : (cr a.q).s = true
  · skip
    simp only [go_sem, d_law5_big, d_ref2_Norm, d_root_Int, d_ref1_Add, d_root_Sqrt, d_ref2_Mul, d_ref1_Mul, d_ref1_Cmp, d_ref2_Cmp, d_ref4_Width, d_ref4_Bit, d_law5_known, hbig, h0, g1, g2, g3, decide_false, decide_true, Nat.reduceBEq, Nat.reduceBNe, Nat.reduceLT, Nat.reduceLeDiff, Nat.reduceAdd, Nat.reduceSub, Nat.reduceMul, Nat.reduceEqDiff, Int.reduceNeg, Int.reduceAdd, Int.reduceLT, Int.reduceLE, Int.reduceToNat, ↓reduceIte]
    first | exact hall | (and_intros <;> first | exact hall | omega | (show okDraw _ _ = true; kernel_rfl))
  have sfa : (cr a.q).s = false := by simpa using g3
  have na : ng a.q = false := sfa
  have r1 := rs_sqLo ra (by omega) p
  have r2 := rs_sqHi ra (by omega) p
  have k1 := (rt_spec (val n)).1
  have k2 := (rt_spec (val n)).2
  have k3 := sqLo_sq_le na p
  have k4 := le_sqHi_sq na p
  have k5 := root_width na (p := p) (by omega) (by omega)
  have l1 := limbs_len_val (xs := n) hn
  have l2 := limbs_len_mono (rt_le (val n))
  have l3 := limbs_len_mul (rt (val n)) (rt (val n))
  have l4 := limbs_len_add (rt (val n)) 1
  have l5 : (limbs 1).length = 1 := rfl
  have l6 := limbs_len_mul (rt (val n) + 1) (rt (val n) + 1)
  have z1 : rs (sqLo a.q p * sqLo a.q p) ≤ 74 := rsb_mul r1 r1 (by omega)
  have z2 : rs (sqHi a.q p * sqHi a.q p) ≤ 74 := rsb_mul r2 r2 (by omega)
  have z3 : rs (sqHi a.q p - sqLo a.q p) ≤ 75 := rsb_sub r2 r1 (by omega)
  have z4 : rs (qv false 1 (2 ^ p.toNat)) ≤ 33 := rs_unitP (by omega)
  simp only [go_sem, d_law5_big, d_ref2_Norm, d_root_Int, d_ref1_Add, d_root_Sqrt, d_ref2_Mul, d_ref1_Mul, d_ref1_Cmp, d_ref2_Cmp, d_ref4_Width, d_ref4_Bit, d_law5_known, hbig, h0, sfa, na, decide_false, decide_true, g1, g2, k1, k2, k3, k4, k5, Nat.reduceBEq, Nat.reduceBNe, Nat.reduceLT, Nat.reduceLeDiff, Nat.reduceAdd, Nat.reduceSub, Nat.reduceMul, Nat.reduceEqDiff, Int.reduceNeg, Int.reduceAdd, Int.reduceLT, Int.reduceLE, Int.reduceToNat, ↓reduceIte]
  and_intros
  all_goals first
    | exact hall
    | exact Nat.max_le.2 ⟨by rw [cr_sz]; omega, by rw [cr_sz]; omega⟩
    | exact hall
    | assumption
    | omega
    | (show okDraw _ _ = true; kernel_rfl)

end Go.Proofs.Ytmfoihjkhoinaaa
