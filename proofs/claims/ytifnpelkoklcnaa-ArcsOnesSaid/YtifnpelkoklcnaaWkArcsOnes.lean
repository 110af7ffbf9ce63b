/- The law ArcsOnes. No condition. -/
import Derived.Test.YtifnpelkoklcnaaMg
import Derived.Test.YtifnpelkoklcnaaBj
namespace Go.Proofs.Ytifnpelkoklcnaa
open Go.RowKit
set_option linter.unusedSimpArgs false
set_option linter.unusedVariables false
def d_law8_ArcsOnes : Den := den1 aInt (fun p => True) fun p => boolV true
set_option maxRecDepth 100000 in
set_option maxHeartbeats 4000000 in
theorem s_law8_ArcsOnes : Sound Try.prog 5 d_law8_ArcsOnes := by
  refine sound1 (fz := nofz) (l := [(32, d_law8_known), (33, d_law8_part1), (24, d_ref2_Int), (25, d_arcs_Atan), (17, d_ref4_Of), (26, d_ref4_Mul), (31, d_ref4_Add), (27, d_arcs_Pi), (29, d_ref4_Side), (35, d_ref4_Width), (36, d_ref4_Bit), (34, d_ref2_Cmp)]) TT_ok ⟨s_law8_known, s_law8_part1, s_ref2_Int, s_arcs_Atan, s_ref4_Of, s_ref4_Mul, s_ref4_Add, s_arcs_Pi, s_ref4_Side, s_ref4_Width, s_ref4_Bit, s_ref2_Cmp, trivial⟩ mixed Try.func5 Try.ntmps5 Try.results5 Try.call5 rfl (by omega) (fun _ => rfl) ?_
  intro p hp hp
  rw [codeK_start]
  by_cases g0 : p < 0
  · skip
    simp only [go_sem, d_law8_known, d_law8_part1, d_ref2_Int, d_arcs_Atan, d_ref4_Of, d_ref4_Mul, d_ref4_Add, d_arcs_Pi, d_ref4_Side, d_ref4_Width, d_ref4_Bit, d_ref2_Cmp, g0, decide_false, decide_true, Nat.reduceBEq, Nat.reduceBNe, Nat.reduceLT, Nat.reduceLeDiff, Nat.reduceAdd, Nat.reduceSub, Nat.reduceMul, Nat.reduceEqDiff, Int.reduceNeg, Int.reduceAdd, Int.reduceLT, Int.reduceLE, Int.reduceToNat, ↓reduceIte]
  by_cases g1 : (100 : Int) < p
  · skip
    simp only [go_sem, d_law8_known, d_law8_part1, d_ref2_Int, d_arcs_Atan, d_ref4_Of, d_ref4_Mul, d_ref4_Add, d_arcs_Pi, d_ref4_Side, d_ref4_Width, d_ref4_Bit, d_ref2_Cmp, g0, g1, decide_false, decide_true, Nat.reduceBEq, Nat.reduceBNe, Nat.reduceLT, Nat.reduceLeDiff, Nat.reduceAdd, Nat.reduceSub, Nat.reduceMul, Nat.reduceEqDiff, Int.reduceNeg, Int.reduceAdd, Int.reduceLT, Int.reduceLE, Int.reduceToNat, ↓reduceIte]
  have z1 : rs ((1 : Int) : Rat) ≤ 2 := by decide +kernel
  have z2 : rs (qv false 1 2) ≤ 2 := by decide +kernel
  have z3 : rs (qv false 1 3) ≤ 2 := by decide +kernel
  have z4 : rs ((4 : Int) : Rat) ≤ 2 := by decide +kernel
  obtain ⟨m1, m2, m3⟩ := ones_meet (p := p) (by omega) (by omega)
  obtain ⟨r1, r2⟩ := rs_at (q := ((1 : Int) : Rat)) p (by omega) (by omega)
  obtain ⟨r3, r4⟩ := rs_at (q := qv false 1 2) p (by omega) (by omega)
  obtain ⟨r5, r6⟩ := rs_at (q := qv false 1 3) p (by omega) (by omega)
  obtain ⟨r7, r8⟩ := rs_pi p (by omega)
  have t2 : (2 : Int).toNat = 2 := rfl
  have t3 : (3 : Int).toNat = 3 := rfl
  refine cut_seq fun C hC => ?_
  simp only [go_sem, d_law8_known, d_law8_part1, d_ref2_Int, d_arcs_Atan, d_ref4_Of, d_ref4_Mul, d_ref4_Add, d_arcs_Pi, d_ref4_Side, d_ref4_Width, d_ref4_Bit, d_ref2_Cmp, t2, t3, m1, m2, m3, decide_false, decide_true, g0, g1, Nat.reduceBEq, Nat.reduceBNe, Nat.reduceLT, Nat.reduceLeDiff, Nat.reduceAdd, Nat.reduceSub, Nat.reduceMul, Nat.reduceEqDiff, Int.reduceNeg, Int.reduceAdd, Int.reduceLT, Int.reduceLE, Int.reduceToNat, ↓reduceIte]
  try and_intros
  all_goals try (first | omega | (show okDraw _ _ = true; kernel_rfl) | assumption)
  subst hC
  refine cut_seq fun C hC => ?_
  simp only [go_sem, d_law8_known, d_law8_part1, d_ref2_Int, d_arcs_Atan, d_ref4_Of, d_ref4_Mul, d_ref4_Add, d_arcs_Pi, d_ref4_Side, d_ref4_Width, d_ref4_Bit, d_ref2_Cmp, t2, t3, m1, m2, m3, decide_false, decide_true, g0, g1, Nat.reduceBEq, Nat.reduceBNe, Nat.reduceLT, Nat.reduceLeDiff, Nat.reduceAdd, Nat.reduceSub, Nat.reduceMul, Nat.reduceEqDiff, Int.reduceNeg, Int.reduceAdd, Int.reduceLT, Int.reduceLE, Int.reduceToNat, ↓reduceIte]
  try and_intros
  all_goals try (first | omega | (show okDraw _ _ = true; kernel_rfl) | assumption)
  subst hC
  refine cut_seq fun C hC => ?_
  simp only [go_sem, d_law8_known, d_law8_part1, d_ref2_Int, d_arcs_Atan, d_ref4_Of, d_ref4_Mul, d_ref4_Add, d_arcs_Pi, d_ref4_Side, d_ref4_Width, d_ref4_Bit, d_ref2_Cmp, t2, t3, m1, m2, m3, decide_false, decide_true, g0, g1, Nat.reduceBEq, Nat.reduceBNe, Nat.reduceLT, Nat.reduceLeDiff, Nat.reduceAdd, Nat.reduceSub, Nat.reduceMul, Nat.reduceEqDiff, Int.reduceNeg, Int.reduceAdd, Int.reduceLT, Int.reduceLE, Int.reduceToNat, ↓reduceIte]
  try and_intros
  all_goals try (first | omega | (show okDraw _ _ = true; kernel_rfl) | assumption)
  subst hC
  simp only [go_sem, d_law8_known, d_law8_part1, d_ref2_Int, d_arcs_Atan, d_ref4_Of, d_ref4_Mul, d_ref4_Add, d_arcs_Pi, d_ref4_Side, d_ref4_Width, d_ref4_Bit, d_ref2_Cmp, t2, t3, m1, m2, m3, decide_false, decide_true, g0, g1, Nat.reduceBEq, Nat.reduceBNe, Nat.reduceLT, Nat.reduceLeDiff, Nat.reduceAdd, Nat.reduceSub, Nat.reduceMul, Nat.reduceEqDiff, Int.reduceNeg, Int.reduceAdd, Int.reduceLT, Int.reduceLE, Int.reduceToNat, ↓reduceIte]
  have x1 := rs_mulLo (a := bb (atLo ((1 : Int) : Rat) p) (atHi ((1 : Int) : Rat) p)) (b := bb ((4 : Int) : Rat) ((4 : Int) : Rat)) (K := 30) (by simp only [bb, cr_q]; omega) (by simp only [bb, cr_q]; omega) (by simp only [bb, cr_q]; omega) (by simp only [bb, cr_q]; omega)
  have x2 := rs_mulHi (a := bb (atLo ((1 : Int) : Rat) p) (atHi ((1 : Int) : Rat) p)) (b := bb ((4 : Int) : Rat) ((4 : Int) : Rat)) (K := 30) (by simp only [bb, cr_q]; omega) (by simp only [bb, cr_q]; omega) (by simp only [bb, cr_q]; omega) (by simp only [bb, cr_q]; omega)
  have y1 := rs_add (atLo (qv false 1 2) p) (atLo (qv false 1 3) p)
  have y2 := rs_add (atHi (qv false 1 2) p) (atHi (qv false 1 3) p)
  have z5 : rs (qv false 1 (2 ^ p.toNat)) ≤ 100 := by
    have h1 := pow_bits p.toNat
    have h2 := len_one
    exact rs_qv _ _ _ _ (by omega) (by omega) (by omega)
  simp only [bb] at m1 m2 x1 x2
  rw [if_pos m1, if_pos m2, if_pos Rat.le_refl]
  and_intros
  all_goals first
    | omega
    | (show okDraw _ _ = true; kernel_rfl)
    | exact bb_sz (K := 200) (by omega) (by omega) (by omega)
    | trivial

end Go.Proofs.Ytifnpelkoklcnaa
