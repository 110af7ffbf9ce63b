/- The law LogsPowers. No condition. -/
import Derived.Test.YtifnpelkoklcnaaMe
import Derived.Test.YtifnpelkoklcnaaBd
import Derived.Test.YtifnpelkoklcnaaBj
namespace Go.Proofs.Ytifnpelkoklcnaa
open Go.RowKit
set_option linter.unusedSimpArgs false
set_option linter.unusedVariables false
def d_law7_LogsPowers : Den := den2 aInt aInt (fun n p => True) fun n p => boolV true
set_option maxRecDepth 100000 in
set_option maxHeartbeats 4000000 in
theorem s_law7_LogsPowers : Sound Try.prog 8 d_law7_LogsPowers := by
  refine sound2 (fz := nofz) (l := [(42, d_law7_known), (24, d_ref2_Int), (43, d_logs_Ln), (44, d_logs_Two), (17, d_ref4_Of), (26, d_ref4_Mul), (23, d_ref2_Div), (29, d_ref4_Side), (30, d_ref4_Neg)]) TT_ok ⟨s_law7_known, s_ref2_Int, s_logs_Ln, s_logs_Two, s_ref4_Of, s_ref4_Mul, s_ref2_Div, s_ref4_Side, s_ref4_Neg, trivial⟩ mixed Try.func8 Try.ntmps8 Try.results8 Try.call8 rfl (by omega) (fun _ _ => rfl) ?_
  intro n p hp hn hp
  rw [codeK_start]
  by_cases g0 : n < 1
  · skip
    simp only [go_sem, d_law7_known, d_ref2_Int, d_logs_Ln, d_logs_Two, d_ref4_Of, d_ref4_Mul, d_ref2_Div, d_ref4_Side, d_ref4_Neg, g0, decide_false, decide_true, Nat.reduceBEq, Nat.reduceBNe, Nat.reduceLT, Nat.reduceLeDiff, Nat.reduceAdd, Nat.reduceSub, Nat.reduceMul, Nat.reduceEqDiff, Int.reduceNeg, Int.reduceAdd, Int.reduceLT, Int.reduceLE, Int.reduceToNat, ↓reduceIte]
  by_cases g1 : (60 : Int) < n
  · skip
    simp only [go_sem, d_law7_known, d_ref2_Int, d_logs_Ln, d_logs_Two, d_ref4_Of, d_ref4_Mul, d_ref2_Div, d_ref4_Side, d_ref4_Neg, g0, g1, decide_false, decide_true, Nat.reduceBEq, Nat.reduceBNe, Nat.reduceLT, Nat.reduceLeDiff, Nat.reduceAdd, Nat.reduceSub, Nat.reduceMul, Nat.reduceEqDiff, Int.reduceNeg, Int.reduceAdd, Int.reduceLT, Int.reduceLE, Int.reduceToNat, ↓reduceIte]
  by_cases g2 : p < 0
  · skip
    simp only [go_sem, d_law7_known, d_ref2_Int, d_logs_Ln, d_logs_Two, d_ref4_Of, d_ref4_Mul, d_ref2_Div, d_ref4_Side, d_ref4_Neg, g0, g1, g2, decide_false, decide_true, Nat.reduceBEq, Nat.reduceBNe, Nat.reduceLT, Nat.reduceLeDiff, Nat.reduceAdd, Nat.reduceSub, Nat.reduceMul, Nat.reduceEqDiff, Int.reduceNeg, Int.reduceAdd, Int.reduceLT, Int.reduceLE, Int.reduceToNat, ↓reduceIte]
  by_cases g3 : (100 : Int) < p
  · skip
    simp only [go_sem, d_law7_known, d_ref2_Int, d_logs_Ln, d_logs_Two, d_ref4_Of, d_ref4_Mul, d_ref2_Div, d_ref4_Side, d_ref4_Neg, g0, g1, g2, g3, decide_false, decide_true, Nat.reduceBEq, Nat.reduceBNe, Nat.reduceLT, Nat.reduceLeDiff, Nat.reduceAdd, Nat.reduceSub, Nat.reduceMul, Nat.reduceEqDiff, Int.reduceNeg, Int.reduceAdd, Int.reduceLT, Int.reduceLE, Int.reduceToNat, ↓reduceIte]
  obtain ⟨N, rfl⟩ : ∃ N : Nat, n = (N : Int) := ⟨n.toNat, by omega⟩
  have hN1 : 1 ≤ N := by omega
  have hN2 : N ≤ 60 := by omega
  obtain ⟨m1, m2, m3⟩ := pow2_meet (p := p) hN1 hN2 (by omega)
  obtain ⟨k1, k2, k3, k4⟩ := pow2_ok hN1 hN2
  obtain ⟨r1, r2⟩ := rs_ln (q := pow2Q N) p (by omega)
  obtain ⟨r3, r4⟩ := rs_ln (q := 2) p (by omega)
  obtain ⟨r5, r6⟩ := rs_ln (q := 1 / pow2Q N) p (by omega)
  have hpw : 2 ^ N ≤ 1152921504606846976 := by
    have h1 : 2 ^ N ≤ 2 ^ 60 := Nat.pow_le_pow_right (by omega) hN2
    rwa [show (2 : Nat) ^ 60 = 1152921504606846976 by decide] at h1
  have hwr : IntKind.u64.wrap (N : Int) = (N : Int) := by show (N : Int) % 18446744073709551616 = N; omega
  have hsh : shiftII BinOp.shl IntKind.i64 1 (N : Int) = (True, .int .i64 ((2 ^ N : Nat) : Int)) := by
    unfold shiftII
    have e1 : min ((N : Int)).toNat IntKind.i64.bits = N := by show min N 64 = N; omega
    have e2 : IntKind.i64.wrap (1 * 2 ^ N) = ((2 ^ N : Nat) : Int) := by
      have e3 : (1 : Int) * 2 ^ N = ((2 ^ N : Nat) : Int) := by rw [Int.one_mul, Int.natCast_pow]; rfl
      rw [e3]
      generalize 2 ^ N = M at hpw
      rw [IntKind.wrap_i64]; omega
    simp only [e1, e2]
    rw [eq_true (show (0 : Int) ≤ (N : Int) by omega)]
  have hq : (((2 ^ N : Nat) : Int) : Rat) = pow2Q N := rfl
  have hq1 : ((1 : Int) : Rat) / pow2Q N = 1 / pow2Q N := rfl
  have hqN : (((N : Nat) : Int) : Rat) = ((N : Nat) : Rat) := rfl
  have hne : decide (¬ pow2Q N = 0) = true := decide_eq_true (by grind)
  refine cut_seq fun C hC => ?_
  simp only [go_sem, d_law7_known, d_ref2_Int, d_logs_Ln, d_logs_Two, d_ref4_Of, d_ref4_Mul, d_ref2_Div, d_ref4_Side, d_ref4_Neg, hwr, hsh, hq, hq1, hqN, hne, m1, m2, m3, k1, k3, decide_false, decide_true, g0, g1, g2, g3, Nat.reduceBEq, Nat.reduceBNe, Nat.reduceLT, Nat.reduceLeDiff, Nat.reduceAdd, Nat.reduceSub, Nat.reduceMul, Nat.reduceEqDiff, Int.reduceNeg, Int.reduceAdd, Int.reduceLT, Int.reduceLE, Int.reduceToNat, ↓reduceIte]
  try and_intros
  all_goals try (first | omega | (show okDraw _ _ = true; kernel_rfl) | assumption)
  subst hC
  refine cut_seq fun C hC => ?_
  simp only [go_sem, d_law7_known, d_ref2_Int, d_logs_Ln, d_logs_Two, d_ref4_Of, d_ref4_Mul, d_ref2_Div, d_ref4_Side, d_ref4_Neg, hwr, hsh, hq, hq1, hqN, hne, m1, m2, m3, k1, k3, decide_false, decide_true, g0, g1, g2, g3, Nat.reduceBEq, Nat.reduceBNe, Nat.reduceLT, Nat.reduceLeDiff, Nat.reduceAdd, Nat.reduceSub, Nat.reduceMul, Nat.reduceEqDiff, Int.reduceNeg, Int.reduceAdd, Int.reduceLT, Int.reduceLE, Int.reduceToNat, ↓reduceIte]
  try and_intros
  all_goals try (first | omega | (show okDraw _ _ = true; kernel_rfl) | assumption)
  subst hC
  simp only [go_sem, d_law7_known, d_ref2_Int, d_logs_Ln, d_logs_Two, d_ref4_Of, d_ref4_Mul, d_ref2_Div, d_ref4_Side, d_ref4_Neg, hwr, hsh, hq, hq1, hqN, hne, m1, m2, m3, k1, k3, decide_false, decide_true, g0, g1, g2, g3, Nat.reduceBEq, Nat.reduceBNe, Nat.reduceLT, Nat.reduceLeDiff, Nat.reduceAdd, Nat.reduceSub, Nat.reduceMul, Nat.reduceEqDiff, Int.reduceNeg, Int.reduceAdd, Int.reduceLT, Int.reduceLE, Int.reduceToNat, ↓reduceIte]
  have z1 := rs_lnOk k1
  have z2 := rs_lnOk k3
  have z3 : rs ((N : Nat) : Rat) ≤ 2 := rsb_int (n := (N : Int)) (by omega) (by omega) (by omega)
  have M0 : (-9223372036854775808 : Int) ≤ ((2 ^ N : Nat) : Int) := by generalize 2 ^ N = M; omega
  have M1 : ((2 ^ N : Nat) : Int) < 9223372036854775808 := by generalize 2 ^ N = M at hpw; omega
  have z4 : rs ((1 : Int) : Rat) ≤ 2 := by decide +kernel
  have x1 := rs_mulLo (a := bb (lnLo 2 p) (lnHi 2 p)) (b := bb ((N : Nat) : Rat) ((N : Nat) : Rat)) (K := 30) (by simpa [bb, cr_q] using r3) (by simpa [bb, cr_q] using r4) (by simp only [bb, cr_q]; omega) (by simp only [bb, cr_q]; omega)
  have x2 := rs_mulHi (a := bb (lnLo 2 p) (lnHi 2 p)) (b := bb ((N : Nat) : Rat) ((N : Nat) : Rat)) (K := 30) (by simpa [bb, cr_q] using r3) (by simpa [bb, cr_q] using r4) (by simp only [bb, cr_q]; omega) (by simp only [bb, cr_q]; omega)
  have y1 := rs_neg (lnHi (pow2Q N) p)
  have y2 := rs_neg (lnLo (pow2Q N) p)
  have hs := side_self (Rat.neg_le_neg (ln_le (pow2Q N) p))
  simp only [bb] at m1 x1 x2
  rw [if_pos m1, if_pos hs]
  and_intros
  all_goals first
    | with_reducible exact M0
    | with_reducible exact M1
    | omega
    | (show okDraw _ _ = true; kernel_rfl)
    | exact bb_sz (K := 80) (by omega) (by omega) (by omega)
    | trivial

end Go.Proofs.Ytifnpelkoklcnaa
