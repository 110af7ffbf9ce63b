/- The law LogsAdds. Condition: rows shorter than 10^14. -/
import Derived.Test.YtjfaefgabaimaaaGreatNj
import Derived.Test.YtjfaefgabaimaaaGreatBj
namespace Go.Proofs.YtjfaefgabaimaaaGreat
open Go.RowKit
set_option linter.unusedSimpArgs false
set_option linter.unusedVariables false
def d_law7_LogsAdds : Den := den3 aRat aRat aInt (fun x y p => x.sz ≤ 100000000000000 ∧ y.sz ≤ 100000000000000) fun x y p => boolV true
set_option maxRecDepth 100000 in
set_option maxHeartbeats 8000000 in
theorem s_law7_LogsAdds : Sound Tryz.prog 5 d_law7_LogsAdds := by
  refine sound3 (fz := nofz) (l := [(15, d_logs_Ln), (16, d_ref7_Ln), (17, d_law7_known), (18, d_ref2_Mul), (19, d_ref2_Div), (20, d_ref4_Add), (11, d_ref4_Side), (21, d_ref4_Sub)]) TT_ok ⟨s_logs_Ln, s_ref7_Ln, s_law7_known, s_ref2_Mul, s_ref2_Div, s_ref4_Add, s_ref4_Side, s_ref4_Sub, trivial⟩ mixed Tryz.func5 Tryz.ntmps5 Tryz.results5 Tryz.call5 rfl (by omega) (fun _ _ _ => rfl) ?_
  intro x y p hp hx hy hip
  rw [codeK_start]
  have lx := RR.lens hp.1
  have ly := RR.lens hp.2
  by_cases g0 : (2 : Int) < ((x.n.length : Nat) : Int)
  · have k0 : ((2 : Int) < ((x.n.length : Nat) : Int)) = True := eq_true g0
    simp only [go_sem, d_logs_Ln, d_ref7_Ln, d_law7_known, d_ref2_Mul, d_ref2_Div, d_ref4_Add, d_ref4_Side, d_ref4_Sub, decide_true, decide_false, Bool.not_true, Bool.not_false, beq_self_eq_true, eq_self, k0, Nat.reduceBEq, Nat.reduceBNe, Nat.reduceLT, Nat.reduceLeDiff, Nat.reduceAdd, Nat.reduceSub, Nat.reduceMul, Nat.reduceEqDiff, Int.reduceNeg, Int.reduceAdd, Int.reduceLT, Int.reduceLE, Int.reduceToNat, ↓reduceIte]
    all_goals ((try and_intros) <;> first | exact trivial | omega | (show okDraw _ _ = true; kernel_rfl) | assumption)
  have k0 : ((2 : Int) < ((x.n.length : Nat) : Int)) = False := eq_false g0
  by_cases g1 : (2 : Int) < ((y.n.length : Nat) : Int)
  · have k1 : ((2 : Int) < ((y.n.length : Nat) : Int)) = True := eq_true g1
    simp only [go_sem, d_logs_Ln, d_ref7_Ln, d_law7_known, d_ref2_Mul, d_ref2_Div, d_ref4_Add, d_ref4_Side, d_ref4_Sub, decide_true, decide_false, Bool.not_true, Bool.not_false, beq_self_eq_true, eq_self, k0, k1, Nat.reduceBEq, Nat.reduceBNe, Nat.reduceLT, Nat.reduceLeDiff, Nat.reduceAdd, Nat.reduceSub, Nat.reduceMul, Nat.reduceEqDiff, Int.reduceNeg, Int.reduceAdd, Int.reduceLT, Int.reduceLE, Int.reduceToNat, ↓reduceIte]
    all_goals ((try and_intros) <;> first | exact trivial | omega | (show okDraw _ _ = true; kernel_rfl) | assumption)
  have k1 : ((2 : Int) < ((y.n.length : Nat) : Int)) = False := eq_false g1
  by_cases g2 : (2 : Int) < ((x.d.length : Nat) : Int)
  · have k2 : ((2 : Int) < ((x.d.length : Nat) : Int)) = True := eq_true g2
    simp only [go_sem, d_logs_Ln, d_ref7_Ln, d_law7_known, d_ref2_Mul, d_ref2_Div, d_ref4_Add, d_ref4_Side, d_ref4_Sub, decide_true, decide_false, Bool.not_true, Bool.not_false, beq_self_eq_true, eq_self, k0, k1, k2, Nat.reduceBEq, Nat.reduceBNe, Nat.reduceLT, Nat.reduceLeDiff, Nat.reduceAdd, Nat.reduceSub, Nat.reduceMul, Nat.reduceEqDiff, Int.reduceNeg, Int.reduceAdd, Int.reduceLT, Int.reduceLE, Int.reduceToNat, ↓reduceIte]
    all_goals ((try and_intros) <;> first | exact trivial | omega | (show okDraw _ _ = true; kernel_rfl) | assumption)
  have k2 : ((2 : Int) < ((x.d.length : Nat) : Int)) = False := eq_false g2
  by_cases g3 : (2 : Int) < ((y.d.length : Nat) : Int)
  · have k3 : ((2 : Int) < ((y.d.length : Nat) : Int)) = True := eq_true g3
    simp only [go_sem, d_logs_Ln, d_ref7_Ln, d_law7_known, d_ref2_Mul, d_ref2_Div, d_ref4_Add, d_ref4_Side, d_ref4_Sub, decide_true, decide_false, Bool.not_true, Bool.not_false, beq_self_eq_true, eq_self, k0, k1, k2, k3, Nat.reduceBEq, Nat.reduceBNe, Nat.reduceLT, Nat.reduceLeDiff, Nat.reduceAdd, Nat.reduceSub, Nat.reduceMul, Nat.reduceEqDiff, Int.reduceNeg, Int.reduceAdd, Int.reduceLT, Int.reduceLE, Int.reduceToNat, ↓reduceIte]
    all_goals ((try and_intros) <;> first | exact trivial | omega | (show okDraw _ _ = true; kernel_rfl) | assumption)
  have k3 : ((2 : Int) < ((y.d.length : Nat) : Int)) = False := eq_false g3
  by_cases g4 : p < 0
  · have k4 : (p < 0) = True := eq_true g4
    simp only [go_sem, d_logs_Ln, d_ref7_Ln, d_law7_known, d_ref2_Mul, d_ref2_Div, d_ref4_Add, d_ref4_Side, d_ref4_Sub, decide_true, decide_false, Bool.not_true, Bool.not_false, beq_self_eq_true, eq_self, k0, k1, k2, k3, k4, Nat.reduceBEq, Nat.reduceBNe, Nat.reduceLT, Nat.reduceLeDiff, Nat.reduceAdd, Nat.reduceSub, Nat.reduceMul, Nat.reduceEqDiff, Int.reduceNeg, Int.reduceAdd, Int.reduceLT, Int.reduceLE, Int.reduceToNat, ↓reduceIte]
    all_goals ((try and_intros) <;> first | exact trivial | omega | (show okDraw _ _ = true; kernel_rfl) | assumption)
  have k4 : (p < 0) = False := eq_false g4
  by_cases g5 : (60 : Int) < p
  · have k5 : ((60 : Int) < p) = True := eq_true g5
    simp only [go_sem, d_logs_Ln, d_ref7_Ln, d_law7_known, d_ref2_Mul, d_ref2_Div, d_ref4_Add, d_ref4_Side, d_ref4_Sub, decide_true, decide_false, Bool.not_true, Bool.not_false, beq_self_eq_true, eq_self, k0, k1, k2, k3, k4, k5, Nat.reduceBEq, Nat.reduceBNe, Nat.reduceLT, Nat.reduceLeDiff, Nat.reduceAdd, Nat.reduceSub, Nat.reduceMul, Nat.reduceEqDiff, Int.reduceNeg, Int.reduceAdd, Int.reduceLT, Int.reduceLE, Int.reduceToNat, ↓reduceIte]
    all_goals ((try and_intros) <;> first | exact trivial | omega | (show okDraw _ _ = true; kernel_rfl) | assumption)
  have k5 : ((60 : Int) < p) = False := eq_false g5
  have zx : x.sz ≤ 2 := RR.sz_le (by omega) (by omega)
  have zy : y.sz ≤ 2 := RR.sz_le (by omega) (by omega)
  have rx : rs x.q ≤ 2 := rs_ok hx zx (by omega)
  have ry : rs y.q ≤ 2 := rs_ok hy zy (by omega)
  obtain ⟨r1, r2⟩ := rs_ln (q := x.q) p (by omega)
  obtain ⟨r3, r4⟩ := rs_ln (q := y.q) p (by omega)
  obtain ⟨r5, r6⟩ := rs_ln (q := x.q * y.q) p (by omega)
  obtain ⟨r7, r8⟩ := rs_ln (q := x.q / y.q) p (by omega)
  have rm : rs (x.q * y.q) ≤ 4 := rsb_mul rx ry (by omega)
  have rd : rs (x.q / y.q) ≤ 4 := rsb_div rx ry (by omega)
  have zm : (cr (x.q * y.q)).sz ≤ 4 := by rw [cr_sz]; exact rm
  have zd : (cr (x.q / y.q)).sz ≤ 4 := by rw [cr_sz]; exact rd
  have m1 : rs (lnLo x.q p + lnLo y.q p) ≤ 61 := rsb_add r1 r3 (by omega)
  have m2 : rs (lnHi x.q p + lnHi y.q p) ≤ 61 := rsb_add r2 r4 (by omega)
  have m3 : rs (lnLo x.q p - lnHi y.q p) ≤ 61 := rsb_sub r1 r4 (by omega)
  have m4 : rs (lnHi x.q p - lnLo y.q p) ≤ 61 := rsb_sub r2 r3 (by omega)
  have za : (bb (lnLo x.q p) (lnHi x.q p)).sz ≤ 100 := bb_sz (K := 61) (by omega) (by omega) (by omega)
  have zb : (bb (lnLo y.q p) (lnHi y.q p)).sz ≤ 100 := bb_sz (K := 61) (by omega) (by omega) (by omega)
  have zc : (bb (lnLo (x.q * y.q) p) (lnHi (x.q * y.q) p)).sz ≤ 100 := bb_sz (K := 61) (by omega) (by omega) (by omega)
  have zd2 : (bb (lnLo (x.q / y.q) p) (lnHi (x.q / y.q) p)).sz ≤ 100 := bb_sz (K := 61) (by omega) (by omega) (by omega)
  have ze : (bb (lnLo x.q p + lnLo y.q p) (lnHi x.q p + lnHi y.q p)).sz ≤ 100 := bb_sz (K := 61) (by omega) (by omega) (by omega)
  have zf : (bb (lnLo x.q p - lnHi y.q p) (lnHi x.q p - lnLo y.q p)).sz ≤ 100 := bb_sz (K := 61) (by omega) (by omega) (by omega)
  cases hx1 : lnOk x.q with
  | false =>
    refine cut_seq fun C hC => ?_
    simp only [go_sem, d_logs_Ln, d_ref7_Ln, d_law7_known, d_ref2_Mul, d_ref2_Div, d_ref4_Add, d_ref4_Side, d_ref4_Sub, decide_true, decide_false, Bool.not_true, Bool.not_false, beq_self_eq_true, eq_self, k0, k1, k2, k3, k4, k5, hx1, Nat.reduceBEq, Nat.reduceBNe, Nat.reduceLT, Nat.reduceLeDiff, Nat.reduceAdd, Nat.reduceSub, Nat.reduceMul, Nat.reduceEqDiff, Int.reduceNeg, Int.reduceAdd, Int.reduceLT, Int.reduceLE, Int.reduceToNat, ↓reduceIte]
    try and_intros
    all_goals try (first | omega | (show okDraw _ _ = true; kernel_rfl) | exact Nat.le_trans za (by omega) | exact Nat.le_trans zb (by omega) | exact Nat.le_trans zc (by omega) | exact Nat.le_trans zd2 (by omega) | exact Nat.le_trans ze (by omega) | exact Nat.le_trans zf (by omega) | assumption)
    subst hC
    refine cut_seq fun C hC => ?_
    simp only [go_sem, d_logs_Ln, d_ref7_Ln, d_law7_known, d_ref2_Mul, d_ref2_Div, d_ref4_Add, d_ref4_Side, d_ref4_Sub, decide_true, decide_false, Bool.not_true, Bool.not_false, beq_self_eq_true, eq_self, k0, k1, k2, k3, k4, k5, hx1, Nat.reduceBEq, Nat.reduceBNe, Nat.reduceLT, Nat.reduceLeDiff, Nat.reduceAdd, Nat.reduceSub, Nat.reduceMul, Nat.reduceEqDiff, Int.reduceNeg, Int.reduceAdd, Int.reduceLT, Int.reduceLE, Int.reduceToNat, ↓reduceIte]
    try and_intros
    all_goals try (first | omega | (show okDraw _ _ = true; kernel_rfl) | exact Nat.le_trans za (by omega) | exact Nat.le_trans zb (by omega) | exact Nat.le_trans zc (by omega) | exact Nat.le_trans zd2 (by omega) | exact Nat.le_trans ze (by omega) | exact Nat.le_trans zf (by omega) | assumption)
    subst hC
    refine cut_seq fun C hC => ?_
    simp only [go_sem, d_logs_Ln, d_ref7_Ln, d_law7_known, d_ref2_Mul, d_ref2_Div, d_ref4_Add, d_ref4_Side, d_ref4_Sub, decide_true, decide_false, Bool.not_true, Bool.not_false, beq_self_eq_true, eq_self, k0, k1, k2, k3, k4, k5, hx1, Nat.reduceBEq, Nat.reduceBNe, Nat.reduceLT, Nat.reduceLeDiff, Nat.reduceAdd, Nat.reduceSub, Nat.reduceMul, Nat.reduceEqDiff, Int.reduceNeg, Int.reduceAdd, Int.reduceLT, Int.reduceLE, Int.reduceToNat, ↓reduceIte]
    try and_intros
    all_goals try (first | omega | (show okDraw _ _ = true; kernel_rfl) | exact Nat.le_trans za (by omega) | exact Nat.le_trans zb (by omega) | exact Nat.le_trans zc (by omega) | exact Nat.le_trans zd2 (by omega) | exact Nat.le_trans ze (by omega) | exact Nat.le_trans zf (by omega) | assumption)
    subst hC
    refine cut_seq fun C hC => ?_
    simp only [go_sem, d_logs_Ln, d_ref7_Ln, d_law7_known, d_ref2_Mul, d_ref2_Div, d_ref4_Add, d_ref4_Side, d_ref4_Sub, decide_true, decide_false, Bool.not_true, Bool.not_false, beq_self_eq_true, eq_self, k0, k1, k2, k3, k4, k5, hx1, Nat.reduceBEq, Nat.reduceBNe, Nat.reduceLT, Nat.reduceLeDiff, Nat.reduceAdd, Nat.reduceSub, Nat.reduceMul, Nat.reduceEqDiff, Int.reduceNeg, Int.reduceAdd, Int.reduceLT, Int.reduceLE, Int.reduceToNat, ↓reduceIte]
    try and_intros
    all_goals try (first | omega | (show okDraw _ _ = true; kernel_rfl) | exact Nat.le_trans za (by omega) | exact Nat.le_trans zb (by omega) | exact Nat.le_trans zc (by omega) | exact Nat.le_trans zd2 (by omega) | exact Nat.le_trans ze (by omega) | exact Nat.le_trans zf (by omega) | assumption)
    subst hC
    simp only [go_sem, d_logs_Ln, d_ref7_Ln, d_law7_known, d_ref2_Mul, d_ref2_Div, d_ref4_Add, d_ref4_Side, d_ref4_Sub, decide_true, decide_false, Bool.not_true, Bool.not_false, beq_self_eq_true, eq_self, k0, k1, k2, k3, k4, k5, hx1, Nat.reduceBEq, Nat.reduceBNe, Nat.reduceLT, Nat.reduceLeDiff, Nat.reduceAdd, Nat.reduceSub, Nat.reduceMul, Nat.reduceEqDiff, Int.reduceNeg, Int.reduceAdd, Int.reduceLT, Int.reduceLE, Int.reduceToNat, ↓reduceIte]
    all_goals ((try and_intros) <;> first | exact trivial | omega | exact Nat.le_trans za (by omega) | exact Nat.le_trans zb (by omega) | exact Nat.le_trans zc (by omega) | exact Nat.le_trans zd2 (by omega) | exact Nat.le_trans ze (by omega) | exact Nat.le_trans zf (by omega) | (show okDraw _ _ = true; kernel_rfl) | assumption)
  | true =>
    cases hy1 : lnOk y.q with
    | false =>
      refine cut_seq fun C hC => ?_
      simp only [go_sem, d_logs_Ln, d_ref7_Ln, d_law7_known, d_ref2_Mul, d_ref2_Div, d_ref4_Add, d_ref4_Side, d_ref4_Sub, decide_true, decide_false, Bool.not_true, Bool.not_false, beq_self_eq_true, eq_self, k0, k1, k2, k3, k4, k5, hx1, hy1, Nat.reduceBEq, Nat.reduceBNe, Nat.reduceLT, Nat.reduceLeDiff, Nat.reduceAdd, Nat.reduceSub, Nat.reduceMul, Nat.reduceEqDiff, Int.reduceNeg, Int.reduceAdd, Int.reduceLT, Int.reduceLE, Int.reduceToNat, ↓reduceIte]
      try and_intros
      all_goals try (first | omega | (show okDraw _ _ = true; kernel_rfl) | exact Nat.le_trans za (by omega) | exact Nat.le_trans zb (by omega) | exact Nat.le_trans zc (by omega) | exact Nat.le_trans zd2 (by omega) | exact Nat.le_trans ze (by omega) | exact Nat.le_trans zf (by omega) | assumption)
      subst hC
      refine cut_seq fun C hC => ?_
      simp only [go_sem, d_logs_Ln, d_ref7_Ln, d_law7_known, d_ref2_Mul, d_ref2_Div, d_ref4_Add, d_ref4_Side, d_ref4_Sub, decide_true, decide_false, Bool.not_true, Bool.not_false, beq_self_eq_true, eq_self, k0, k1, k2, k3, k4, k5, hx1, hy1, Nat.reduceBEq, Nat.reduceBNe, Nat.reduceLT, Nat.reduceLeDiff, Nat.reduceAdd, Nat.reduceSub, Nat.reduceMul, Nat.reduceEqDiff, Int.reduceNeg, Int.reduceAdd, Int.reduceLT, Int.reduceLE, Int.reduceToNat, ↓reduceIte]
      try and_intros
      all_goals try (first | omega | (show okDraw _ _ = true; kernel_rfl) | exact Nat.le_trans za (by omega) | exact Nat.le_trans zb (by omega) | exact Nat.le_trans zc (by omega) | exact Nat.le_trans zd2 (by omega) | exact Nat.le_trans ze (by omega) | exact Nat.le_trans zf (by omega) | assumption)
      subst hC
      refine cut_seq fun C hC => ?_
      simp only [go_sem, d_logs_Ln, d_ref7_Ln, d_law7_known, d_ref2_Mul, d_ref2_Div, d_ref4_Add, d_ref4_Side, d_ref4_Sub, decide_true, decide_false, Bool.not_true, Bool.not_false, beq_self_eq_true, eq_self, k0, k1, k2, k3, k4, k5, hx1, hy1, Nat.reduceBEq, Nat.reduceBNe, Nat.reduceLT, Nat.reduceLeDiff, Nat.reduceAdd, Nat.reduceSub, Nat.reduceMul, Nat.reduceEqDiff, Int.reduceNeg, Int.reduceAdd, Int.reduceLT, Int.reduceLE, Int.reduceToNat, ↓reduceIte]
      try and_intros
      all_goals try (first | omega | (show okDraw _ _ = true; kernel_rfl) | exact Nat.le_trans za (by omega) | exact Nat.le_trans zb (by omega) | exact Nat.le_trans zc (by omega) | exact Nat.le_trans zd2 (by omega) | exact Nat.le_trans ze (by omega) | exact Nat.le_trans zf (by omega) | assumption)
      subst hC
      refine cut_seq fun C hC => ?_
      simp only [go_sem, d_logs_Ln, d_ref7_Ln, d_law7_known, d_ref2_Mul, d_ref2_Div, d_ref4_Add, d_ref4_Side, d_ref4_Sub, decide_true, decide_false, Bool.not_true, Bool.not_false, beq_self_eq_true, eq_self, k0, k1, k2, k3, k4, k5, hx1, hy1, Nat.reduceBEq, Nat.reduceBNe, Nat.reduceLT, Nat.reduceLeDiff, Nat.reduceAdd, Nat.reduceSub, Nat.reduceMul, Nat.reduceEqDiff, Int.reduceNeg, Int.reduceAdd, Int.reduceLT, Int.reduceLE, Int.reduceToNat, ↓reduceIte]
      try and_intros
      all_goals try (first | omega | (show okDraw _ _ = true; kernel_rfl) | exact Nat.le_trans za (by omega) | exact Nat.le_trans zb (by omega) | exact Nat.le_trans zc (by omega) | exact Nat.le_trans zd2 (by omega) | exact Nat.le_trans ze (by omega) | exact Nat.le_trans zf (by omega) | assumption)
      subst hC
      simp only [go_sem, d_logs_Ln, d_ref7_Ln, d_law7_known, d_ref2_Mul, d_ref2_Div, d_ref4_Add, d_ref4_Side, d_ref4_Sub, decide_true, decide_false, Bool.not_true, Bool.not_false, beq_self_eq_true, eq_self, k0, k1, k2, k3, k4, k5, hx1, hy1, Nat.reduceBEq, Nat.reduceBNe, Nat.reduceLT, Nat.reduceLeDiff, Nat.reduceAdd, Nat.reduceSub, Nat.reduceMul, Nat.reduceEqDiff, Int.reduceNeg, Int.reduceAdd, Int.reduceLT, Int.reduceLE, Int.reduceToNat, ↓reduceIte]
      all_goals ((try and_intros) <;> first | exact trivial | omega | exact Nat.le_trans za (by omega) | exact Nat.le_trans zb (by omega) | exact Nat.le_trans zc (by omega) | exact Nat.le_trans zd2 (by omega) | exact Nat.le_trans ze (by omega) | exact Nat.le_trans zf (by omega) | (show okDraw _ _ = true; kernel_rfl) | assumption)
    | true =>
      have l1 := lnOk_mul hx1 hy1 rx ry
      have l2 := lnOk_div hx1 hy1 rx ry
      have s1 := ln_add (p := p) hx1 hy1 l1 (by omega)
      have s2 := ln_sub (p := p) hx1 hy1 l2 (by omega)
      simp only [bb] at s1 s2
      refine cut_seq fun C hC => ?_
      simp only [go_sem, d_logs_Ln, d_ref7_Ln, d_law7_known, d_ref2_Mul, d_ref2_Div, d_ref4_Add, d_ref4_Side, d_ref4_Sub, decide_true, decide_false, Bool.not_true, Bool.not_false, beq_self_eq_true, eq_self, k0, k1, k2, k3, k4, k5, hx1, hy1, l1, l2, s1, s2, Nat.reduceBEq, Nat.reduceBNe, Nat.reduceLT, Nat.reduceLeDiff, Nat.reduceAdd, Nat.reduceSub, Nat.reduceMul, Nat.reduceEqDiff, Int.reduceNeg, Int.reduceAdd, Int.reduceLT, Int.reduceLE, Int.reduceToNat, ↓reduceIte]
      try and_intros
      all_goals try (first | omega | (show okDraw _ _ = true; kernel_rfl) | exact Nat.le_trans za (by omega) | exact Nat.le_trans zb (by omega) | exact Nat.le_trans zc (by omega) | exact Nat.le_trans zd2 (by omega) | exact Nat.le_trans ze (by omega) | exact Nat.le_trans zf (by omega) | assumption)
      subst hC
      refine cut_seq fun C hC => ?_
      simp only [go_sem, d_logs_Ln, d_ref7_Ln, d_law7_known, d_ref2_Mul, d_ref2_Div, d_ref4_Add, d_ref4_Side, d_ref4_Sub, decide_true, decide_false, Bool.not_true, Bool.not_false, beq_self_eq_true, eq_self, k0, k1, k2, k3, k4, k5, hx1, hy1, l1, l2, s1, s2, Nat.reduceBEq, Nat.reduceBNe, Nat.reduceLT, Nat.reduceLeDiff, Nat.reduceAdd, Nat.reduceSub, Nat.reduceMul, Nat.reduceEqDiff, Int.reduceNeg, Int.reduceAdd, Int.reduceLT, Int.reduceLE, Int.reduceToNat, ↓reduceIte]
      try and_intros
      all_goals try (first | omega | (show okDraw _ _ = true; kernel_rfl) | exact Nat.le_trans za (by omega) | exact Nat.le_trans zb (by omega) | exact Nat.le_trans zc (by omega) | exact Nat.le_trans zd2 (by omega) | exact Nat.le_trans ze (by omega) | exact Nat.le_trans zf (by omega) | assumption)
      subst hC
      refine cut_seq fun C hC => ?_
      simp only [go_sem, d_logs_Ln, d_ref7_Ln, d_law7_known, d_ref2_Mul, d_ref2_Div, d_ref4_Add, d_ref4_Side, d_ref4_Sub, decide_true, decide_false, Bool.not_true, Bool.not_false, beq_self_eq_true, eq_self, k0, k1, k2, k3, k4, k5, hx1, hy1, l1, l2, s1, s2, Nat.reduceBEq, Nat.reduceBNe, Nat.reduceLT, Nat.reduceLeDiff, Nat.reduceAdd, Nat.reduceSub, Nat.reduceMul, Nat.reduceEqDiff, Int.reduceNeg, Int.reduceAdd, Int.reduceLT, Int.reduceLE, Int.reduceToNat, ↓reduceIte]
      try and_intros
      all_goals try (first | omega | (show okDraw _ _ = true; kernel_rfl) | exact Nat.le_trans za (by omega) | exact Nat.le_trans zb (by omega) | exact Nat.le_trans zc (by omega) | exact Nat.le_trans zd2 (by omega) | exact Nat.le_trans ze (by omega) | exact Nat.le_trans zf (by omega) | assumption)
      subst hC
      refine cut_seq fun C hC => ?_
      simp only [go_sem, d_logs_Ln, d_ref7_Ln, d_law7_known, d_ref2_Mul, d_ref2_Div, d_ref4_Add, d_ref4_Side, d_ref4_Sub, decide_true, decide_false, Bool.not_true, Bool.not_false, beq_self_eq_true, eq_self, k0, k1, k2, k3, k4, k5, hx1, hy1, l1, l2, s1, s2, Nat.reduceBEq, Nat.reduceBNe, Nat.reduceLT, Nat.reduceLeDiff, Nat.reduceAdd, Nat.reduceSub, Nat.reduceMul, Nat.reduceEqDiff, Int.reduceNeg, Int.reduceAdd, Int.reduceLT, Int.reduceLE, Int.reduceToNat, ↓reduceIte]
      try and_intros
      all_goals try (first | omega | (show okDraw _ _ = true; kernel_rfl) | exact Nat.le_trans za (by omega) | exact Nat.le_trans zb (by omega) | exact Nat.le_trans zc (by omega) | exact Nat.le_trans zd2 (by omega) | exact Nat.le_trans ze (by omega) | exact Nat.le_trans zf (by omega) | assumption)
      subst hC
      refine cut_seq fun C hC => ?_
      simp only [go_sem, d_logs_Ln, d_ref7_Ln, d_law7_known, d_ref2_Mul, d_ref2_Div, d_ref4_Add, d_ref4_Side, d_ref4_Sub, decide_true, decide_false, Bool.not_true, Bool.not_false, beq_self_eq_true, eq_self, k0, k1, k2, k3, k4, k5, hx1, hy1, l1, l2, s1, s2, Nat.reduceBEq, Nat.reduceBNe, Nat.reduceLT, Nat.reduceLeDiff, Nat.reduceAdd, Nat.reduceSub, Nat.reduceMul, Nat.reduceEqDiff, Int.reduceNeg, Int.reduceAdd, Int.reduceLT, Int.reduceLE, Int.reduceToNat, ↓reduceIte]
      try and_intros
      all_goals try (first | omega | (show okDraw _ _ = true; kernel_rfl) | exact Nat.le_trans za (by omega) | exact Nat.le_trans zb (by omega) | exact Nat.le_trans zc (by omega) | exact Nat.le_trans zd2 (by omega) | exact Nat.le_trans ze (by omega) | exact Nat.le_trans zf (by omega) | assumption)
      subst hC
      refine cut_seq fun C hC => ?_
      simp only [go_sem, d_logs_Ln, d_ref7_Ln, d_law7_known, d_ref2_Mul, d_ref2_Div, d_ref4_Add, d_ref4_Side, d_ref4_Sub, decide_true, decide_false, Bool.not_true, Bool.not_false, beq_self_eq_true, eq_self, k0, k1, k2, k3, k4, k5, hx1, hy1, l1, l2, s1, s2, Nat.reduceBEq, Nat.reduceBNe, Nat.reduceLT, Nat.reduceLeDiff, Nat.reduceAdd, Nat.reduceSub, Nat.reduceMul, Nat.reduceEqDiff, Int.reduceNeg, Int.reduceAdd, Int.reduceLT, Int.reduceLE, Int.reduceToNat, ↓reduceIte]
      try and_intros
      all_goals try (first | omega | (show okDraw _ _ = true; kernel_rfl) | exact Nat.le_trans za (by omega) | exact Nat.le_trans zb (by omega) | exact Nat.le_trans zc (by omega) | exact Nat.le_trans zd2 (by omega) | exact Nat.le_trans ze (by omega) | exact Nat.le_trans zf (by omega) | assumption)
      subst hC
      refine cut_seq fun C hC => ?_
      simp only [go_sem, d_logs_Ln, d_ref7_Ln, d_law7_known, d_ref2_Mul, d_ref2_Div, d_ref4_Add, d_ref4_Side, d_ref4_Sub, decide_true, decide_false, Bool.not_true, Bool.not_false, beq_self_eq_true, eq_self, k0, k1, k2, k3, k4, k5, hx1, hy1, l1, l2, s1, s2, Nat.reduceBEq, Nat.reduceBNe, Nat.reduceLT, Nat.reduceLeDiff, Nat.reduceAdd, Nat.reduceSub, Nat.reduceMul, Nat.reduceEqDiff, Int.reduceNeg, Int.reduceAdd, Int.reduceLT, Int.reduceLE, Int.reduceToNat, ↓reduceIte]
      try and_intros
      all_goals try (first | omega | (show okDraw _ _ = true; kernel_rfl) | exact Nat.le_trans za (by omega) | exact Nat.le_trans zb (by omega) | exact Nat.le_trans zc (by omega) | exact Nat.le_trans zd2 (by omega) | exact Nat.le_trans ze (by omega) | exact Nat.le_trans zf (by omega) | assumption)
      subst hC
      simp only [go_sem, d_logs_Ln, d_ref7_Ln, d_law7_known, d_ref2_Mul, d_ref2_Div, d_ref4_Add, d_ref4_Side, d_ref4_Sub, decide_true, decide_false, Bool.not_true, Bool.not_false, beq_self_eq_true, eq_self, k0, k1, k2, k3, k4, k5, hx1, hy1, l1, l2, s1, s2, Nat.reduceBEq, Nat.reduceBNe, Nat.reduceLT, Nat.reduceLeDiff, Nat.reduceAdd, Nat.reduceSub, Nat.reduceMul, Nat.reduceEqDiff, Int.reduceNeg, Int.reduceAdd, Int.reduceLT, Int.reduceLE, Int.reduceToNat, ↓reduceIte]
      all_goals ((try and_intros) <;> first | exact trivial | omega | exact Nat.le_trans za (by omega) | exact Nat.le_trans zb (by omega) | exact Nat.le_trans zc (by omega) | exact Nat.le_trans zd2 (by omega) | exact Nat.le_trans ze (by omega) | exact Nat.le_trans zf (by omega) | (show okDraw _ _ = true; kernel_rfl) | assumption)
end Go.Proofs.YtjfaefgabaimaaaGreat
