/- The law ExpsRises. Condition: rows shorter than 10^14. -/
import Derived.Test.YtjfaefgabaimaaaGreatNe
import Derived.Test.YtjfaefgabaimaaaGreatBj
namespace Go.Proofs.YtjfaefgabaimaaaGreat
open Go.RowKit
set_option linter.unusedSimpArgs false
set_option linter.unusedVariables false
theorem bb_szK {a b : Rat} {K : Nat} (h1 : rs a ≤ K) (h2 : rs b ≤ K) : (bb a b).sz ≤ K := Nat.max_le.2 ⟨by show (cr a).sz ≤ K; rw [cr_sz]; exact h1, by show (cr b).sz ≤ K; rw [cr_sz]; exact h2⟩
def d_law6_ExpsRises : Den := den4 aRat aRat aInt aInt (fun x y p m => x.sz ≤ 100000000000000 ∧ y.sz ≤ 100000000000000) fun x y p m => boolV true
set_option maxRecDepth 100000 in
set_option maxHeartbeats 8000000 in
theorem s_law6_ExpsRises : Sound Tryz.prog 4 d_law6_ExpsRises := by
  refine sound4 (fz := nofz) (l := [(6, d_law6_big), (7, d_exps_Exp), (9, d_ref6_Exp), (10, d_law6_known), (13, d_ref2_Cmp), (14, d_ref4_Within)]) TT_ok ⟨s_law6_big, s_exps_Exp, s_ref6_Exp, s_law6_known, s_ref2_Cmp, s_ref4_Within, trivial⟩ mixed Tryz.func4 Tryz.ntmps4 Tryz.results4 Tryz.call4 rfl (by omega) (fun _ _ _ _ => rfl) ?_
  intro x y p m hp hx hy hp hm
  rw [codeK_start]
  have hall : ∀ r ∈ [x, y], r.sz ≤ 100000000000000 := by
    intro r hr
    simp only [List.mem_cons, List.not_mem_nil, or_false] at hr
    rcases hr with rfl | rfl <;> first | exact hp | exact hp.1 | exact hp.2 | exact hp.2.1 | exact hp.2.2 | exact hp.2.2.1
  by_cases hbig : [x, y].any bigR = true
  · skip
    simp only [go_sem, d_law6_big, d_exps_Exp, d_ref6_Exp, d_law6_known, d_ref2_Cmp, d_ref4_Within, hbig, Nat.reduceBEq, Nat.reduceBNe, Nat.reduceLT, Nat.reduceLeDiff, Nat.reduceAdd, Nat.reduceSub, Nat.reduceMul, Nat.reduceEqDiff, Int.reduceNeg, Int.reduceAdd, Int.reduceLT, Int.reduceLE, Int.reduceToNat, ↓reduceIte]
    exact hall
  rw [Bool.not_eq_true] at hbig
  have sx : x.sz ≤ 3 := not_big (any_false hbig x (by simp))
  have rx : rs x.q ≤ 3 := rs_ok hx sx (by omega)
  have sy : y.sz ≤ 3 := not_big (any_false hbig y (by simp))
  have ry : rs y.q ≤ 3 := rs_ok hy sy (by omega)
  by_cases g0 : p < 0
  · have k0 : (p < 0) = True := eq_true g0
    simp only [go_sem, d_law6_big, d_exps_Exp, d_ref6_Exp, d_law6_known, d_ref2_Cmp, d_ref4_Within, hbig, decide_true, decide_false, Bool.not_true, Bool.not_false, beq_self_eq_true, eq_self, k0, Nat.reduceBEq, Nat.reduceBNe, Nat.reduceLT, Nat.reduceLeDiff, Nat.reduceAdd, Nat.reduceSub, Nat.reduceMul, Nat.reduceEqDiff, Int.reduceNeg, Int.reduceAdd, Int.reduceLT, Int.reduceLE, Int.reduceToNat, ↓reduceIte]
    all_goals ((try and_intros) <;> first | exact hall | exact trivial | omega | (show okDraw _ _ = true; kernel_rfl) | assumption)
  have k0 : (p < 0) = False := eq_false g0
  by_cases g1 : (50 : Int) < p
  · have k1 : ((50 : Int) < p) = True := eq_true g1
    simp only [go_sem, d_law6_big, d_exps_Exp, d_ref6_Exp, d_law6_known, d_ref2_Cmp, d_ref4_Within, hbig, decide_true, decide_false, Bool.not_true, Bool.not_false, beq_self_eq_true, eq_self, k0, k1, Nat.reduceBEq, Nat.reduceBNe, Nat.reduceLT, Nat.reduceLeDiff, Nat.reduceAdd, Nat.reduceSub, Nat.reduceMul, Nat.reduceEqDiff, Int.reduceNeg, Int.reduceAdd, Int.reduceLT, Int.reduceLE, Int.reduceToNat, ↓reduceIte]
    all_goals ((try and_intros) <;> first | exact hall | exact trivial | omega | (show okDraw _ _ = true; kernel_rfl) | assumption)
  have k1 : ((50 : Int) < p) = False := eq_false g1
  by_cases g2 : m < 0
  · have k2 : (m < 0) = True := eq_true g2
    simp only [go_sem, d_law6_big, d_exps_Exp, d_ref6_Exp, d_law6_known, d_ref2_Cmp, d_ref4_Within, hbig, decide_true, decide_false, Bool.not_true, Bool.not_false, beq_self_eq_true, eq_self, k0, k1, k2, Nat.reduceBEq, Nat.reduceBNe, Nat.reduceLT, Nat.reduceLeDiff, Nat.reduceAdd, Nat.reduceSub, Nat.reduceMul, Nat.reduceEqDiff, Int.reduceNeg, Int.reduceAdd, Int.reduceLT, Int.reduceLE, Int.reduceToNat, ↓reduceIte]
    all_goals ((try and_intros) <;> first | exact hall | exact trivial | omega | (show okDraw _ _ = true; kernel_rfl) | assumption)
  have k2 : (m < 0) = False := eq_false g2
  by_cases g3 : (50 : Int) < m
  · have k3 : ((50 : Int) < m) = True := eq_true g3
    simp only [go_sem, d_law6_big, d_exps_Exp, d_ref6_Exp, d_law6_known, d_ref2_Cmp, d_ref4_Within, hbig, decide_true, decide_false, Bool.not_true, Bool.not_false, beq_self_eq_true, eq_self, k0, k1, k2, k3, Nat.reduceBEq, Nat.reduceBNe, Nat.reduceLT, Nat.reduceLeDiff, Nat.reduceAdd, Nat.reduceSub, Nat.reduceMul, Nat.reduceEqDiff, Int.reduceNeg, Int.reduceAdd, Int.reduceLT, Int.reduceLE, Int.reduceToNat, ↓reduceIte]
    all_goals ((try and_intros) <;> first | exact hall | exact trivial | omega | (show okDraw _ _ = true; kernel_rfl) | assumption)
  have k3 : ((50 : Int) < m) = False := eq_false g3
  have hdx : x.q.den ≤ 2 ^ 200 := den_le (by omega)
  have hdy : y.q.den ≤ 2 ^ 200 := den_le (by omega)
  obtain ⟨r1, r2⟩ := rs_exp p hdx
  obtain ⟨r3, r4⟩ := rs_exp p hdy
  obtain ⟨r5, r6⟩ := rs_exp (p + m) hdx
  have fx := far_ok x.q
  have fy := far_ok y.q
  have za : (bb (expLo x.q p) (expHi x.q p)).sz ≤ 30 := bb_szK (by assumption) (by assumption)
  have zb : (bb (expLo y.q p) (expHi y.q p)).sz ≤ 30 := bb_szK (by assumption) (by assumption)
  have zc : (bb (expLo x.q (p + m)) (expHi x.q (p + m))).sz ≤ 30 := bb_szK (by assumption) (by assumption)
  cases hx1 : expOk x.q with
  | false =>
    cases hy1 : expOk y.q with
    | false =>
      refine cut_seq fun C hC => ?_
      simp only [go_sem, d_law6_big, d_exps_Exp, d_ref6_Exp, d_law6_known, d_ref2_Cmp, d_ref4_Within, hbig, decide_true, decide_false, Bool.not_true, Bool.not_false, beq_self_eq_true, eq_self, k0, k1, k2, k3, fx, fy, hx1, hy1, Nat.reduceBEq, Nat.reduceBNe, Nat.reduceLT, Nat.reduceLeDiff, Nat.reduceAdd, Nat.reduceSub, Nat.reduceMul, Nat.reduceEqDiff, Int.reduceNeg, Int.reduceAdd, Int.reduceLT, Int.reduceLE, Int.reduceToNat, ↓reduceIte]
      try and_intros
      all_goals try (first | omega | (show okDraw _ _ = true; kernel_rfl) | exact hall | exact hdx | exact hdy | exact Nat.le_trans za (by omega) | exact Nat.le_trans zb (by omega) | exact Nat.le_trans zc (by omega) | assumption)
      subst hC
      refine cut_seq fun C hC => ?_
      simp only [go_sem, d_law6_big, d_exps_Exp, d_ref6_Exp, d_law6_known, d_ref2_Cmp, d_ref4_Within, hbig, decide_true, decide_false, Bool.not_true, Bool.not_false, beq_self_eq_true, eq_self, k0, k1, k2, k3, fx, fy, hx1, hy1, Nat.reduceBEq, Nat.reduceBNe, Nat.reduceLT, Nat.reduceLeDiff, Nat.reduceAdd, Nat.reduceSub, Nat.reduceMul, Nat.reduceEqDiff, Int.reduceNeg, Int.reduceAdd, Int.reduceLT, Int.reduceLE, Int.reduceToNat, ↓reduceIte]
      try and_intros
      all_goals try (first | omega | (show okDraw _ _ = true; kernel_rfl) | exact hall | exact hdx | exact hdy | exact Nat.le_trans za (by omega) | exact Nat.le_trans zb (by omega) | exact Nat.le_trans zc (by omega) | assumption)
      subst hC
      refine cut_seq fun C hC => ?_
      simp only [go_sem, d_law6_big, d_exps_Exp, d_ref6_Exp, d_law6_known, d_ref2_Cmp, d_ref4_Within, hbig, decide_true, decide_false, Bool.not_true, Bool.not_false, beq_self_eq_true, eq_self, k0, k1, k2, k3, fx, fy, hx1, hy1, Nat.reduceBEq, Nat.reduceBNe, Nat.reduceLT, Nat.reduceLeDiff, Nat.reduceAdd, Nat.reduceSub, Nat.reduceMul, Nat.reduceEqDiff, Int.reduceNeg, Int.reduceAdd, Int.reduceLT, Int.reduceLE, Int.reduceToNat, ↓reduceIte]
      try and_intros
      all_goals try (first | omega | (show okDraw _ _ = true; kernel_rfl) | exact hall | exact hdx | exact hdy | exact Nat.le_trans za (by omega) | exact Nat.le_trans zb (by omega) | exact Nat.le_trans zc (by omega) | assumption)
      subst hC
      refine cut_seq fun C hC => ?_
      simp only [go_sem, d_law6_big, d_exps_Exp, d_ref6_Exp, d_law6_known, d_ref2_Cmp, d_ref4_Within, hbig, decide_true, decide_false, Bool.not_true, Bool.not_false, beq_self_eq_true, eq_self, k0, k1, k2, k3, fx, fy, hx1, hy1, Nat.reduceBEq, Nat.reduceBNe, Nat.reduceLT, Nat.reduceLeDiff, Nat.reduceAdd, Nat.reduceSub, Nat.reduceMul, Nat.reduceEqDiff, Int.reduceNeg, Int.reduceAdd, Int.reduceLT, Int.reduceLE, Int.reduceToNat, ↓reduceIte]
      try and_intros
      all_goals try (first | omega | (show okDraw _ _ = true; kernel_rfl) | exact hall | exact hdx | exact hdy | exact Nat.le_trans za (by omega) | exact Nat.le_trans zb (by omega) | exact Nat.le_trans zc (by omega) | assumption)
      subst hC
      refine cut_seq fun C hC => ?_
      simp only [go_sem, d_law6_big, d_exps_Exp, d_ref6_Exp, d_law6_known, d_ref2_Cmp, d_ref4_Within, hbig, decide_true, decide_false, Bool.not_true, Bool.not_false, beq_self_eq_true, eq_self, k0, k1, k2, k3, fx, fy, hx1, hy1, Nat.reduceBEq, Nat.reduceBNe, Nat.reduceLT, Nat.reduceLeDiff, Nat.reduceAdd, Nat.reduceSub, Nat.reduceMul, Nat.reduceEqDiff, Int.reduceNeg, Int.reduceAdd, Int.reduceLT, Int.reduceLE, Int.reduceToNat, ↓reduceIte]
      try and_intros
      all_goals try (first | omega | (show okDraw _ _ = true; kernel_rfl) | exact hall | exact hdx | exact hdy | exact Nat.le_trans za (by omega) | exact Nat.le_trans zb (by omega) | exact Nat.le_trans zc (by omega) | assumption)
      subst hC
      simp only [go_sem, d_law6_big, d_exps_Exp, d_ref6_Exp, d_law6_known, d_ref2_Cmp, d_ref4_Within, hbig, decide_true, decide_false, Bool.not_true, Bool.not_false, beq_self_eq_true, eq_self, k0, k1, k2, k3, fx, fy, hx1, hy1, Nat.reduceBEq, Nat.reduceBNe, Nat.reduceLT, Nat.reduceLeDiff, Nat.reduceAdd, Nat.reduceSub, Nat.reduceMul, Nat.reduceEqDiff, Int.reduceNeg, Int.reduceAdd, Int.reduceLT, Int.reduceLE, Int.reduceToNat, ↓reduceIte]
      all_goals ((try and_intros) <;> first | exact trivial | exact hall | exact hdx | exact hdy | exact Nat.le_trans za (by omega) | exact Nat.le_trans zb (by omega) | exact Nat.le_trans zc (by omega) | omega | (show okDraw _ _ = true; kernel_rfl) | assumption)
    | true =>
      refine cut_seq fun C hC => ?_
      simp only [go_sem, d_law6_big, d_exps_Exp, d_ref6_Exp, d_law6_known, d_ref2_Cmp, d_ref4_Within, hbig, decide_true, decide_false, Bool.not_true, Bool.not_false, beq_self_eq_true, eq_self, k0, k1, k2, k3, fx, fy, hx1, hy1, Nat.reduceBEq, Nat.reduceBNe, Nat.reduceLT, Nat.reduceLeDiff, Nat.reduceAdd, Nat.reduceSub, Nat.reduceMul, Nat.reduceEqDiff, Int.reduceNeg, Int.reduceAdd, Int.reduceLT, Int.reduceLE, Int.reduceToNat, ↓reduceIte]
      try and_intros
      all_goals try (first | omega | (show okDraw _ _ = true; kernel_rfl) | exact hall | exact hdx | exact hdy | exact Nat.le_trans za (by omega) | exact Nat.le_trans zb (by omega) | exact Nat.le_trans zc (by omega) | assumption)
      subst hC
      refine cut_seq fun C hC => ?_
      simp only [go_sem, d_law6_big, d_exps_Exp, d_ref6_Exp, d_law6_known, d_ref2_Cmp, d_ref4_Within, hbig, decide_true, decide_false, Bool.not_true, Bool.not_false, beq_self_eq_true, eq_self, k0, k1, k2, k3, fx, fy, hx1, hy1, Nat.reduceBEq, Nat.reduceBNe, Nat.reduceLT, Nat.reduceLeDiff, Nat.reduceAdd, Nat.reduceSub, Nat.reduceMul, Nat.reduceEqDiff, Int.reduceNeg, Int.reduceAdd, Int.reduceLT, Int.reduceLE, Int.reduceToNat, ↓reduceIte]
      try and_intros
      all_goals try (first | omega | (show okDraw _ _ = true; kernel_rfl) | exact hall | exact hdx | exact hdy | exact Nat.le_trans za (by omega) | exact Nat.le_trans zb (by omega) | exact Nat.le_trans zc (by omega) | assumption)
      subst hC
      refine cut_seq fun C hC => ?_
      simp only [go_sem, d_law6_big, d_exps_Exp, d_ref6_Exp, d_law6_known, d_ref2_Cmp, d_ref4_Within, hbig, decide_true, decide_false, Bool.not_true, Bool.not_false, beq_self_eq_true, eq_self, k0, k1, k2, k3, fx, fy, hx1, hy1, Nat.reduceBEq, Nat.reduceBNe, Nat.reduceLT, Nat.reduceLeDiff, Nat.reduceAdd, Nat.reduceSub, Nat.reduceMul, Nat.reduceEqDiff, Int.reduceNeg, Int.reduceAdd, Int.reduceLT, Int.reduceLE, Int.reduceToNat, ↓reduceIte]
      try and_intros
      all_goals try (first | omega | (show okDraw _ _ = true; kernel_rfl) | exact hall | exact hdx | exact hdy | exact Nat.le_trans za (by omega) | exact Nat.le_trans zb (by omega) | exact Nat.le_trans zc (by omega) | assumption)
      subst hC
      refine cut_seq fun C hC => ?_
      simp only [go_sem, d_law6_big, d_exps_Exp, d_ref6_Exp, d_law6_known, d_ref2_Cmp, d_ref4_Within, hbig, decide_true, decide_false, Bool.not_true, Bool.not_false, beq_self_eq_true, eq_self, k0, k1, k2, k3, fx, fy, hx1, hy1, Nat.reduceBEq, Nat.reduceBNe, Nat.reduceLT, Nat.reduceLeDiff, Nat.reduceAdd, Nat.reduceSub, Nat.reduceMul, Nat.reduceEqDiff, Int.reduceNeg, Int.reduceAdd, Int.reduceLT, Int.reduceLE, Int.reduceToNat, ↓reduceIte]
      try and_intros
      all_goals try (first | omega | (show okDraw _ _ = true; kernel_rfl) | exact hall | exact hdx | exact hdy | exact Nat.le_trans za (by omega) | exact Nat.le_trans zb (by omega) | exact Nat.le_trans zc (by omega) | assumption)
      subst hC
      refine cut_seq fun C hC => ?_
      simp only [go_sem, d_law6_big, d_exps_Exp, d_ref6_Exp, d_law6_known, d_ref2_Cmp, d_ref4_Within, hbig, decide_true, decide_false, Bool.not_true, Bool.not_false, beq_self_eq_true, eq_self, k0, k1, k2, k3, fx, fy, hx1, hy1, Nat.reduceBEq, Nat.reduceBNe, Nat.reduceLT, Nat.reduceLeDiff, Nat.reduceAdd, Nat.reduceSub, Nat.reduceMul, Nat.reduceEqDiff, Int.reduceNeg, Int.reduceAdd, Int.reduceLT, Int.reduceLE, Int.reduceToNat, ↓reduceIte]
      try and_intros
      all_goals try (first | omega | (show okDraw _ _ = true; kernel_rfl) | exact hall | exact hdx | exact hdy | exact Nat.le_trans za (by omega) | exact Nat.le_trans zb (by omega) | exact Nat.le_trans zc (by omega) | assumption)
      subst hC
      simp only [go_sem, d_law6_big, d_exps_Exp, d_ref6_Exp, d_law6_known, d_ref2_Cmp, d_ref4_Within, hbig, decide_true, decide_false, Bool.not_true, Bool.not_false, beq_self_eq_true, eq_self, k0, k1, k2, k3, fx, fy, hx1, hy1, Nat.reduceBEq, Nat.reduceBNe, Nat.reduceLT, Nat.reduceLeDiff, Nat.reduceAdd, Nat.reduceSub, Nat.reduceMul, Nat.reduceEqDiff, Int.reduceNeg, Int.reduceAdd, Int.reduceLT, Int.reduceLE, Int.reduceToNat, ↓reduceIte]
      all_goals ((try and_intros) <;> first | exact trivial | exact hall | exact hdx | exact hdy | exact Nat.le_trans za (by omega) | exact Nat.le_trans zb (by omega) | exact Nat.le_trans zc (by omega) | omega | (show okDraw _ _ = true; kernel_rfl) | assumption)
  | true =>
    cases hy1 : expOk y.q with
    | false =>
      refine cut_seq fun C hC => ?_
      simp only [go_sem, d_law6_big, d_exps_Exp, d_ref6_Exp, d_law6_known, d_ref2_Cmp, d_ref4_Within, hbig, decide_true, decide_false, Bool.not_true, Bool.not_false, beq_self_eq_true, eq_self, k0, k1, k2, k3, fx, fy, hx1, hy1, Nat.reduceBEq, Nat.reduceBNe, Nat.reduceLT, Nat.reduceLeDiff, Nat.reduceAdd, Nat.reduceSub, Nat.reduceMul, Nat.reduceEqDiff, Int.reduceNeg, Int.reduceAdd, Int.reduceLT, Int.reduceLE, Int.reduceToNat, ↓reduceIte]
      try and_intros
      all_goals try (first | omega | (show okDraw _ _ = true; kernel_rfl) | exact hall | exact hdx | exact hdy | exact Nat.le_trans za (by omega) | exact Nat.le_trans zb (by omega) | exact Nat.le_trans zc (by omega) | assumption)
      subst hC
      refine cut_seq fun C hC => ?_
      simp only [go_sem, d_law6_big, d_exps_Exp, d_ref6_Exp, d_law6_known, d_ref2_Cmp, d_ref4_Within, hbig, decide_true, decide_false, Bool.not_true, Bool.not_false, beq_self_eq_true, eq_self, k0, k1, k2, k3, fx, fy, hx1, hy1, Nat.reduceBEq, Nat.reduceBNe, Nat.reduceLT, Nat.reduceLeDiff, Nat.reduceAdd, Nat.reduceSub, Nat.reduceMul, Nat.reduceEqDiff, Int.reduceNeg, Int.reduceAdd, Int.reduceLT, Int.reduceLE, Int.reduceToNat, ↓reduceIte]
      try and_intros
      all_goals try (first | omega | (show okDraw _ _ = true; kernel_rfl) | exact hall | exact hdx | exact hdy | exact Nat.le_trans za (by omega) | exact Nat.le_trans zb (by omega) | exact Nat.le_trans zc (by omega) | assumption)
      subst hC
      refine cut_seq fun C hC => ?_
      simp only [go_sem, d_law6_big, d_exps_Exp, d_ref6_Exp, d_law6_known, d_ref2_Cmp, d_ref4_Within, hbig, decide_true, decide_false, Bool.not_true, Bool.not_false, beq_self_eq_true, eq_self, k0, k1, k2, k3, fx, fy, hx1, hy1, Nat.reduceBEq, Nat.reduceBNe, Nat.reduceLT, Nat.reduceLeDiff, Nat.reduceAdd, Nat.reduceSub, Nat.reduceMul, Nat.reduceEqDiff, Int.reduceNeg, Int.reduceAdd, Int.reduceLT, Int.reduceLE, Int.reduceToNat, ↓reduceIte]
      try and_intros
      all_goals try (first | omega | (show okDraw _ _ = true; kernel_rfl) | exact hall | exact hdx | exact hdy | exact Nat.le_trans za (by omega) | exact Nat.le_trans zb (by omega) | exact Nat.le_trans zc (by omega) | assumption)
      subst hC
      refine cut_seq fun C hC => ?_
      simp only [go_sem, d_law6_big, d_exps_Exp, d_ref6_Exp, d_law6_known, d_ref2_Cmp, d_ref4_Within, hbig, decide_true, decide_false, Bool.not_true, Bool.not_false, beq_self_eq_true, eq_self, k0, k1, k2, k3, fx, fy, hx1, hy1, Nat.reduceBEq, Nat.reduceBNe, Nat.reduceLT, Nat.reduceLeDiff, Nat.reduceAdd, Nat.reduceSub, Nat.reduceMul, Nat.reduceEqDiff, Int.reduceNeg, Int.reduceAdd, Int.reduceLT, Int.reduceLE, Int.reduceToNat, ↓reduceIte]
      try and_intros
      all_goals try (first | omega | (show okDraw _ _ = true; kernel_rfl) | exact hall | exact hdx | exact hdy | exact Nat.le_trans za (by omega) | exact Nat.le_trans zb (by omega) | exact Nat.le_trans zc (by omega) | assumption)
      subst hC
      refine cut_seq fun C hC => ?_
      simp only [go_sem, d_law6_big, d_exps_Exp, d_ref6_Exp, d_law6_known, d_ref2_Cmp, d_ref4_Within, hbig, decide_true, decide_false, Bool.not_true, Bool.not_false, beq_self_eq_true, eq_self, k0, k1, k2, k3, fx, fy, hx1, hy1, Nat.reduceBEq, Nat.reduceBNe, Nat.reduceLT, Nat.reduceLeDiff, Nat.reduceAdd, Nat.reduceSub, Nat.reduceMul, Nat.reduceEqDiff, Int.reduceNeg, Int.reduceAdd, Int.reduceLT, Int.reduceLE, Int.reduceToNat, ↓reduceIte]
      try and_intros
      all_goals try (first | omega | (show okDraw _ _ = true; kernel_rfl) | exact hall | exact hdx | exact hdy | exact Nat.le_trans za (by omega) | exact Nat.le_trans zb (by omega) | exact Nat.le_trans zc (by omega) | assumption)
      subst hC
      simp only [go_sem, d_law6_big, d_exps_Exp, d_ref6_Exp, d_law6_known, d_ref2_Cmp, d_ref4_Within, hbig, decide_true, decide_false, Bool.not_true, Bool.not_false, beq_self_eq_true, eq_self, k0, k1, k2, k3, fx, fy, hx1, hy1, Nat.reduceBEq, Nat.reduceBNe, Nat.reduceLT, Nat.reduceLeDiff, Nat.reduceAdd, Nat.reduceSub, Nat.reduceMul, Nat.reduceEqDiff, Int.reduceNeg, Int.reduceAdd, Int.reduceLT, Int.reduceLE, Int.reduceToNat, ↓reduceIte]
      all_goals ((try and_intros) <;> first | exact trivial | exact hall | exact hdx | exact hdy | exact Nat.le_trans za (by omega) | exact Nat.le_trans zb (by omega) | exact Nat.le_trans zc (by omega) | omega | (show okDraw _ _ = true; kernel_rfl) | assumption)
    | true =>
      obtain ⟨w1, w2⟩ := exp_within (p := p) (m := m) hx1 hdx (by omega) (by omega) (by omega)
      rcases (show x.q < y.q ∨ x.q = y.q ∨ y.q < x.q by grind) with h | h | h
      · skip
        have c1 : (x.q < y.q) = True := eq_true h
        have c2 : (y.q < x.q) = False := eq_false (by grind)
        have c3 : (expLo x.q p ≤ expLo y.q p) = True := eq_true (exp_mono p hx1 hy1 hdx hdy (Rat.le_of_lt h))
        refine cut_seq fun C hC => ?_
        simp only [go_sem, d_law6_big, d_exps_Exp, d_ref6_Exp, d_law6_known, d_ref2_Cmp, d_ref4_Within, hbig, decide_true, decide_false, Bool.not_true, Bool.not_false, beq_self_eq_true, eq_self, k0, k1, k2, k3, fx, fy, hx1, hy1, w1, w2, Bool.and_self, c1, c2, c3, Nat.reduceBEq, Nat.reduceBNe, Nat.reduceLT, Nat.reduceLeDiff, Nat.reduceAdd, Nat.reduceSub, Nat.reduceMul, Nat.reduceEqDiff, Int.reduceNeg, Int.reduceAdd, Int.reduceLT, Int.reduceLE, Int.reduceToNat, ↓reduceIte]
        try and_intros
        all_goals try (first | omega | (show okDraw _ _ = true; kernel_rfl) | exact hall | exact hdx | exact hdy | exact Nat.le_trans za (by omega) | exact Nat.le_trans zb (by omega) | exact Nat.le_trans zc (by omega) | assumption)
        subst hC
        refine cut_seq fun C hC => ?_
        simp only [go_sem, d_law6_big, d_exps_Exp, d_ref6_Exp, d_law6_known, d_ref2_Cmp, d_ref4_Within, hbig, decide_true, decide_false, Bool.not_true, Bool.not_false, beq_self_eq_true, eq_self, k0, k1, k2, k3, fx, fy, hx1, hy1, w1, w2, Bool.and_self, c1, c2, c3, Nat.reduceBEq, Nat.reduceBNe, Nat.reduceLT, Nat.reduceLeDiff, Nat.reduceAdd, Nat.reduceSub, Nat.reduceMul, Nat.reduceEqDiff, Int.reduceNeg, Int.reduceAdd, Int.reduceLT, Int.reduceLE, Int.reduceToNat, ↓reduceIte]
        try and_intros
        all_goals try (first | omega | (show okDraw _ _ = true; kernel_rfl) | exact hall | exact hdx | exact hdy | exact Nat.le_trans za (by omega) | exact Nat.le_trans zb (by omega) | exact Nat.le_trans zc (by omega) | assumption)
        subst hC
        refine cut_seq fun C hC => ?_
        simp only [go_sem, d_law6_big, d_exps_Exp, d_ref6_Exp, d_law6_known, d_ref2_Cmp, d_ref4_Within, hbig, decide_true, decide_false, Bool.not_true, Bool.not_false, beq_self_eq_true, eq_self, k0, k1, k2, k3, fx, fy, hx1, hy1, w1, w2, Bool.and_self, c1, c2, c3, Nat.reduceBEq, Nat.reduceBNe, Nat.reduceLT, Nat.reduceLeDiff, Nat.reduceAdd, Nat.reduceSub, Nat.reduceMul, Nat.reduceEqDiff, Int.reduceNeg, Int.reduceAdd, Int.reduceLT, Int.reduceLE, Int.reduceToNat, ↓reduceIte]
        try and_intros
        all_goals try (first | omega | (show okDraw _ _ = true; kernel_rfl) | exact hall | exact hdx | exact hdy | exact Nat.le_trans za (by omega) | exact Nat.le_trans zb (by omega) | exact Nat.le_trans zc (by omega) | assumption)
        subst hC
        refine cut_seq fun C hC => ?_
        simp only [go_sem, d_law6_big, d_exps_Exp, d_ref6_Exp, d_law6_known, d_ref2_Cmp, d_ref4_Within, hbig, decide_true, decide_false, Bool.not_true, Bool.not_false, beq_self_eq_true, eq_self, k0, k1, k2, k3, fx, fy, hx1, hy1, w1, w2, Bool.and_self, c1, c2, c3, Nat.reduceBEq, Nat.reduceBNe, Nat.reduceLT, Nat.reduceLeDiff, Nat.reduceAdd, Nat.reduceSub, Nat.reduceMul, Nat.reduceEqDiff, Int.reduceNeg, Int.reduceAdd, Int.reduceLT, Int.reduceLE, Int.reduceToNat, ↓reduceIte]
        try and_intros
        all_goals try (first | omega | (show okDraw _ _ = true; kernel_rfl) | exact hall | exact hdx | exact hdy | exact Nat.le_trans za (by omega) | exact Nat.le_trans zb (by omega) | exact Nat.le_trans zc (by omega) | assumption)
        subst hC
        refine cut_seq fun C hC => ?_
        simp only [go_sem, d_law6_big, d_exps_Exp, d_ref6_Exp, d_law6_known, d_ref2_Cmp, d_ref4_Within, hbig, decide_true, decide_false, Bool.not_true, Bool.not_false, beq_self_eq_true, eq_self, k0, k1, k2, k3, fx, fy, hx1, hy1, w1, w2, Bool.and_self, c1, c2, c3, Nat.reduceBEq, Nat.reduceBNe, Nat.reduceLT, Nat.reduceLeDiff, Nat.reduceAdd, Nat.reduceSub, Nat.reduceMul, Nat.reduceEqDiff, Int.reduceNeg, Int.reduceAdd, Int.reduceLT, Int.reduceLE, Int.reduceToNat, ↓reduceIte]
        try and_intros
        all_goals try (first | omega | (show okDraw _ _ = true; kernel_rfl) | exact hall | exact hdx | exact hdy | exact Nat.le_trans za (by omega) | exact Nat.le_trans zb (by omega) | exact Nat.le_trans zc (by omega) | assumption)
        subst hC
        refine cut_seq fun C hC => ?_
        simp only [go_sem, d_law6_big, d_exps_Exp, d_ref6_Exp, d_law6_known, d_ref2_Cmp, d_ref4_Within, hbig, decide_true, decide_false, Bool.not_true, Bool.not_false, beq_self_eq_true, eq_self, k0, k1, k2, k3, fx, fy, hx1, hy1, w1, w2, Bool.and_self, c1, c2, c3, Nat.reduceBEq, Nat.reduceBNe, Nat.reduceLT, Nat.reduceLeDiff, Nat.reduceAdd, Nat.reduceSub, Nat.reduceMul, Nat.reduceEqDiff, Int.reduceNeg, Int.reduceAdd, Int.reduceLT, Int.reduceLE, Int.reduceToNat, ↓reduceIte]
        try and_intros
        all_goals try (first | omega | (show okDraw _ _ = true; kernel_rfl) | exact hall | exact hdx | exact hdy | exact Nat.le_trans za (by omega) | exact Nat.le_trans zb (by omega) | exact Nat.le_trans zc (by omega) | assumption)
        subst hC
        simp only [go_sem, d_law6_big, d_exps_Exp, d_ref6_Exp, d_law6_known, d_ref2_Cmp, d_ref4_Within, hbig, decide_true, decide_false, Bool.not_true, Bool.not_false, beq_self_eq_true, eq_self, k0, k1, k2, k3, fx, fy, hx1, hy1, w1, w2, Bool.and_self, c1, c2, c3, Nat.reduceBEq, Nat.reduceBNe, Nat.reduceLT, Nat.reduceLeDiff, Nat.reduceAdd, Nat.reduceSub, Nat.reduceMul, Nat.reduceEqDiff, Int.reduceNeg, Int.reduceAdd, Int.reduceLT, Int.reduceLE, Int.reduceToNat, ↓reduceIte]
        all_goals ((try and_intros) <;> first | exact trivial | exact hall | exact hdx | exact hdy | exact Nat.le_trans za (by omega) | exact Nat.le_trans zb (by omega) | exact Nat.le_trans zc (by omega) | omega | (show okDraw _ _ = true; kernel_rfl) | assumption)
      · skip
        have c1 : (x.q < y.q) = False := eq_false (by grind)
        have c2 : (y.q < x.q) = False := eq_false (by grind)
        have c3 : (expLo x.q p ≤ expLo y.q p) = True := eq_true (exp_mono p hx1 hy1 hdx hdy (by grind))
        have c4 : (expLo y.q p ≤ expLo x.q p) = True := eq_true (exp_mono p hy1 hx1 hdy hdx (by grind))
        refine cut_seq fun C hC => ?_
        simp only [go_sem, d_law6_big, d_exps_Exp, d_ref6_Exp, d_law6_known, d_ref2_Cmp, d_ref4_Within, hbig, decide_true, decide_false, Bool.not_true, Bool.not_false, beq_self_eq_true, eq_self, k0, k1, k2, k3, fx, fy, hx1, hy1, w1, w2, Bool.and_self, c1, c2, c3, c4, Nat.reduceBEq, Nat.reduceBNe, Nat.reduceLT, Nat.reduceLeDiff, Nat.reduceAdd, Nat.reduceSub, Nat.reduceMul, Nat.reduceEqDiff, Int.reduceNeg, Int.reduceAdd, Int.reduceLT, Int.reduceLE, Int.reduceToNat, ↓reduceIte]
        try and_intros
        all_goals try (first | omega | (show okDraw _ _ = true; kernel_rfl) | exact hall | exact hdx | exact hdy | exact Nat.le_trans za (by omega) | exact Nat.le_trans zb (by omega) | exact Nat.le_trans zc (by omega) | assumption)
        subst hC
        refine cut_seq fun C hC => ?_
        simp only [go_sem, d_law6_big, d_exps_Exp, d_ref6_Exp, d_law6_known, d_ref2_Cmp, d_ref4_Within, hbig, decide_true, decide_false, Bool.not_true, Bool.not_false, beq_self_eq_true, eq_self, k0, k1, k2, k3, fx, fy, hx1, hy1, w1, w2, Bool.and_self, c1, c2, c3, c4, Nat.reduceBEq, Nat.reduceBNe, Nat.reduceLT, Nat.reduceLeDiff, Nat.reduceAdd, Nat.reduceSub, Nat.reduceMul, Nat.reduceEqDiff, Int.reduceNeg, Int.reduceAdd, Int.reduceLT, Int.reduceLE, Int.reduceToNat, ↓reduceIte]
        try and_intros
        all_goals try (first | omega | (show okDraw _ _ = true; kernel_rfl) | exact hall | exact hdx | exact hdy | exact Nat.le_trans za (by omega) | exact Nat.le_trans zb (by omega) | exact Nat.le_trans zc (by omega) | assumption)
        subst hC
        refine cut_seq fun C hC => ?_
        simp only [go_sem, d_law6_big, d_exps_Exp, d_ref6_Exp, d_law6_known, d_ref2_Cmp, d_ref4_Within, hbig, decide_true, decide_false, Bool.not_true, Bool.not_false, beq_self_eq_true, eq_self, k0, k1, k2, k3, fx, fy, hx1, hy1, w1, w2, Bool.and_self, c1, c2, c3, c4, Nat.reduceBEq, Nat.reduceBNe, Nat.reduceLT, Nat.reduceLeDiff, Nat.reduceAdd, Nat.reduceSub, Nat.reduceMul, Nat.reduceEqDiff, Int.reduceNeg, Int.reduceAdd, Int.reduceLT, Int.reduceLE, Int.reduceToNat, ↓reduceIte]
        try and_intros
        all_goals try (first | omega | (show okDraw _ _ = true; kernel_rfl) | exact hall | exact hdx | exact hdy | exact Nat.le_trans za (by omega) | exact Nat.le_trans zb (by omega) | exact Nat.le_trans zc (by omega) | assumption)
        subst hC
        refine cut_seq fun C hC => ?_
        simp only [go_sem, d_law6_big, d_exps_Exp, d_ref6_Exp, d_law6_known, d_ref2_Cmp, d_ref4_Within, hbig, decide_true, decide_false, Bool.not_true, Bool.not_false, beq_self_eq_true, eq_self, k0, k1, k2, k3, fx, fy, hx1, hy1, w1, w2, Bool.and_self, c1, c2, c3, c4, Nat.reduceBEq, Nat.reduceBNe, Nat.reduceLT, Nat.reduceLeDiff, Nat.reduceAdd, Nat.reduceSub, Nat.reduceMul, Nat.reduceEqDiff, Int.reduceNeg, Int.reduceAdd, Int.reduceLT, Int.reduceLE, Int.reduceToNat, ↓reduceIte]
        try and_intros
        all_goals try (first | omega | (show okDraw _ _ = true; kernel_rfl) | exact hall | exact hdx | exact hdy | exact Nat.le_trans za (by omega) | exact Nat.le_trans zb (by omega) | exact Nat.le_trans zc (by omega) | assumption)
        subst hC
        refine cut_seq fun C hC => ?_
        simp only [go_sem, d_law6_big, d_exps_Exp, d_ref6_Exp, d_law6_known, d_ref2_Cmp, d_ref4_Within, hbig, decide_true, decide_false, Bool.not_true, Bool.not_false, beq_self_eq_true, eq_self, k0, k1, k2, k3, fx, fy, hx1, hy1, w1, w2, Bool.and_self, c1, c2, c3, c4, Nat.reduceBEq, Nat.reduceBNe, Nat.reduceLT, Nat.reduceLeDiff, Nat.reduceAdd, Nat.reduceSub, Nat.reduceMul, Nat.reduceEqDiff, Int.reduceNeg, Int.reduceAdd, Int.reduceLT, Int.reduceLE, Int.reduceToNat, ↓reduceIte]
        try and_intros
        all_goals try (first | omega | (show okDraw _ _ = true; kernel_rfl) | exact hall | exact hdx | exact hdy | exact Nat.le_trans za (by omega) | exact Nat.le_trans zb (by omega) | exact Nat.le_trans zc (by omega) | assumption)
        subst hC
        refine cut_seq fun C hC => ?_
        simp only [go_sem, d_law6_big, d_exps_Exp, d_ref6_Exp, d_law6_known, d_ref2_Cmp, d_ref4_Within, hbig, decide_true, decide_false, Bool.not_true, Bool.not_false, beq_self_eq_true, eq_self, k0, k1, k2, k3, fx, fy, hx1, hy1, w1, w2, Bool.and_self, c1, c2, c3, c4, Nat.reduceBEq, Nat.reduceBNe, Nat.reduceLT, Nat.reduceLeDiff, Nat.reduceAdd, Nat.reduceSub, Nat.reduceMul, Nat.reduceEqDiff, Int.reduceNeg, Int.reduceAdd, Int.reduceLT, Int.reduceLE, Int.reduceToNat, ↓reduceIte]
        try and_intros
        all_goals try (first | omega | (show okDraw _ _ = true; kernel_rfl) | exact hall | exact hdx | exact hdy | exact Nat.le_trans za (by omega) | exact Nat.le_trans zb (by omega) | exact Nat.le_trans zc (by omega) | assumption)
        subst hC
        simp only [go_sem, d_law6_big, d_exps_Exp, d_ref6_Exp, d_law6_known, d_ref2_Cmp, d_ref4_Within, hbig, decide_true, decide_false, Bool.not_true, Bool.not_false, beq_self_eq_true, eq_self, k0, k1, k2, k3, fx, fy, hx1, hy1, w1, w2, Bool.and_self, c1, c2, c3, c4, Nat.reduceBEq, Nat.reduceBNe, Nat.reduceLT, Nat.reduceLeDiff, Nat.reduceAdd, Nat.reduceSub, Nat.reduceMul, Nat.reduceEqDiff, Int.reduceNeg, Int.reduceAdd, Int.reduceLT, Int.reduceLE, Int.reduceToNat, ↓reduceIte]
        all_goals ((try and_intros) <;> first | exact trivial | exact hall | exact hdx | exact hdy | exact Nat.le_trans za (by omega) | exact Nat.le_trans zb (by omega) | exact Nat.le_trans zc (by omega) | omega | (show okDraw _ _ = true; kernel_rfl) | assumption)
      · skip
        have c1 : (x.q < y.q) = False := eq_false (by grind)
        have c2 : (y.q < x.q) = True := eq_true h
        have c4 : (expLo y.q p ≤ expLo x.q p) = True := eq_true (exp_mono p hy1 hx1 hdy hdx (Rat.le_of_lt h))
        refine cut_seq fun C hC => ?_
        simp only [go_sem, d_law6_big, d_exps_Exp, d_ref6_Exp, d_law6_known, d_ref2_Cmp, d_ref4_Within, hbig, decide_true, decide_false, Bool.not_true, Bool.not_false, beq_self_eq_true, eq_self, k0, k1, k2, k3, fx, fy, hx1, hy1, w1, w2, Bool.and_self, c1, c2, c4, Nat.reduceBEq, Nat.reduceBNe, Nat.reduceLT, Nat.reduceLeDiff, Nat.reduceAdd, Nat.reduceSub, Nat.reduceMul, Nat.reduceEqDiff, Int.reduceNeg, Int.reduceAdd, Int.reduceLT, Int.reduceLE, Int.reduceToNat, ↓reduceIte]
        try and_intros
        all_goals try (first | omega | (show okDraw _ _ = true; kernel_rfl) | exact hall | exact hdx | exact hdy | exact Nat.le_trans za (by omega) | exact Nat.le_trans zb (by omega) | exact Nat.le_trans zc (by omega) | assumption)
        subst hC
        refine cut_seq fun C hC => ?_
        simp only [go_sem, d_law6_big, d_exps_Exp, d_ref6_Exp, d_law6_known, d_ref2_Cmp, d_ref4_Within, hbig, decide_true, decide_false, Bool.not_true, Bool.not_false, beq_self_eq_true, eq_self, k0, k1, k2, k3, fx, fy, hx1, hy1, w1, w2, Bool.and_self, c1, c2, c4, Nat.reduceBEq, Nat.reduceBNe, Nat.reduceLT, Nat.reduceLeDiff, Nat.reduceAdd, Nat.reduceSub, Nat.reduceMul, Nat.reduceEqDiff, Int.reduceNeg, Int.reduceAdd, Int.reduceLT, Int.reduceLE, Int.reduceToNat, ↓reduceIte]
        try and_intros
        all_goals try (first | omega | (show okDraw _ _ = true; kernel_rfl) | exact hall | exact hdx | exact hdy | exact Nat.le_trans za (by omega) | exact Nat.le_trans zb (by omega) | exact Nat.le_trans zc (by omega) | assumption)
        subst hC
        refine cut_seq fun C hC => ?_
        simp only [go_sem, d_law6_big, d_exps_Exp, d_ref6_Exp, d_law6_known, d_ref2_Cmp, d_ref4_Within, hbig, decide_true, decide_false, Bool.not_true, Bool.not_false, beq_self_eq_true, eq_self, k0, k1, k2, k3, fx, fy, hx1, hy1, w1, w2, Bool.and_self, c1, c2, c4, Nat.reduceBEq, Nat.reduceBNe, Nat.reduceLT, Nat.reduceLeDiff, Nat.reduceAdd, Nat.reduceSub, Nat.reduceMul, Nat.reduceEqDiff, Int.reduceNeg, Int.reduceAdd, Int.reduceLT, Int.reduceLE, Int.reduceToNat, ↓reduceIte]
        try and_intros
        all_goals try (first | omega | (show okDraw _ _ = true; kernel_rfl) | exact hall | exact hdx | exact hdy | exact Nat.le_trans za (by omega) | exact Nat.le_trans zb (by omega) | exact Nat.le_trans zc (by omega) | assumption)
        subst hC
        refine cut_seq fun C hC => ?_
        simp only [go_sem, d_law6_big, d_exps_Exp, d_ref6_Exp, d_law6_known, d_ref2_Cmp, d_ref4_Within, hbig, decide_true, decide_false, Bool.not_true, Bool.not_false, beq_self_eq_true, eq_self, k0, k1, k2, k3, fx, fy, hx1, hy1, w1, w2, Bool.and_self, c1, c2, c4, Nat.reduceBEq, Nat.reduceBNe, Nat.reduceLT, Nat.reduceLeDiff, Nat.reduceAdd, Nat.reduceSub, Nat.reduceMul, Nat.reduceEqDiff, Int.reduceNeg, Int.reduceAdd, Int.reduceLT, Int.reduceLE, Int.reduceToNat, ↓reduceIte]
        try and_intros
        all_goals try (first | omega | (show okDraw _ _ = true; kernel_rfl) | exact hall | exact hdx | exact hdy | exact Nat.le_trans za (by omega) | exact Nat.le_trans zb (by omega) | exact Nat.le_trans zc (by omega) | assumption)
        subst hC
        refine cut_seq fun C hC => ?_
        simp only [go_sem, d_law6_big, d_exps_Exp, d_ref6_Exp, d_law6_known, d_ref2_Cmp, d_ref4_Within, hbig, decide_true, decide_false, Bool.not_true, Bool.not_false, beq_self_eq_true, eq_self, k0, k1, k2, k3, fx, fy, hx1, hy1, w1, w2, Bool.and_self, c1, c2, c4, Nat.reduceBEq, Nat.reduceBNe, Nat.reduceLT, Nat.reduceLeDiff, Nat.reduceAdd, Nat.reduceSub, Nat.reduceMul, Nat.reduceEqDiff, Int.reduceNeg, Int.reduceAdd, Int.reduceLT, Int.reduceLE, Int.reduceToNat, ↓reduceIte]
        try and_intros
        all_goals try (first | omega | (show okDraw _ _ = true; kernel_rfl) | exact hall | exact hdx | exact hdy | exact Nat.le_trans za (by omega) | exact Nat.le_trans zb (by omega) | exact Nat.le_trans zc (by omega) | assumption)
        subst hC
        refine cut_seq fun C hC => ?_
        simp only [go_sem, d_law6_big, d_exps_Exp, d_ref6_Exp, d_law6_known, d_ref2_Cmp, d_ref4_Within, hbig, decide_true, decide_false, Bool.not_true, Bool.not_false, beq_self_eq_true, eq_self, k0, k1, k2, k3, fx, fy, hx1, hy1, w1, w2, Bool.and_self, c1, c2, c4, Nat.reduceBEq, Nat.reduceBNe, Nat.reduceLT, Nat.reduceLeDiff, Nat.reduceAdd, Nat.reduceSub, Nat.reduceMul, Nat.reduceEqDiff, Int.reduceNeg, Int.reduceAdd, Int.reduceLT, Int.reduceLE, Int.reduceToNat, ↓reduceIte]
        try and_intros
        all_goals try (first | omega | (show okDraw _ _ = true; kernel_rfl) | exact hall | exact hdx | exact hdy | exact Nat.le_trans za (by omega) | exact Nat.le_trans zb (by omega) | exact Nat.le_trans zc (by omega) | assumption)
        subst hC
        simp only [go_sem, d_law6_big, d_exps_Exp, d_ref6_Exp, d_law6_known, d_ref2_Cmp, d_ref4_Within, hbig, decide_true, decide_false, Bool.not_true, Bool.not_false, beq_self_eq_true, eq_self, k0, k1, k2, k3, fx, fy, hx1, hy1, w1, w2, Bool.and_self, c1, c2, c4, Nat.reduceBEq, Nat.reduceBNe, Nat.reduceLT, Nat.reduceLeDiff, Nat.reduceAdd, Nat.reduceSub, Nat.reduceMul, Nat.reduceEqDiff, Int.reduceNeg, Int.reduceAdd, Int.reduceLT, Int.reduceLE, Int.reduceToNat, ↓reduceIte]
        all_goals ((try and_intros) <;> first | exact trivial | exact hall | exact hdx | exact hdy | exact Nat.le_trans za (by omega) | exact Nat.le_trans zb (by omega) | exact Nat.le_trans zc (by omega) | omega | (show okDraw _ _ = true; kernel_rfl) | assumption)

end Go.Proofs.YtjfaefgabaimaaaGreat
