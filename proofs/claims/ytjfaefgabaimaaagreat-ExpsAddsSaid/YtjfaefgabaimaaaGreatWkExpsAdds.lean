/- The law ExpsAdds. Condition: rows shorter than 10^14. -/
import Derived.Test.YtjfaefgabaimaaaGreatNe
import Derived.Test.YtjfaefgabaimaaaGreatBj
namespace Go.Proofs.YtjfaefgabaimaaaGreat
open Go.RowKit
set_option linter.unusedSimpArgs false
set_option linter.unusedVariables false
theorem bb_szK {a b : Rat} {K : Nat} (h1 : rs a ≤ K) (h2 : rs b ≤ K) : (bb a b).sz ≤ K := Nat.max_le.2 ⟨by show (cr a).sz ≤ K; rw [cr_sz]; exact h1, by show (cr b).sz ≤ K; rw [cr_sz]; exact h2⟩
def d_law6_ExpsAdds : Den := den3 aRat aRat aInt (fun x y p => x.sz ≤ 100000000000000 ∧ y.sz ≤ 100000000000000) fun x y p => boolV true
set_option maxRecDepth 100000 in
set_option maxHeartbeats 8000000 in
theorem s_law6_ExpsAdds : Sound Tryz.prog 3 d_law6_ExpsAdds := by
  refine sound3 (fz := nofz) (l := [(6, d_law6_big), (7, d_exps_Exp), (8, d_ref2_Add), (9, d_ref6_Exp), (10, d_law6_known), (12, d_ref4_Mul), (11, d_ref4_Side)]) TT_ok ⟨s_law6_big, s_exps_Exp, s_ref2_Add, s_ref6_Exp, s_law6_known, s_ref4_Mul, s_ref4_Side, trivial⟩ mixed Tryz.func3 Tryz.ntmps3 Tryz.results3 Tryz.call3 rfl (by omega) (fun _ _ _ => rfl) ?_
  intro x y p hp hx hy hp
  rw [codeK_start]
  have hall : ∀ r ∈ [x, y], r.sz ≤ 100000000000000 := by
    intro r hr
    simp only [List.mem_cons, List.not_mem_nil, or_false] at hr
    rcases hr with rfl | rfl <;> first | exact hp | exact hp.1 | exact hp.2 | exact hp.2.1 | exact hp.2.2 | exact hp.2.2.1
  by_cases hbig : [x, y].any bigR = true
  · skip
    simp only [go_sem, d_law6_big, d_exps_Exp, d_ref2_Add, d_ref6_Exp, d_law6_known, d_ref4_Mul, d_ref4_Side, hbig, Nat.reduceBEq, Nat.reduceBNe, Nat.reduceLT, Nat.reduceLeDiff, Nat.reduceAdd, Nat.reduceSub, Nat.reduceMul, Nat.reduceEqDiff, Int.reduceNeg, Int.reduceAdd, Int.reduceLT, Int.reduceLE, Int.reduceToNat, ↓reduceIte]
    exact hall
  rw [Bool.not_eq_true] at hbig
  have sx : x.sz ≤ 3 := not_big (any_false hbig x (by simp))
  have rx : rs x.q ≤ 3 := rs_ok hx sx (by omega)
  have sy : y.sz ≤ 3 := not_big (any_false hbig y (by simp))
  have ry : rs y.q ≤ 3 := rs_ok hy sy (by omega)
  by_cases g0 : p < 0
  · have k0 : (p < 0) = True := eq_true g0
    simp only [go_sem, d_law6_big, d_exps_Exp, d_ref2_Add, d_ref6_Exp, d_law6_known, d_ref4_Mul, d_ref4_Side, hbig, decide_true, decide_false, Bool.not_true, Bool.not_false, beq_self_eq_true, eq_self, k0, Nat.reduceBEq, Nat.reduceBNe, Nat.reduceLT, Nat.reduceLeDiff, Nat.reduceAdd, Nat.reduceSub, Nat.reduceMul, Nat.reduceEqDiff, Int.reduceNeg, Int.reduceAdd, Int.reduceLT, Int.reduceLE, Int.reduceToNat, ↓reduceIte]
    all_goals ((try and_intros) <;> first | exact hall | exact trivial | omega | (show okDraw _ _ = true; kernel_rfl) | assumption)
  have k0 : (p < 0) = False := eq_false g0
  by_cases g1 : (60 : Int) < p
  · have k1 : ((60 : Int) < p) = True := eq_true g1
    simp only [go_sem, d_law6_big, d_exps_Exp, d_ref2_Add, d_ref6_Exp, d_law6_known, d_ref4_Mul, d_ref4_Side, hbig, decide_true, decide_false, Bool.not_true, Bool.not_false, beq_self_eq_true, eq_self, k0, k1, Nat.reduceBEq, Nat.reduceBNe, Nat.reduceLT, Nat.reduceLeDiff, Nat.reduceAdd, Nat.reduceSub, Nat.reduceMul, Nat.reduceEqDiff, Int.reduceNeg, Int.reduceAdd, Int.reduceLT, Int.reduceLE, Int.reduceToNat, ↓reduceIte]
    all_goals ((try and_intros) <;> first | exact hall | exact trivial | omega | (show okDraw _ _ = true; kernel_rfl) | assumption)
  have k1 : ((60 : Int) < p) = False := eq_false g1
  have hdx : x.q.den ≤ 2 ^ 200 := den_le (by omega)
  have hdy : y.q.den ≤ 2 ^ 200 := den_le (by omega)
  have hds : (x.q + y.q).den ≤ 2 ^ 200 := den_sum rx ry
  obtain ⟨r1, r2⟩ := rs_exp p hdx
  obtain ⟨r3, r4⟩ := rs_exp p hdy
  obtain ⟨r5, r6⟩ := rs_exp p hds
  have fx := far_ok x.q
  have fy := far_ok y.q
  have fs := far_ok (x.q + y.q)
  have rsm : rs (x.q + y.q) ≤ 20 := rsb_add rx ry (by omega)
  have zsm : (cr (x.q + y.q)).sz ≤ 20 := by rw [cr_sz]; exact rsm
  have za : (bb (expLo x.q p) (expHi x.q p)).sz ≤ 30 := bb_szK (by assumption) (by assumption)
  have zb : (bb (expLo y.q p) (expHi y.q p)).sz ≤ 30 := bb_szK (by assumption) (by assumption)
  have zc : (bb (expLo (x.q + y.q) p) (expHi (x.q + y.q) p)).sz ≤ 30 := bb_szK (by assumption) (by assumption)
  have m1 := rs_mulLo (a := bb (expLo x.q p) (expHi x.q p)) (b := bb (expLo y.q p) (expHi y.q p)) (K := 30) (by simpa [bb, cr_q] using r1) (by simpa [bb, cr_q] using r2) (by simpa [bb, cr_q] using r3) (by simpa [bb, cr_q] using r4)
  have m2 := rs_mulHi (a := bb (expLo x.q p) (expHi x.q p)) (b := bb (expLo y.q p) (expHi y.q p)) (K := 30) (by simpa [bb, cr_q] using r1) (by simpa [bb, cr_q] using r2) (by simpa [bb, cr_q] using r3) (by simpa [bb, cr_q] using r4)
  have zm := bb_szK m1 m2
  cases hx1 : expOk x.q with
  | false =>
    refine cut_seq fun C hC => ?_
    simp only [go_sem, d_law6_big, d_exps_Exp, d_ref2_Add, d_ref6_Exp, d_law6_known, d_ref4_Mul, d_ref4_Side, hbig, decide_true, decide_false, Bool.not_true, Bool.not_false, beq_self_eq_true, eq_self, k0, k1, fx, fy, fs, hx1, Nat.reduceBEq, Nat.reduceBNe, Nat.reduceLT, Nat.reduceLeDiff, Nat.reduceAdd, Nat.reduceSub, Nat.reduceMul, Nat.reduceEqDiff, Int.reduceNeg, Int.reduceAdd, Int.reduceLT, Int.reduceLE, Int.reduceToNat, ↓reduceIte]
    try and_intros
    all_goals try (first | omega | (show okDraw _ _ = true; kernel_rfl) | exact hall | exact hdx | exact hdy | exact hds | exact Nat.le_trans za (by omega) | exact Nat.le_trans zb (by omega) | exact Nat.le_trans zc (by omega) | exact Nat.le_trans zm (by omega) | exact Nat.le_trans zsm (by omega) | assumption)
    subst hC
    refine cut_seq fun C hC => ?_
    simp only [go_sem, d_law6_big, d_exps_Exp, d_ref2_Add, d_ref6_Exp, d_law6_known, d_ref4_Mul, d_ref4_Side, hbig, decide_true, decide_false, Bool.not_true, Bool.not_false, beq_self_eq_true, eq_self, k0, k1, fx, fy, fs, hx1, Nat.reduceBEq, Nat.reduceBNe, Nat.reduceLT, Nat.reduceLeDiff, Nat.reduceAdd, Nat.reduceSub, Nat.reduceMul, Nat.reduceEqDiff, Int.reduceNeg, Int.reduceAdd, Int.reduceLT, Int.reduceLE, Int.reduceToNat, ↓reduceIte]
    try and_intros
    all_goals try (first | omega | (show okDraw _ _ = true; kernel_rfl) | exact hall | exact hdx | exact hdy | exact hds | exact Nat.le_trans za (by omega) | exact Nat.le_trans zb (by omega) | exact Nat.le_trans zc (by omega) | exact Nat.le_trans zm (by omega) | exact Nat.le_trans zsm (by omega) | assumption)
    subst hC
    refine cut_seq fun C hC => ?_
    simp only [go_sem, d_law6_big, d_exps_Exp, d_ref2_Add, d_ref6_Exp, d_law6_known, d_ref4_Mul, d_ref4_Side, hbig, decide_true, decide_false, Bool.not_true, Bool.not_false, beq_self_eq_true, eq_self, k0, k1, fx, fy, fs, hx1, Nat.reduceBEq, Nat.reduceBNe, Nat.reduceLT, Nat.reduceLeDiff, Nat.reduceAdd, Nat.reduceSub, Nat.reduceMul, Nat.reduceEqDiff, Int.reduceNeg, Int.reduceAdd, Int.reduceLT, Int.reduceLE, Int.reduceToNat, ↓reduceIte]
    try and_intros
    all_goals try (first | omega | (show okDraw _ _ = true; kernel_rfl) | exact hall | exact hdx | exact hdy | exact hds | exact Nat.le_trans za (by omega) | exact Nat.le_trans zb (by omega) | exact Nat.le_trans zc (by omega) | exact Nat.le_trans zm (by omega) | exact Nat.le_trans zsm (by omega) | assumption)
    subst hC
    refine cut_seq fun C hC => ?_
    simp only [go_sem, d_law6_big, d_exps_Exp, d_ref2_Add, d_ref6_Exp, d_law6_known, d_ref4_Mul, d_ref4_Side, hbig, decide_true, decide_false, Bool.not_true, Bool.not_false, beq_self_eq_true, eq_self, k0, k1, fx, fy, fs, hx1, Nat.reduceBEq, Nat.reduceBNe, Nat.reduceLT, Nat.reduceLeDiff, Nat.reduceAdd, Nat.reduceSub, Nat.reduceMul, Nat.reduceEqDiff, Int.reduceNeg, Int.reduceAdd, Int.reduceLT, Int.reduceLE, Int.reduceToNat, ↓reduceIte]
    try and_intros
    all_goals try (first | omega | (show okDraw _ _ = true; kernel_rfl) | exact hall | exact hdx | exact hdy | exact hds | exact Nat.le_trans za (by omega) | exact Nat.le_trans zb (by omega) | exact Nat.le_trans zc (by omega) | exact Nat.le_trans zm (by omega) | exact Nat.le_trans zsm (by omega) | assumption)
    subst hC
    refine cut_seq fun C hC => ?_
    simp only [go_sem, d_law6_big, d_exps_Exp, d_ref2_Add, d_ref6_Exp, d_law6_known, d_ref4_Mul, d_ref4_Side, hbig, decide_true, decide_false, Bool.not_true, Bool.not_false, beq_self_eq_true, eq_self, k0, k1, fx, fy, fs, hx1, Nat.reduceBEq, Nat.reduceBNe, Nat.reduceLT, Nat.reduceLeDiff, Nat.reduceAdd, Nat.reduceSub, Nat.reduceMul, Nat.reduceEqDiff, Int.reduceNeg, Int.reduceAdd, Int.reduceLT, Int.reduceLE, Int.reduceToNat, ↓reduceIte]
    try and_intros
    all_goals try (first | omega | (show okDraw _ _ = true; kernel_rfl) | exact hall | exact hdx | exact hdy | exact hds | exact Nat.le_trans za (by omega) | exact Nat.le_trans zb (by omega) | exact Nat.le_trans zc (by omega) | exact Nat.le_trans zm (by omega) | exact Nat.le_trans zsm (by omega) | assumption)
    subst hC
    simp only [go_sem, d_law6_big, d_exps_Exp, d_ref2_Add, d_ref6_Exp, d_law6_known, d_ref4_Mul, d_ref4_Side, hbig, decide_true, decide_false, Bool.not_true, Bool.not_false, beq_self_eq_true, eq_self, k0, k1, fx, fy, fs, hx1, Nat.reduceBEq, Nat.reduceBNe, Nat.reduceLT, Nat.reduceLeDiff, Nat.reduceAdd, Nat.reduceSub, Nat.reduceMul, Nat.reduceEqDiff, Int.reduceNeg, Int.reduceAdd, Int.reduceLT, Int.reduceLE, Int.reduceToNat, ↓reduceIte]
    all_goals ((try and_intros) <;> first | exact trivial | exact hall | exact hdx | exact hdy | exact hds | exact Nat.le_trans za (by omega) | exact Nat.le_trans zb (by omega) | exact Nat.le_trans zc (by omega) | exact Nat.le_trans zm (by omega) | exact Nat.le_trans zsm (by omega) | omega | (show okDraw _ _ = true; kernel_rfl) | assumption)
  | true =>
    cases hy1 : expOk y.q with
    | false =>
      refine cut_seq fun C hC => ?_
      simp only [go_sem, d_law6_big, d_exps_Exp, d_ref2_Add, d_ref6_Exp, d_law6_known, d_ref4_Mul, d_ref4_Side, hbig, decide_true, decide_false, Bool.not_true, Bool.not_false, beq_self_eq_true, eq_self, k0, k1, fx, fy, fs, hx1, hy1, Nat.reduceBEq, Nat.reduceBNe, Nat.reduceLT, Nat.reduceLeDiff, Nat.reduceAdd, Nat.reduceSub, Nat.reduceMul, Nat.reduceEqDiff, Int.reduceNeg, Int.reduceAdd, Int.reduceLT, Int.reduceLE, Int.reduceToNat, ↓reduceIte]
      try and_intros
      all_goals try (first | omega | (show okDraw _ _ = true; kernel_rfl) | exact hall | exact hdx | exact hdy | exact hds | exact Nat.le_trans za (by omega) | exact Nat.le_trans zb (by omega) | exact Nat.le_trans zc (by omega) | exact Nat.le_trans zm (by omega) | exact Nat.le_trans zsm (by omega) | assumption)
      subst hC
      refine cut_seq fun C hC => ?_
      simp only [go_sem, d_law6_big, d_exps_Exp, d_ref2_Add, d_ref6_Exp, d_law6_known, d_ref4_Mul, d_ref4_Side, hbig, decide_true, decide_false, Bool.not_true, Bool.not_false, beq_self_eq_true, eq_self, k0, k1, fx, fy, fs, hx1, hy1, Nat.reduceBEq, Nat.reduceBNe, Nat.reduceLT, Nat.reduceLeDiff, Nat.reduceAdd, Nat.reduceSub, Nat.reduceMul, Nat.reduceEqDiff, Int.reduceNeg, Int.reduceAdd, Int.reduceLT, Int.reduceLE, Int.reduceToNat, ↓reduceIte]
      try and_intros
      all_goals try (first | omega | (show okDraw _ _ = true; kernel_rfl) | exact hall | exact hdx | exact hdy | exact hds | exact Nat.le_trans za (by omega) | exact Nat.le_trans zb (by omega) | exact Nat.le_trans zc (by omega) | exact Nat.le_trans zm (by omega) | exact Nat.le_trans zsm (by omega) | assumption)
      subst hC
      refine cut_seq fun C hC => ?_
      simp only [go_sem, d_law6_big, d_exps_Exp, d_ref2_Add, d_ref6_Exp, d_law6_known, d_ref4_Mul, d_ref4_Side, hbig, decide_true, decide_false, Bool.not_true, Bool.not_false, beq_self_eq_true, eq_self, k0, k1, fx, fy, fs, hx1, hy1, Nat.reduceBEq, Nat.reduceBNe, Nat.reduceLT, Nat.reduceLeDiff, Nat.reduceAdd, Nat.reduceSub, Nat.reduceMul, Nat.reduceEqDiff, Int.reduceNeg, Int.reduceAdd, Int.reduceLT, Int.reduceLE, Int.reduceToNat, ↓reduceIte]
      try and_intros
      all_goals try (first | omega | (show okDraw _ _ = true; kernel_rfl) | exact hall | exact hdx | exact hdy | exact hds | exact Nat.le_trans za (by omega) | exact Nat.le_trans zb (by omega) | exact Nat.le_trans zc (by omega) | exact Nat.le_trans zm (by omega) | exact Nat.le_trans zsm (by omega) | assumption)
      subst hC
      refine cut_seq fun C hC => ?_
      simp only [go_sem, d_law6_big, d_exps_Exp, d_ref2_Add, d_ref6_Exp, d_law6_known, d_ref4_Mul, d_ref4_Side, hbig, decide_true, decide_false, Bool.not_true, Bool.not_false, beq_self_eq_true, eq_self, k0, k1, fx, fy, fs, hx1, hy1, Nat.reduceBEq, Nat.reduceBNe, Nat.reduceLT, Nat.reduceLeDiff, Nat.reduceAdd, Nat.reduceSub, Nat.reduceMul, Nat.reduceEqDiff, Int.reduceNeg, Int.reduceAdd, Int.reduceLT, Int.reduceLE, Int.reduceToNat, ↓reduceIte]
      try and_intros
      all_goals try (first | omega | (show okDraw _ _ = true; kernel_rfl) | exact hall | exact hdx | exact hdy | exact hds | exact Nat.le_trans za (by omega) | exact Nat.le_trans zb (by omega) | exact Nat.le_trans zc (by omega) | exact Nat.le_trans zm (by omega) | exact Nat.le_trans zsm (by omega) | assumption)
      subst hC
      refine cut_seq fun C hC => ?_
      simp only [go_sem, d_law6_big, d_exps_Exp, d_ref2_Add, d_ref6_Exp, d_law6_known, d_ref4_Mul, d_ref4_Side, hbig, decide_true, decide_false, Bool.not_true, Bool.not_false, beq_self_eq_true, eq_self, k0, k1, fx, fy, fs, hx1, hy1, Nat.reduceBEq, Nat.reduceBNe, Nat.reduceLT, Nat.reduceLeDiff, Nat.reduceAdd, Nat.reduceSub, Nat.reduceMul, Nat.reduceEqDiff, Int.reduceNeg, Int.reduceAdd, Int.reduceLT, Int.reduceLE, Int.reduceToNat, ↓reduceIte]
      try and_intros
      all_goals try (first | omega | (show okDraw _ _ = true; kernel_rfl) | exact hall | exact hdx | exact hdy | exact hds | exact Nat.le_trans za (by omega) | exact Nat.le_trans zb (by omega) | exact Nat.le_trans zc (by omega) | exact Nat.le_trans zm (by omega) | exact Nat.le_trans zsm (by omega) | assumption)
      subst hC
      simp only [go_sem, d_law6_big, d_exps_Exp, d_ref2_Add, d_ref6_Exp, d_law6_known, d_ref4_Mul, d_ref4_Side, hbig, decide_true, decide_false, Bool.not_true, Bool.not_false, beq_self_eq_true, eq_self, k0, k1, fx, fy, fs, hx1, hy1, Nat.reduceBEq, Nat.reduceBNe, Nat.reduceLT, Nat.reduceLeDiff, Nat.reduceAdd, Nat.reduceSub, Nat.reduceMul, Nat.reduceEqDiff, Int.reduceNeg, Int.reduceAdd, Int.reduceLT, Int.reduceLE, Int.reduceToNat, ↓reduceIte]
      all_goals ((try and_intros) <;> first | exact trivial | exact hall | exact hdx | exact hdy | exact hds | exact Nat.le_trans za (by omega) | exact Nat.le_trans zb (by omega) | exact Nat.le_trans zc (by omega) | exact Nat.le_trans zm (by omega) | exact Nat.le_trans zsm (by omega) | omega | (show okDraw _ _ = true; kernel_rfl) | assumption)
    | true =>
      cases hs1 : expOk (x.q + y.q) with
      | false =>
        refine cut_seq fun C hC => ?_
        simp only [go_sem, d_law6_big, d_exps_Exp, d_ref2_Add, d_ref6_Exp, d_law6_known, d_ref4_Mul, d_ref4_Side, hbig, decide_true, decide_false, Bool.not_true, Bool.not_false, beq_self_eq_true, eq_self, k0, k1, fx, fy, fs, hx1, hy1, hs1, Nat.reduceBEq, Nat.reduceBNe, Nat.reduceLT, Nat.reduceLeDiff, Nat.reduceAdd, Nat.reduceSub, Nat.reduceMul, Nat.reduceEqDiff, Int.reduceNeg, Int.reduceAdd, Int.reduceLT, Int.reduceLE, Int.reduceToNat, ↓reduceIte]
        try and_intros
        all_goals try (first | omega | (show okDraw _ _ = true; kernel_rfl) | exact hall | exact hdx | exact hdy | exact hds | exact Nat.le_trans za (by omega) | exact Nat.le_trans zb (by omega) | exact Nat.le_trans zc (by omega) | exact Nat.le_trans zm (by omega) | exact Nat.le_trans zsm (by omega) | assumption)
        subst hC
        refine cut_seq fun C hC => ?_
        simp only [go_sem, d_law6_big, d_exps_Exp, d_ref2_Add, d_ref6_Exp, d_law6_known, d_ref4_Mul, d_ref4_Side, hbig, decide_true, decide_false, Bool.not_true, Bool.not_false, beq_self_eq_true, eq_self, k0, k1, fx, fy, fs, hx1, hy1, hs1, Nat.reduceBEq, Nat.reduceBNe, Nat.reduceLT, Nat.reduceLeDiff, Nat.reduceAdd, Nat.reduceSub, Nat.reduceMul, Nat.reduceEqDiff, Int.reduceNeg, Int.reduceAdd, Int.reduceLT, Int.reduceLE, Int.reduceToNat, ↓reduceIte]
        try and_intros
        all_goals try (first | omega | (show okDraw _ _ = true; kernel_rfl) | exact hall | exact hdx | exact hdy | exact hds | exact Nat.le_trans za (by omega) | exact Nat.le_trans zb (by omega) | exact Nat.le_trans zc (by omega) | exact Nat.le_trans zm (by omega) | exact Nat.le_trans zsm (by omega) | assumption)
        subst hC
        refine cut_seq fun C hC => ?_
        simp only [go_sem, d_law6_big, d_exps_Exp, d_ref2_Add, d_ref6_Exp, d_law6_known, d_ref4_Mul, d_ref4_Side, hbig, decide_true, decide_false, Bool.not_true, Bool.not_false, beq_self_eq_true, eq_self, k0, k1, fx, fy, fs, hx1, hy1, hs1, Nat.reduceBEq, Nat.reduceBNe, Nat.reduceLT, Nat.reduceLeDiff, Nat.reduceAdd, Nat.reduceSub, Nat.reduceMul, Nat.reduceEqDiff, Int.reduceNeg, Int.reduceAdd, Int.reduceLT, Int.reduceLE, Int.reduceToNat, ↓reduceIte]
        try and_intros
        all_goals try (first | omega | (show okDraw _ _ = true; kernel_rfl) | exact hall | exact hdx | exact hdy | exact hds | exact Nat.le_trans za (by omega) | exact Nat.le_trans zb (by omega) | exact Nat.le_trans zc (by omega) | exact Nat.le_trans zm (by omega) | exact Nat.le_trans zsm (by omega) | assumption)
        subst hC
        refine cut_seq fun C hC => ?_
        simp only [go_sem, d_law6_big, d_exps_Exp, d_ref2_Add, d_ref6_Exp, d_law6_known, d_ref4_Mul, d_ref4_Side, hbig, decide_true, decide_false, Bool.not_true, Bool.not_false, beq_self_eq_true, eq_self, k0, k1, fx, fy, fs, hx1, hy1, hs1, Nat.reduceBEq, Nat.reduceBNe, Nat.reduceLT, Nat.reduceLeDiff, Nat.reduceAdd, Nat.reduceSub, Nat.reduceMul, Nat.reduceEqDiff, Int.reduceNeg, Int.reduceAdd, Int.reduceLT, Int.reduceLE, Int.reduceToNat, ↓reduceIte]
        try and_intros
        all_goals try (first | omega | (show okDraw _ _ = true; kernel_rfl) | exact hall | exact hdx | exact hdy | exact hds | exact Nat.le_trans za (by omega) | exact Nat.le_trans zb (by omega) | exact Nat.le_trans zc (by omega) | exact Nat.le_trans zm (by omega) | exact Nat.le_trans zsm (by omega) | assumption)
        subst hC
        refine cut_seq fun C hC => ?_
        simp only [go_sem, d_law6_big, d_exps_Exp, d_ref2_Add, d_ref6_Exp, d_law6_known, d_ref4_Mul, d_ref4_Side, hbig, decide_true, decide_false, Bool.not_true, Bool.not_false, beq_self_eq_true, eq_self, k0, k1, fx, fy, fs, hx1, hy1, hs1, Nat.reduceBEq, Nat.reduceBNe, Nat.reduceLT, Nat.reduceLeDiff, Nat.reduceAdd, Nat.reduceSub, Nat.reduceMul, Nat.reduceEqDiff, Int.reduceNeg, Int.reduceAdd, Int.reduceLT, Int.reduceLE, Int.reduceToNat, ↓reduceIte]
        try and_intros
        all_goals try (first | omega | (show okDraw _ _ = true; kernel_rfl) | exact hall | exact hdx | exact hdy | exact hds | exact Nat.le_trans za (by omega) | exact Nat.le_trans zb (by omega) | exact Nat.le_trans zc (by omega) | exact Nat.le_trans zm (by omega) | exact Nat.le_trans zsm (by omega) | assumption)
        subst hC
        simp only [go_sem, d_law6_big, d_exps_Exp, d_ref2_Add, d_ref6_Exp, d_law6_known, d_ref4_Mul, d_ref4_Side, hbig, decide_true, decide_false, Bool.not_true, Bool.not_false, beq_self_eq_true, eq_self, k0, k1, fx, fy, fs, hx1, hy1, hs1, Nat.reduceBEq, Nat.reduceBNe, Nat.reduceLT, Nat.reduceLeDiff, Nat.reduceAdd, Nat.reduceSub, Nat.reduceMul, Nat.reduceEqDiff, Int.reduceNeg, Int.reduceAdd, Int.reduceLT, Int.reduceLE, Int.reduceToNat, ↓reduceIte]
        all_goals ((try and_intros) <;> first | exact trivial | exact hall | exact hdx | exact hdy | exact hds | exact Nat.le_trans za (by omega) | exact Nat.le_trans zb (by omega) | exact Nat.le_trans zc (by omega) | exact Nat.le_trans zm (by omega) | exact Nat.le_trans zsm (by omega) | omega | (show okDraw _ _ = true; kernel_rfl) | assumption)
      | true =>
        obtain ⟨w1, w2⟩ := exp_meet p hx1 hy1 hs1 hdx hdy hds
        have hsd : sideI (bb (mulLo (bb (expLo x.q p) (expHi x.q p)) (bb (expLo y.q p) (expHi y.q p))) (mulHi (bb (expLo x.q p) (expHi x.q p)) (bb (expLo y.q p) (expHi y.q p)))) (bb (expLo (x.q + y.q) p) (expHi (x.q + y.q) p)) = 0 := by
          unfold sideI
          simp only [bb, cr_q] at w1 w2 ⊢
          rw [if_neg w1, if_neg w2]
        simp only [bb] at hsd
        refine cut_seq fun C hC => ?_
        simp only [go_sem, d_law6_big, d_exps_Exp, d_ref2_Add, d_ref6_Exp, d_law6_known, d_ref4_Mul, d_ref4_Side, hbig, decide_true, decide_false, Bool.not_true, Bool.not_false, beq_self_eq_true, eq_self, k0, k1, fx, fy, fs, hx1, hy1, hs1, hsd, Nat.reduceBEq, Nat.reduceBNe, Nat.reduceLT, Nat.reduceLeDiff, Nat.reduceAdd, Nat.reduceSub, Nat.reduceMul, Nat.reduceEqDiff, Int.reduceNeg, Int.reduceAdd, Int.reduceLT, Int.reduceLE, Int.reduceToNat, ↓reduceIte]
        try and_intros
        all_goals try (first | omega | (show okDraw _ _ = true; kernel_rfl) | exact hall | exact hdx | exact hdy | exact hds | exact Nat.le_trans za (by omega) | exact Nat.le_trans zb (by omega) | exact Nat.le_trans zc (by omega) | exact Nat.le_trans zm (by omega) | exact Nat.le_trans zsm (by omega) | assumption)
        subst hC
        refine cut_seq fun C hC => ?_
        simp only [go_sem, d_law6_big, d_exps_Exp, d_ref2_Add, d_ref6_Exp, d_law6_known, d_ref4_Mul, d_ref4_Side, hbig, decide_true, decide_false, Bool.not_true, Bool.not_false, beq_self_eq_true, eq_self, k0, k1, fx, fy, fs, hx1, hy1, hs1, hsd, Nat.reduceBEq, Nat.reduceBNe, Nat.reduceLT, Nat.reduceLeDiff, Nat.reduceAdd, Nat.reduceSub, Nat.reduceMul, Nat.reduceEqDiff, Int.reduceNeg, Int.reduceAdd, Int.reduceLT, Int.reduceLE, Int.reduceToNat, ↓reduceIte]
        try and_intros
        all_goals try (first | omega | (show okDraw _ _ = true; kernel_rfl) | exact hall | exact hdx | exact hdy | exact hds | exact Nat.le_trans za (by omega) | exact Nat.le_trans zb (by omega) | exact Nat.le_trans zc (by omega) | exact Nat.le_trans zm (by omega) | exact Nat.le_trans zsm (by omega) | assumption)
        subst hC
        refine cut_seq fun C hC => ?_
        simp only [go_sem, d_law6_big, d_exps_Exp, d_ref2_Add, d_ref6_Exp, d_law6_known, d_ref4_Mul, d_ref4_Side, hbig, decide_true, decide_false, Bool.not_true, Bool.not_false, beq_self_eq_true, eq_self, k0, k1, fx, fy, fs, hx1, hy1, hs1, hsd, Nat.reduceBEq, Nat.reduceBNe, Nat.reduceLT, Nat.reduceLeDiff, Nat.reduceAdd, Nat.reduceSub, Nat.reduceMul, Nat.reduceEqDiff, Int.reduceNeg, Int.reduceAdd, Int.reduceLT, Int.reduceLE, Int.reduceToNat, ↓reduceIte]
        try and_intros
        all_goals try (first | omega | (show okDraw _ _ = true; kernel_rfl) | exact hall | exact hdx | exact hdy | exact hds | exact Nat.le_trans za (by omega) | exact Nat.le_trans zb (by omega) | exact Nat.le_trans zc (by omega) | exact Nat.le_trans zm (by omega) | exact Nat.le_trans zsm (by omega) | assumption)
        subst hC
        refine cut_seq fun C hC => ?_
        simp only [go_sem, d_law6_big, d_exps_Exp, d_ref2_Add, d_ref6_Exp, d_law6_known, d_ref4_Mul, d_ref4_Side, hbig, decide_true, decide_false, Bool.not_true, Bool.not_false, beq_self_eq_true, eq_self, k0, k1, fx, fy, fs, hx1, hy1, hs1, hsd, Nat.reduceBEq, Nat.reduceBNe, Nat.reduceLT, Nat.reduceLeDiff, Nat.reduceAdd, Nat.reduceSub, Nat.reduceMul, Nat.reduceEqDiff, Int.reduceNeg, Int.reduceAdd, Int.reduceLT, Int.reduceLE, Int.reduceToNat, ↓reduceIte]
        try and_intros
        all_goals try (first | omega | (show okDraw _ _ = true; kernel_rfl) | exact hall | exact hdx | exact hdy | exact hds | exact Nat.le_trans za (by omega) | exact Nat.le_trans zb (by omega) | exact Nat.le_trans zc (by omega) | exact Nat.le_trans zm (by omega) | exact Nat.le_trans zsm (by omega) | assumption)
        subst hC
        simp only [go_sem, d_law6_big, d_exps_Exp, d_ref2_Add, d_ref6_Exp, d_law6_known, d_ref4_Mul, d_ref4_Side, hbig, decide_true, decide_false, Bool.not_true, Bool.not_false, beq_self_eq_true, eq_self, k0, k1, fx, fy, fs, hx1, hy1, hs1, hsd, Nat.reduceBEq, Nat.reduceBNe, Nat.reduceLT, Nat.reduceLeDiff, Nat.reduceAdd, Nat.reduceSub, Nat.reduceMul, Nat.reduceEqDiff, Int.reduceNeg, Int.reduceAdd, Int.reduceLT, Int.reduceLE, Int.reduceToNat, ↓reduceIte]
        all_goals ((try and_intros) <;> first | exact trivial | exact hall | exact hdx | exact hdy | exact hds | exact Nat.le_trans za (by omega) | exact Nat.le_trans zb (by omega) | exact Nat.le_trans zc (by omega) | exact Nat.le_trans zm (by omega) | exact Nat.le_trans zsm (by omega) | omega | (show okDraw _ _ = true; kernel_rfl) | assumption)

end Go.Proofs.YtjfaefgabaimaaaGreat
