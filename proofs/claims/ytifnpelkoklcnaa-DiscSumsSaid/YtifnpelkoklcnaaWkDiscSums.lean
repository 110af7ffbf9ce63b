/- The law DiscSums. Condition: rows shorter than 10^14. -/
import Derived.Test.YtifnpelkoklcnaaHj
import Derived.Test.YtifnpelkoklcnaaBj
namespace Go.Proofs.Ytifnpelkoklcnaa
open Go.RowKit
set_option linter.unusedSimpArgs false
set_option linter.unusedVariables false
def d_law13_DiscSums : Den := den5 aInt aInt aRat aRat aInt (fun n k x y w => x.sz ≤ 100000000000000 ∧ y.sz ≤ 100000000000000) fun n k x y w => boolV true
set_option maxRecDepth 100000 in
set_option maxHeartbeats 8000000 in
theorem s_law13_DiscSums : Sound Try.prog 9 d_law13_DiscSums := by
  refine sound5 (fz := nofz) (l := [(45, d_law13_long), (46, d_disc_BinomCdf), (47, d_disc_Binom), (49, d_ref2_Add), (48, d_ref2_Same), (50, d_disc_PoisCdf), (51, d_disc_Pois), (31, d_ref4_Add), (29, d_ref4_Side), (52, d_law13_known)]) TT_ok ⟨s_law13_long, s_disc_BinomCdf, s_disc_Binom, s_ref2_Add, s_ref2_Same, s_disc_PoisCdf, s_disc_Pois, s_ref4_Add, s_ref4_Side, s_law13_known, trivial⟩ mixed Try.func9 Try.ntmps9 Try.results9 Try.call9 rfl (by omega) (fun _ _ _ _ _ => rfl) ?_
  intro n k x y w hp hn hk hx hy hw
  rw [codeK_start]
  obtain ⟨hp1, hp2⟩ := hp
  by_cases lx : longR x = true
  · skip
    simp only [go_sem, d_law13_long, d_disc_BinomCdf, d_disc_Binom, d_ref2_Add, d_ref2_Same, d_disc_PoisCdf, d_disc_Pois, d_ref4_Add, d_ref4_Side, d_law13_known, int0, int1, decide_true, decide_false, Bool.not_true, Bool.not_false, beq_self_eq_true, eq_self, lx, Nat.reduceBEq, Nat.reduceBNe, Nat.reduceLT, Nat.reduceLeDiff, Nat.reduceAdd, Nat.reduceSub, Nat.reduceMul, Nat.reduceEqDiff, Int.reduceNeg, Int.reduceAdd, Int.reduceLT, Int.reduceLE, Int.reduceToNat, ↓reduceIte]
    try ((try and_intros) <;> first | exact trivial | omega | (show okDraw _ _ = true; kernel_rfl) | assumption)
  rw [Bool.not_eq_true] at lx
  have sx : x.sz ≤ 1 := not_long lx
  have sx2 : x.sz ≤ 1000 := by omega
  have rx : rs x.q ≤ 1 := rs_ok hx sx (by omega)
  by_cases ly : longR y = true
  · skip
    simp only [go_sem, d_law13_long, d_disc_BinomCdf, d_disc_Binom, d_ref2_Add, d_ref2_Same, d_disc_PoisCdf, d_disc_Pois, d_ref4_Add, d_ref4_Side, d_law13_known, int0, int1, decide_true, decide_false, Bool.not_true, Bool.not_false, beq_self_eq_true, eq_self, lx, ly, Nat.reduceBEq, Nat.reduceBNe, Nat.reduceLT, Nat.reduceLeDiff, Nat.reduceAdd, Nat.reduceSub, Nat.reduceMul, Nat.reduceEqDiff, Int.reduceNeg, Int.reduceAdd, Int.reduceLT, Int.reduceLE, Int.reduceToNat, ↓reduceIte]
    try ((try and_intros) <;> first | exact trivial | omega | (show okDraw _ _ = true; kernel_rfl) | assumption)
  rw [Bool.not_eq_true] at ly
  have sy : y.sz ≤ 1 := not_long ly
  have sy2 : y.sz ≤ 1000 := by omega
  have ry : rs y.q ≤ 1 := rs_ok hy sy (by omega)
  by_cases g0 : n < 0
  · have g0t : (n < 0) = True := eq_true g0
    simp only [go_sem, d_law13_long, d_disc_BinomCdf, d_disc_Binom, d_ref2_Add, d_ref2_Same, d_disc_PoisCdf, d_disc_Pois, d_ref4_Add, d_ref4_Side, d_law13_known, int0, int1, decide_true, decide_false, Bool.not_true, Bool.not_false, beq_self_eq_true, eq_self, lx, ly, g0t, Nat.reduceBEq, Nat.reduceBNe, Nat.reduceLT, Nat.reduceLeDiff, Nat.reduceAdd, Nat.reduceSub, Nat.reduceMul, Nat.reduceEqDiff, Int.reduceNeg, Int.reduceAdd, Int.reduceLT, Int.reduceLE, Int.reduceToNat, ↓reduceIte]
    try ((try and_intros) <;> first | exact trivial | omega | (show okDraw _ _ = true; kernel_rfl) | assumption)
  have g0f : (n < 0) = False := eq_false g0
  by_cases g1 : (10 : Int) < n
  · have g1t : ((10 : Int) < n) = True := eq_true g1
    simp only [go_sem, d_law13_long, d_disc_BinomCdf, d_disc_Binom, d_ref2_Add, d_ref2_Same, d_disc_PoisCdf, d_disc_Pois, d_ref4_Add, d_ref4_Side, d_law13_known, int0, int1, decide_true, decide_false, Bool.not_true, Bool.not_false, beq_self_eq_true, eq_self, lx, ly, g0f, g1t, Nat.reduceBEq, Nat.reduceBNe, Nat.reduceLT, Nat.reduceLeDiff, Nat.reduceAdd, Nat.reduceSub, Nat.reduceMul, Nat.reduceEqDiff, Int.reduceNeg, Int.reduceAdd, Int.reduceLT, Int.reduceLE, Int.reduceToNat, ↓reduceIte]
    try ((try and_intros) <;> first | exact trivial | omega | (show okDraw _ _ = true; kernel_rfl) | assumption)
  have g1f : ((10 : Int) < n) = False := eq_false g1
  by_cases g2 : k < 0
  · have g2t : (k < 0) = True := eq_true g2
    simp only [go_sem, d_law13_long, d_disc_BinomCdf, d_disc_Binom, d_ref2_Add, d_ref2_Same, d_disc_PoisCdf, d_disc_Pois, d_ref4_Add, d_ref4_Side, d_law13_known, int0, int1, decide_true, decide_false, Bool.not_true, Bool.not_false, beq_self_eq_true, eq_self, lx, ly, g0f, g1f, g2t, Nat.reduceBEq, Nat.reduceBNe, Nat.reduceLT, Nat.reduceLeDiff, Nat.reduceAdd, Nat.reduceSub, Nat.reduceMul, Nat.reduceEqDiff, Int.reduceNeg, Int.reduceAdd, Int.reduceLT, Int.reduceLE, Int.reduceToNat, ↓reduceIte]
    try ((try and_intros) <;> first | exact trivial | omega | (show okDraw _ _ = true; kernel_rfl) | assumption)
  have g2f : (k < 0) = False := eq_false g2
  by_cases g3 : (40 : Int) < k
  · have g3t : ((40 : Int) < k) = True := eq_true g3
    simp only [go_sem, d_law13_long, d_disc_BinomCdf, d_disc_Binom, d_ref2_Add, d_ref2_Same, d_disc_PoisCdf, d_disc_Pois, d_ref4_Add, d_ref4_Side, d_law13_known, int0, int1, decide_true, decide_false, Bool.not_true, Bool.not_false, beq_self_eq_true, eq_self, lx, ly, g0f, g1f, g2f, g3t, Nat.reduceBEq, Nat.reduceBNe, Nat.reduceLT, Nat.reduceLeDiff, Nat.reduceAdd, Nat.reduceSub, Nat.reduceMul, Nat.reduceEqDiff, Int.reduceNeg, Int.reduceAdd, Int.reduceLT, Int.reduceLE, Int.reduceToNat, ↓reduceIte]
    try ((try and_intros) <;> first | exact trivial | omega | (show okDraw _ _ = true; kernel_rfl) | assumption)
  have g3f : ((40 : Int) < k) = False := eq_false g3
  by_cases g4 : w < 0
  · have g4t : (w < 0) = True := eq_true g4
    simp only [go_sem, d_law13_long, d_disc_BinomCdf, d_disc_Binom, d_ref2_Add, d_ref2_Same, d_disc_PoisCdf, d_disc_Pois, d_ref4_Add, d_ref4_Side, d_law13_known, int0, int1, decide_true, decide_false, Bool.not_true, Bool.not_false, beq_self_eq_true, eq_self, lx, ly, g0f, g1f, g2f, g3f, g4t, Nat.reduceBEq, Nat.reduceBNe, Nat.reduceLT, Nat.reduceLeDiff, Nat.reduceAdd, Nat.reduceSub, Nat.reduceMul, Nat.reduceEqDiff, Int.reduceNeg, Int.reduceAdd, Int.reduceLT, Int.reduceLE, Int.reduceToNat, ↓reduceIte]
    try ((try and_intros) <;> first | exact trivial | omega | (show okDraw _ _ = true; kernel_rfl) | assumption)
  have g4f : (w < 0) = False := eq_false g4
  by_cases g5 : (60 : Int) < w
  · have g5t : ((60 : Int) < w) = True := eq_true g5
    simp only [go_sem, d_law13_long, d_disc_BinomCdf, d_disc_Binom, d_ref2_Add, d_ref2_Same, d_disc_PoisCdf, d_disc_Pois, d_ref4_Add, d_ref4_Side, d_law13_known, int0, int1, decide_true, decide_false, Bool.not_true, Bool.not_false, beq_self_eq_true, eq_self, lx, ly, g0f, g1f, g2f, g3f, g4f, g5t, Nat.reduceBEq, Nat.reduceBNe, Nat.reduceLT, Nat.reduceLeDiff, Nat.reduceAdd, Nat.reduceSub, Nat.reduceMul, Nat.reduceEqDiff, Int.reduceNeg, Int.reduceAdd, Int.reduceLT, Int.reduceLE, Int.reduceToNat, ↓reduceIte]
    try ((try and_intros) <;> first | exact trivial | omega | (show okDraw _ _ = true; kernel_rfl) | assumption)
  have g5f : ((60 : Int) < w) = False := eq_false g5
  have z1 := rs_bQ hx sx2 n k
  have z2 := rs_cQ hx sx2 n k
  have z3 := rs_cQ hx sx2 n (k - 1)
  have hd := den_small hy sy
  have z4 := rs_add (cQ n (k - 1) x.q) (bQ n k x.q)
  by_cases ht : tryB n x.q = true
  · have m1 : decide (cQ n k x.q = cQ n (k - 1) x.q + bQ n k x.q) = true := decide_eq_true (cQ_next ht (by omega))
    have m2 : (cQ n k x.q = cQ n (k - 1) x.q + bQ n k x.q) = True := eq_true (cQ_next ht (by omega))
    by_cases ho : tOk y.q = true
    · have b1 := tB_sz true (k := k) (p := w) (by omega) ho hd
      have b2 := tB_sz true (k := k - 1) (p := w) (by omega) ho hd
      have b3 := tB_sz false (k := k) (p := w) (by omega) ho hd
      have m := pois_meet (p := w) (k := k) ho (by omega) hd
      refine cut_seq fun C hC => ?_
      simp only [go_sem, d_law13_long, d_disc_BinomCdf, d_disc_Binom, d_ref2_Add, d_ref2_Same, d_disc_PoisCdf, d_disc_Pois, d_ref4_Add, d_ref4_Side, d_law13_known, int0, int1, decide_true, decide_false, Bool.not_true, Bool.not_false, beq_self_eq_true, eq_self, lx, ly, g0f, g1f, g2f, g3f, g4f, g5f, ht, m1, m2, ho, Nat.reduceBEq, Nat.reduceBNe, Nat.reduceLT, Nat.reduceLeDiff, Nat.reduceAdd, Nat.reduceSub, Nat.reduceMul, Nat.reduceEqDiff, Int.reduceNeg, Int.reduceAdd, Int.reduceLT, Int.reduceLE, Int.reduceToNat, ↓reduceIte]
      try and_intros
      all_goals try (first | omega | (show okDraw _ _ = true; kernel_rfl) | assumption)
      subst hC
      refine cut_seq fun C hC => ?_
      simp only [go_sem, d_law13_long, d_disc_BinomCdf, d_disc_Binom, d_ref2_Add, d_ref2_Same, d_disc_PoisCdf, d_disc_Pois, d_ref4_Add, d_ref4_Side, d_law13_known, int0, int1, decide_true, decide_false, Bool.not_true, Bool.not_false, beq_self_eq_true, eq_self, lx, ly, g0f, g1f, g2f, g3f, g4f, g5f, ht, m1, m2, ho, Nat.reduceBEq, Nat.reduceBNe, Nat.reduceLT, Nat.reduceLeDiff, Nat.reduceAdd, Nat.reduceSub, Nat.reduceMul, Nat.reduceEqDiff, Int.reduceNeg, Int.reduceAdd, Int.reduceLT, Int.reduceLE, Int.reduceToNat, ↓reduceIte]
      try and_intros
      all_goals try (first | omega | (show okDraw _ _ = true; kernel_rfl) | assumption)
      subst hC
      refine cut_seq fun C hC => ?_
      simp only [go_sem, d_law13_long, d_disc_BinomCdf, d_disc_Binom, d_ref2_Add, d_ref2_Same, d_disc_PoisCdf, d_disc_Pois, d_ref4_Add, d_ref4_Side, d_law13_known, int0, int1, decide_true, decide_false, Bool.not_true, Bool.not_false, beq_self_eq_true, eq_self, lx, ly, g0f, g1f, g2f, g3f, g4f, g5f, ht, m1, m2, ho, Nat.reduceBEq, Nat.reduceBNe, Nat.reduceLT, Nat.reduceLeDiff, Nat.reduceAdd, Nat.reduceSub, Nat.reduceMul, Nat.reduceEqDiff, Int.reduceNeg, Int.reduceAdd, Int.reduceLT, Int.reduceLE, Int.reduceToNat, ↓reduceIte]
      try and_intros
      all_goals try (first | omega | (show okDraw _ _ = true; kernel_rfl) | assumption)
      subst hC
      simp only [go_sem, d_law13_long, d_disc_BinomCdf, d_disc_Binom, d_ref2_Add, d_ref2_Same, d_disc_PoisCdf, d_disc_Pois, d_ref4_Add, d_ref4_Side, d_law13_known, int0, int1, decide_true, decide_false, Bool.not_true, Bool.not_false, beq_self_eq_true, eq_self, lx, ly, g0f, g1f, g2f, g3f, g4f, g5f, ht, m1, m2, ho, Nat.reduceBEq, Nat.reduceBNe, Nat.reduceLT, Nat.reduceLeDiff, Nat.reduceAdd, Nat.reduceSub, Nat.reduceMul, Nat.reduceEqDiff, Int.reduceNeg, Int.reduceAdd, Int.reduceLT, Int.reduceLE, Int.reduceToNat, ↓reduceIte]
      obtain ⟨u1, u2⟩ := tB_rs true (k := k - 1) (p := w) (by omega) ho hd
      obtain ⟨u3, u4⟩ := tB_rs false (k := k) (p := w) (by omega) ho hd
      have v1 := rs_add (tB true (k - 1) y.q w).lo.q (tB false k y.q w).lo.q
      have v2 := rs_add (tB true (k - 1) y.q w).hi.q (tB false k y.q w).hi.q
      simp only [bb] at m
      rw [if_pos m]
      and_intros
      all_goals first | omega | exact hd | (show okDraw _ _ = true; kernel_rfl) | exact Nat.max_le.2 ⟨by rw [cr_sz]; omega, by rw [cr_sz]; omega⟩
    have hof : tOk y.q = false := by simpa using ho
    refine cut_seq fun C hC => ?_
    simp only [go_sem, d_law13_long, d_disc_BinomCdf, d_disc_Binom, d_ref2_Add, d_ref2_Same, d_disc_PoisCdf, d_disc_Pois, d_ref4_Add, d_ref4_Side, d_law13_known, int0, int1, decide_true, decide_false, Bool.not_true, Bool.not_false, beq_self_eq_true, eq_self, lx, ly, g0f, g1f, g2f, g3f, g4f, g5f, ht, m1, m2, hof, Nat.reduceBEq, Nat.reduceBNe, Nat.reduceLT, Nat.reduceLeDiff, Nat.reduceAdd, Nat.reduceSub, Nat.reduceMul, Nat.reduceEqDiff, Int.reduceNeg, Int.reduceAdd, Int.reduceLT, Int.reduceLE, Int.reduceToNat, ↓reduceIte]
    try and_intros
    all_goals try (first | omega | (show okDraw _ _ = true; kernel_rfl) | assumption)
    subst hC
    refine cut_seq fun C hC => ?_
    simp only [go_sem, d_law13_long, d_disc_BinomCdf, d_disc_Binom, d_ref2_Add, d_ref2_Same, d_disc_PoisCdf, d_disc_Pois, d_ref4_Add, d_ref4_Side, d_law13_known, int0, int1, decide_true, decide_false, Bool.not_true, Bool.not_false, beq_self_eq_true, eq_self, lx, ly, g0f, g1f, g2f, g3f, g4f, g5f, ht, m1, m2, hof, Nat.reduceBEq, Nat.reduceBNe, Nat.reduceLT, Nat.reduceLeDiff, Nat.reduceAdd, Nat.reduceSub, Nat.reduceMul, Nat.reduceEqDiff, Int.reduceNeg, Int.reduceAdd, Int.reduceLT, Int.reduceLE, Int.reduceToNat, ↓reduceIte]
    try and_intros
    all_goals try (first | omega | (show okDraw _ _ = true; kernel_rfl) | assumption)
    subst hC
    refine cut_seq fun C hC => ?_
    simp only [go_sem, d_law13_long, d_disc_BinomCdf, d_disc_Binom, d_ref2_Add, d_ref2_Same, d_disc_PoisCdf, d_disc_Pois, d_ref4_Add, d_ref4_Side, d_law13_known, int0, int1, decide_true, decide_false, Bool.not_true, Bool.not_false, beq_self_eq_true, eq_self, lx, ly, g0f, g1f, g2f, g3f, g4f, g5f, ht, m1, m2, hof, Nat.reduceBEq, Nat.reduceBNe, Nat.reduceLT, Nat.reduceLeDiff, Nat.reduceAdd, Nat.reduceSub, Nat.reduceMul, Nat.reduceEqDiff, Int.reduceNeg, Int.reduceAdd, Int.reduceLT, Int.reduceLE, Int.reduceToNat, ↓reduceIte]
    try and_intros
    all_goals try (first | omega | (show okDraw _ _ = true; kernel_rfl) | assumption)
    subst hC
    simp only [go_sem, d_law13_long, d_disc_BinomCdf, d_disc_Binom, d_ref2_Add, d_ref2_Same, d_disc_PoisCdf, d_disc_Pois, d_ref4_Add, d_ref4_Side, d_law13_known, int0, int1, decide_true, decide_false, Bool.not_true, Bool.not_false, beq_self_eq_true, eq_self, lx, ly, g0f, g1f, g2f, g3f, g4f, g5f, ht, m1, m2, hof, Nat.reduceBEq, Nat.reduceBNe, Nat.reduceLT, Nat.reduceLeDiff, Nat.reduceAdd, Nat.reduceSub, Nat.reduceMul, Nat.reduceEqDiff, Int.reduceNeg, Int.reduceAdd, Int.reduceLT, Int.reduceLE, Int.reduceToNat, ↓reduceIte]
    and_intros
    all_goals first | omega | exact hd | (show okDraw _ _ = true; kernel_rfl)
  have htf : tryB n x.q = false := by simpa using ht
  by_cases ho : tOk y.q = true
  · have b1 := tB_sz true (k := k) (p := w) (by omega) ho hd
    have b2 := tB_sz true (k := k - 1) (p := w) (by omega) ho hd
    have b3 := tB_sz false (k := k) (p := w) (by omega) ho hd
    have m := pois_meet (p := w) (k := k) ho (by omega) hd
    refine cut_seq fun C hC => ?_
    simp only [go_sem, d_law13_long, d_disc_BinomCdf, d_disc_Binom, d_ref2_Add, d_ref2_Same, d_disc_PoisCdf, d_disc_Pois, d_ref4_Add, d_ref4_Side, d_law13_known, int0, int1, decide_true, decide_false, Bool.not_true, Bool.not_false, beq_self_eq_true, eq_self, lx, ly, g0f, g1f, g2f, g3f, g4f, g5f, htf, ho, Nat.reduceBEq, Nat.reduceBNe, Nat.reduceLT, Nat.reduceLeDiff, Nat.reduceAdd, Nat.reduceSub, Nat.reduceMul, Nat.reduceEqDiff, Int.reduceNeg, Int.reduceAdd, Int.reduceLT, Int.reduceLE, Int.reduceToNat, ↓reduceIte]
    try and_intros
    all_goals try (first | omega | (show okDraw _ _ = true; kernel_rfl) | assumption)
    subst hC
    refine cut_seq fun C hC => ?_
    simp only [go_sem, d_law13_long, d_disc_BinomCdf, d_disc_Binom, d_ref2_Add, d_ref2_Same, d_disc_PoisCdf, d_disc_Pois, d_ref4_Add, d_ref4_Side, d_law13_known, int0, int1, decide_true, decide_false, Bool.not_true, Bool.not_false, beq_self_eq_true, eq_self, lx, ly, g0f, g1f, g2f, g3f, g4f, g5f, htf, ho, Nat.reduceBEq, Nat.reduceBNe, Nat.reduceLT, Nat.reduceLeDiff, Nat.reduceAdd, Nat.reduceSub, Nat.reduceMul, Nat.reduceEqDiff, Int.reduceNeg, Int.reduceAdd, Int.reduceLT, Int.reduceLE, Int.reduceToNat, ↓reduceIte]
    try and_intros
    all_goals try (first | omega | (show okDraw _ _ = true; kernel_rfl) | assumption)
    subst hC
    refine cut_seq fun C hC => ?_
    simp only [go_sem, d_law13_long, d_disc_BinomCdf, d_disc_Binom, d_ref2_Add, d_ref2_Same, d_disc_PoisCdf, d_disc_Pois, d_ref4_Add, d_ref4_Side, d_law13_known, int0, int1, decide_true, decide_false, Bool.not_true, Bool.not_false, beq_self_eq_true, eq_self, lx, ly, g0f, g1f, g2f, g3f, g4f, g5f, htf, ho, Nat.reduceBEq, Nat.reduceBNe, Nat.reduceLT, Nat.reduceLeDiff, Nat.reduceAdd, Nat.reduceSub, Nat.reduceMul, Nat.reduceEqDiff, Int.reduceNeg, Int.reduceAdd, Int.reduceLT, Int.reduceLE, Int.reduceToNat, ↓reduceIte]
    try and_intros
    all_goals try (first | omega | (show okDraw _ _ = true; kernel_rfl) | assumption)
    subst hC
    simp only [go_sem, d_law13_long, d_disc_BinomCdf, d_disc_Binom, d_ref2_Add, d_ref2_Same, d_disc_PoisCdf, d_disc_Pois, d_ref4_Add, d_ref4_Side, d_law13_known, int0, int1, decide_true, decide_false, Bool.not_true, Bool.not_false, beq_self_eq_true, eq_self, lx, ly, g0f, g1f, g2f, g3f, g4f, g5f, htf, ho, Nat.reduceBEq, Nat.reduceBNe, Nat.reduceLT, Nat.reduceLeDiff, Nat.reduceAdd, Nat.reduceSub, Nat.reduceMul, Nat.reduceEqDiff, Int.reduceNeg, Int.reduceAdd, Int.reduceLT, Int.reduceLE, Int.reduceToNat, ↓reduceIte]
    obtain ⟨u1, u2⟩ := tB_rs true (k := k - 1) (p := w) (by omega) ho hd
    obtain ⟨u3, u4⟩ := tB_rs false (k := k) (p := w) (by omega) ho hd
    have v1 := rs_add (tB true (k - 1) y.q w).lo.q (tB false k y.q w).lo.q
    have v2 := rs_add (tB true (k - 1) y.q w).hi.q (tB false k y.q w).hi.q
    simp only [bb] at m
    rw [if_pos m]
    and_intros
    all_goals first | omega | exact hd | (show okDraw _ _ = true; kernel_rfl) | exact Nat.max_le.2 ⟨by rw [cr_sz]; omega, by rw [cr_sz]; omega⟩
  have hof : tOk y.q = false := by simpa using ho
  refine cut_seq fun C hC => ?_
  simp only [go_sem, d_law13_long, d_disc_BinomCdf, d_disc_Binom, d_ref2_Add, d_ref2_Same, d_disc_PoisCdf, d_disc_Pois, d_ref4_Add, d_ref4_Side, d_law13_known, int0, int1, decide_true, decide_false, Bool.not_true, Bool.not_false, beq_self_eq_true, eq_self, lx, ly, g0f, g1f, g2f, g3f, g4f, g5f, htf, hof, Nat.reduceBEq, Nat.reduceBNe, Nat.reduceLT, Nat.reduceLeDiff, Nat.reduceAdd, Nat.reduceSub, Nat.reduceMul, Nat.reduceEqDiff, Int.reduceNeg, Int.reduceAdd, Int.reduceLT, Int.reduceLE, Int.reduceToNat, ↓reduceIte]
  try and_intros
  all_goals try (first | omega | (show okDraw _ _ = true; kernel_rfl) | assumption)
  subst hC
  refine cut_seq fun C hC => ?_
  simp only [go_sem, d_law13_long, d_disc_BinomCdf, d_disc_Binom, d_ref2_Add, d_ref2_Same, d_disc_PoisCdf, d_disc_Pois, d_ref4_Add, d_ref4_Side, d_law13_known, int0, int1, decide_true, decide_false, Bool.not_true, Bool.not_false, beq_self_eq_true, eq_self, lx, ly, g0f, g1f, g2f, g3f, g4f, g5f, htf, hof, Nat.reduceBEq, Nat.reduceBNe, Nat.reduceLT, Nat.reduceLeDiff, Nat.reduceAdd, Nat.reduceSub, Nat.reduceMul, Nat.reduceEqDiff, Int.reduceNeg, Int.reduceAdd, Int.reduceLT, Int.reduceLE, Int.reduceToNat, ↓reduceIte]
  try and_intros
  all_goals try (first | omega | (show okDraw _ _ = true; kernel_rfl) | assumption)
  subst hC
  refine cut_seq fun C hC => ?_
  simp only [go_sem, d_law13_long, d_disc_BinomCdf, d_disc_Binom, d_ref2_Add, d_ref2_Same, d_disc_PoisCdf, d_disc_Pois, d_ref4_Add, d_ref4_Side, d_law13_known, int0, int1, decide_true, decide_false, Bool.not_true, Bool.not_false, beq_self_eq_true, eq_self, lx, ly, g0f, g1f, g2f, g3f, g4f, g5f, htf, hof, Nat.reduceBEq, Nat.reduceBNe, Nat.reduceLT, Nat.reduceLeDiff, Nat.reduceAdd, Nat.reduceSub, Nat.reduceMul, Nat.reduceEqDiff, Int.reduceNeg, Int.reduceAdd, Int.reduceLT, Int.reduceLE, Int.reduceToNat, ↓reduceIte]
  try and_intros
  all_goals try (first | omega | (show okDraw _ _ = true; kernel_rfl) | assumption)
  subst hC
  simp only [go_sem, d_law13_long, d_disc_BinomCdf, d_disc_Binom, d_ref2_Add, d_ref2_Same, d_disc_PoisCdf, d_disc_Pois, d_ref4_Add, d_ref4_Side, d_law13_known, int0, int1, decide_true, decide_false, Bool.not_true, Bool.not_false, beq_self_eq_true, eq_self, lx, ly, g0f, g1f, g2f, g3f, g4f, g5f, htf, hof, Nat.reduceBEq, Nat.reduceBNe, Nat.reduceLT, Nat.reduceLeDiff, Nat.reduceAdd, Nat.reduceSub, Nat.reduceMul, Nat.reduceEqDiff, Int.reduceNeg, Int.reduceAdd, Int.reduceLT, Int.reduceLE, Int.reduceToNat, ↓reduceIte]
  and_intros
  all_goals first | omega | exact hd | (show okDraw _ _ = true; kernel_rfl)

end Go.Proofs.Ytifnpelkoklcnaa
