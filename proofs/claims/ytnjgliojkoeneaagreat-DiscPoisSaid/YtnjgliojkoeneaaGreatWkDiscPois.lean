/- The law DiscPois. Condition: rows shorter than 10^14. -/
import Derived.Test.YtnjgliojkoeneaaGreatHl
import Derived.Test.YtnjgliojkoeneaaGreatHj
import Derived.Test.YtnjgliojkoeneaaGreatBj
namespace Go.Proofs.YtnjgliojkoeneaaGreat
open Go.RowKit
set_option linter.unusedSimpArgs false
set_option linter.unusedVariables false
theorem pois_sz {k : Int} {q : Rat} {p : Int} (h : tOkK k q = true) (hk : k ≤ 60) (hd : q.den ≤ 2 ^ 200) : (tBK false k q p).sz ≤ 100000000 ∧ (rP false k q (max p 0 + 20)).sz ≤ 100000000 ∧ (tBK true k q p).sz ≤ 100000000 ∧ (rP true k q (max p 0 + 20)).sz ≤ 100000000 := by
  obtain ⟨f1, f2, f3, f4, f5⟩ := tOkK_facts h
  have key : ∀ all, (tBK all k q p).sz ≤ 100000000 := fun all => by
    have e : tBK all k q p = tB all k q p := if_neg (by omega)
    rw [e]
    exact Nat.le_trans (tB_sz all (p := p) (by omega) f5 hd) (by omega)
  have z0 : (bb ((0 : Int) : Rat) ((0 : Int) : Rat)).sz ≤ 2000 := by decide +kernel
  have z1 : (bb ((1 : Int) : Rat) ((1 : Int) : Rat)).sz ≤ 2000 := by decide +kernel
  have key2 : ∀ all, (rP all k q (max p 0 + 20)).sz ≤ 100000000 := fun all => by
    have hP : tP (max p 0 + 20) ≤ 200 := by unfold tP; omega
    unfold rP
    rw [if_pos h]
    split
    · exact Nat.le_trans z0 (by omega)
    · split
      · exact Nat.le_trans z1 (by omega)
      · obtain ⟨v1, v2⟩ := pIv_zz all (w := ((tP (max p 0 + 20) : Nat) : Int) + 130) f2 f3 (by omega) (by omega) (k := k.toNat) (by omega)
        have hc : cN (((tP (max p 0 + 20) : Nat) : Int) + 130) ≤ 4096 := by unfold cN; omega
        have hb := pow_bits (cN (((tP (max p 0 + 20) : Nat) : Int) + 130))
        have key3 : ∀ z : Int, zs z ≤ 100 → (cr (qv (zN z).s z.natAbs (2 ^ cN (((tP (max p 0 + 20) : Nat) : Int) + 130)))).sz ≤ 100000000 := fun z hz => by
          unfold zs at hz
          rw [cr_sz]
          have := rs_qv (zN z).s z.natAbs (2 ^ cN (((tP (max p 0 + 20) : Nat) : Int) + 130)) 1000 (by omega) (by omega) (by omega)
          omega
        unfold ivB
        exact Nat.max_le.2 ⟨key3 _ v1, key3 _ v2⟩
  exact ⟨key _, key2 _, key _, key2 _⟩
def d_law13_DiscPois : Den := den3 aInt aRat aInt (fun k m w => m.sz ≤ 100000000000000) fun k m w => boolV true
set_option maxRecDepth 100000 in
set_option maxHeartbeats 8000000 in
theorem s_law13_DiscPois : Sound Tryz.prog 3 d_law13_DiscPois := by
  refine sound3 (fz := nofz) (l := [(4, d_disc_Pois2), (5, d_ref13_Pois), (6, d_disc_PoisCdf2), (7, d_ref13_PoisCdf), (8, d_ref4_Good), (9, d_law13_known)]) TT_ok ⟨s_disc_Pois2, s_ref13_Pois, s_disc_PoisCdf2, s_ref13_PoisCdf, s_ref4_Good, s_law13_known, trivial⟩ mixed Tryz.func3 Tryz.ntmps3 Tryz.results3 Tryz.call3 rfl (by omega) (fun _ _ _ => rfl) ?_
  intro k m w hp hk hm hw
  rw [codeK_start]
  have lm := RR.lens hp
  by_cases g0 : (2 : Int) < ((m.n.length : Nat) : Int)
  · have k0 : ((2 : Int) < ((m.n.length : Nat) : Int)) = True := eq_true g0
    simp only [go_sem, d_disc_Pois2, d_ref13_Pois, d_disc_PoisCdf2, d_ref13_PoisCdf, d_ref4_Good, d_law13_known, decide_true, decide_false, Bool.not_true, Bool.not_false, beq_self_eq_true, eq_self, k0, Nat.reduceBEq, Nat.reduceBNe, Nat.reduceLT, Nat.reduceLeDiff, Nat.reduceAdd, Nat.reduceSub, Nat.reduceMul, Nat.reduceEqDiff, Int.reduceNeg, Int.reduceAdd, Int.reduceLT, Int.reduceLE, Int.reduceToNat, ↓reduceIte]
    try ((try and_intros) <;> first | exact trivial | omega | (show okDraw _ _ = true; kernel_rfl) | assumption)
  have k0 : ((2 : Int) < ((m.n.length : Nat) : Int)) = False := eq_false g0
  by_cases g1 : (2 : Int) < ((m.d.length : Nat) : Int)
  · have k1 : ((2 : Int) < ((m.d.length : Nat) : Int)) = True := eq_true g1
    simp only [go_sem, d_disc_Pois2, d_ref13_Pois, d_disc_PoisCdf2, d_ref13_PoisCdf, d_ref4_Good, d_law13_known, decide_true, decide_false, Bool.not_true, Bool.not_false, beq_self_eq_true, eq_self, k0, k1, Nat.reduceBEq, Nat.reduceBNe, Nat.reduceLT, Nat.reduceLeDiff, Nat.reduceAdd, Nat.reduceSub, Nat.reduceMul, Nat.reduceEqDiff, Int.reduceNeg, Int.reduceAdd, Int.reduceLT, Int.reduceLE, Int.reduceToNat, ↓reduceIte]
    try ((try and_intros) <;> first | exact trivial | omega | (show okDraw _ _ = true; kernel_rfl) | assumption)
  have k1 : ((2 : Int) < ((m.d.length : Nat) : Int)) = False := eq_false g1
  by_cases g2 : (80 : Int) < w
  · have k2 : ((80 : Int) < w) = True := eq_true g2
    simp only [go_sem, d_disc_Pois2, d_ref13_Pois, d_disc_PoisCdf2, d_ref13_PoisCdf, d_ref4_Good, d_law13_known, decide_true, decide_false, Bool.not_true, Bool.not_false, beq_self_eq_true, eq_self, k0, k1, k2, Nat.reduceBEq, Nat.reduceBNe, Nat.reduceLT, Nat.reduceLeDiff, Nat.reduceAdd, Nat.reduceSub, Nat.reduceMul, Nat.reduceEqDiff, Int.reduceNeg, Int.reduceAdd, Int.reduceLT, Int.reduceLE, Int.reduceToNat, ↓reduceIte]
    try ((try and_intros) <;> first | exact trivial | omega | (show okDraw _ _ = true; kernel_rfl) | assumption)
  have k2 : ((80 : Int) < w) = False := eq_false g2
  have zm : m.sz ≤ 2 := RR.sz_le (by omega) (by omega)
  have zm2 : m.sz ≤ 1000 := by omega
  have rm : rs m.q ≤ 2 := rs_ok hm zm (by omega)
  have hd := den_64 rm
  by_cases g3 : (60 : Int) < k
  · have k3 : ((60 : Int) < k) = True := eq_true g3
    by_cases g4 : k ≤ 1024
    · have k4 : (k ≤ 1024) = True := eq_true g4
      simp only [go_sem, d_disc_Pois2, d_ref13_Pois, d_disc_PoisCdf2, d_ref13_PoisCdf, d_ref4_Good, d_law13_known, decide_true, decide_false, Bool.not_true, Bool.not_false, beq_self_eq_true, eq_self, k0, k1, k2, k3, k4, Nat.reduceBEq, Nat.reduceBNe, Nat.reduceLT, Nat.reduceLeDiff, Nat.reduceAdd, Nat.reduceSub, Nat.reduceMul, Nat.reduceEqDiff, Int.reduceNeg, Int.reduceAdd, Int.reduceLT, Int.reduceLE, Int.reduceToNat, ↓reduceIte]
      try ((try and_intros) <;> first | exact trivial | omega | (show okDraw _ _ = true; kernel_rfl) | assumption)
    have k4 : (k ≤ 1024) = False := eq_false g4
    have hc : k ≤ 100 ∨ 1024 < k := by omega
    have ho : tOkK k m.q = false := by unfold tOkK; rw [decide_eq_true (show (1024 : Int) < k by omega)]; simp
    refine cut_seq fun C hC => ?_
    simp only [go_sem, d_disc_Pois2, d_ref13_Pois, d_disc_PoisCdf2, d_ref13_PoisCdf, d_ref4_Good, d_law13_known, decide_true, decide_false, Bool.not_true, Bool.not_false, beq_self_eq_true, eq_self, k0, k1, k2, k3, k4, ho, Nat.reduceBEq, Nat.reduceBNe, Nat.reduceLT, Nat.reduceLeDiff, Nat.reduceAdd, Nat.reduceSub, Nat.reduceMul, Nat.reduceEqDiff, Int.reduceNeg, Int.reduceAdd, Int.reduceLT, Int.reduceLE, Int.reduceToNat, ↓reduceIte]
    try and_intros
    all_goals try (first | omega | (show okDraw _ _ = true; kernel_rfl) | exact hd | assumption)
    subst hC
    refine cut_seq fun C hC => ?_
    simp only [go_sem, d_disc_Pois2, d_ref13_Pois, d_disc_PoisCdf2, d_ref13_PoisCdf, d_ref4_Good, d_law13_known, decide_true, decide_false, Bool.not_true, Bool.not_false, beq_self_eq_true, eq_self, k0, k1, k2, k3, k4, ho, Nat.reduceBEq, Nat.reduceBNe, Nat.reduceLT, Nat.reduceLeDiff, Nat.reduceAdd, Nat.reduceSub, Nat.reduceMul, Nat.reduceEqDiff, Int.reduceNeg, Int.reduceAdd, Int.reduceLT, Int.reduceLE, Int.reduceToNat, ↓reduceIte]
    try and_intros
    all_goals try (first | omega | (show okDraw _ _ = true; kernel_rfl) | exact hd | assumption)
    subst hC
    refine cut_seq fun C hC => ?_
    simp only [go_sem, d_disc_Pois2, d_ref13_Pois, d_disc_PoisCdf2, d_ref13_PoisCdf, d_ref4_Good, d_law13_known, decide_true, decide_false, Bool.not_true, Bool.not_false, beq_self_eq_true, eq_self, k0, k1, k2, k3, k4, ho, Nat.reduceBEq, Nat.reduceBNe, Nat.reduceLT, Nat.reduceLeDiff, Nat.reduceAdd, Nat.reduceSub, Nat.reduceMul, Nat.reduceEqDiff, Int.reduceNeg, Int.reduceAdd, Int.reduceLT, Int.reduceLE, Int.reduceToNat, ↓reduceIte]
    try and_intros
    all_goals try (first | omega | (show okDraw _ _ = true; kernel_rfl) | exact hd | assumption)
    subst hC
    refine cut_seq fun C hC => ?_
    simp only [go_sem, d_disc_Pois2, d_ref13_Pois, d_disc_PoisCdf2, d_ref13_PoisCdf, d_ref4_Good, d_law13_known, decide_true, decide_false, Bool.not_true, Bool.not_false, beq_self_eq_true, eq_self, k0, k1, k2, k3, k4, ho, Nat.reduceBEq, Nat.reduceBNe, Nat.reduceLT, Nat.reduceLeDiff, Nat.reduceAdd, Nat.reduceSub, Nat.reduceMul, Nat.reduceEqDiff, Int.reduceNeg, Int.reduceAdd, Int.reduceLT, Int.reduceLE, Int.reduceToNat, ↓reduceIte]
    try and_intros
    all_goals try (first | omega | (show okDraw _ _ = true; kernel_rfl) | exact hd | assumption)
    subst hC
    refine cut_seq fun C hC => ?_
    simp only [go_sem, d_disc_Pois2, d_ref13_Pois, d_disc_PoisCdf2, d_ref13_PoisCdf, d_ref4_Good, d_law13_known, decide_true, decide_false, Bool.not_true, Bool.not_false, beq_self_eq_true, eq_self, k0, k1, k2, k3, k4, ho, Nat.reduceBEq, Nat.reduceBNe, Nat.reduceLT, Nat.reduceLeDiff, Nat.reduceAdd, Nat.reduceSub, Nat.reduceMul, Nat.reduceEqDiff, Int.reduceNeg, Int.reduceAdd, Int.reduceLT, Int.reduceLE, Int.reduceToNat, ↓reduceIte]
    try and_intros
    all_goals try (first | omega | (show okDraw _ _ = true; kernel_rfl) | exact hd | assumption)
    subst hC
    refine cut_seq fun C hC => ?_
    simp only [go_sem, d_disc_Pois2, d_ref13_Pois, d_disc_PoisCdf2, d_ref13_PoisCdf, d_ref4_Good, d_law13_known, decide_true, decide_false, Bool.not_true, Bool.not_false, beq_self_eq_true, eq_self, k0, k1, k2, k3, k4, ho, Nat.reduceBEq, Nat.reduceBNe, Nat.reduceLT, Nat.reduceLeDiff, Nat.reduceAdd, Nat.reduceSub, Nat.reduceMul, Nat.reduceEqDiff, Int.reduceNeg, Int.reduceAdd, Int.reduceLT, Int.reduceLE, Int.reduceToNat, ↓reduceIte]
    try and_intros
    all_goals try (first | omega | (show okDraw _ _ = true; kernel_rfl) | exact hd | assumption)
    subst hC
    simp only [go_sem, d_disc_Pois2, d_ref13_Pois, d_disc_PoisCdf2, d_ref13_PoisCdf, d_ref4_Good, d_law13_known, decide_true, decide_false, Bool.not_true, Bool.not_false, beq_self_eq_true, eq_self, k0, k1, k2, k3, k4, ho, Nat.reduceBEq, Nat.reduceBNe, Nat.reduceLT, Nat.reduceLeDiff, Nat.reduceAdd, Nat.reduceSub, Nat.reduceMul, Nat.reduceEqDiff, Int.reduceNeg, Int.reduceAdd, Int.reduceLT, Int.reduceLE, Int.reduceToNat, ↓reduceIte]
    all_goals ((try and_intros) <;> first | exact trivial | omega | (show okDraw _ _ = true; kernel_rfl) | assumption)
  have k3 : ((60 : Int) < k) = False := eq_false g3
  have hc : k ≤ 100 ∨ 1024 < k := by omega
  cases ho : tOkK k m.q with
  | false =>
    refine cut_seq fun C hC => ?_
    simp only [go_sem, d_disc_Pois2, d_ref13_Pois, d_disc_PoisCdf2, d_ref13_PoisCdf, d_ref4_Good, d_law13_known, decide_true, decide_false, Bool.not_true, Bool.not_false, beq_self_eq_true, eq_self, k0, k1, k2, k3, ho, Nat.reduceBEq, Nat.reduceBNe, Nat.reduceLT, Nat.reduceLeDiff, Nat.reduceAdd, Nat.reduceSub, Nat.reduceMul, Nat.reduceEqDiff, Int.reduceNeg, Int.reduceAdd, Int.reduceLT, Int.reduceLE, Int.reduceToNat, ↓reduceIte]
    try and_intros
    all_goals try (first | omega | (show okDraw _ _ = true; kernel_rfl) | exact hd | assumption)
    subst hC
    refine cut_seq fun C hC => ?_
    simp only [go_sem, d_disc_Pois2, d_ref13_Pois, d_disc_PoisCdf2, d_ref13_PoisCdf, d_ref4_Good, d_law13_known, decide_true, decide_false, Bool.not_true, Bool.not_false, beq_self_eq_true, eq_self, k0, k1, k2, k3, ho, Nat.reduceBEq, Nat.reduceBNe, Nat.reduceLT, Nat.reduceLeDiff, Nat.reduceAdd, Nat.reduceSub, Nat.reduceMul, Nat.reduceEqDiff, Int.reduceNeg, Int.reduceAdd, Int.reduceLT, Int.reduceLE, Int.reduceToNat, ↓reduceIte]
    try and_intros
    all_goals try (first | omega | (show okDraw _ _ = true; kernel_rfl) | exact hd | assumption)
    subst hC
    refine cut_seq fun C hC => ?_
    simp only [go_sem, d_disc_Pois2, d_ref13_Pois, d_disc_PoisCdf2, d_ref13_PoisCdf, d_ref4_Good, d_law13_known, decide_true, decide_false, Bool.not_true, Bool.not_false, beq_self_eq_true, eq_self, k0, k1, k2, k3, ho, Nat.reduceBEq, Nat.reduceBNe, Nat.reduceLT, Nat.reduceLeDiff, Nat.reduceAdd, Nat.reduceSub, Nat.reduceMul, Nat.reduceEqDiff, Int.reduceNeg, Int.reduceAdd, Int.reduceLT, Int.reduceLE, Int.reduceToNat, ↓reduceIte]
    try and_intros
    all_goals try (first | omega | (show okDraw _ _ = true; kernel_rfl) | exact hd | assumption)
    subst hC
    refine cut_seq fun C hC => ?_
    simp only [go_sem, d_disc_Pois2, d_ref13_Pois, d_disc_PoisCdf2, d_ref13_PoisCdf, d_ref4_Good, d_law13_known, decide_true, decide_false, Bool.not_true, Bool.not_false, beq_self_eq_true, eq_self, k0, k1, k2, k3, ho, Nat.reduceBEq, Nat.reduceBNe, Nat.reduceLT, Nat.reduceLeDiff, Nat.reduceAdd, Nat.reduceSub, Nat.reduceMul, Nat.reduceEqDiff, Int.reduceNeg, Int.reduceAdd, Int.reduceLT, Int.reduceLE, Int.reduceToNat, ↓reduceIte]
    try and_intros
    all_goals try (first | omega | (show okDraw _ _ = true; kernel_rfl) | exact hd | assumption)
    subst hC
    refine cut_seq fun C hC => ?_
    simp only [go_sem, d_disc_Pois2, d_ref13_Pois, d_disc_PoisCdf2, d_ref13_PoisCdf, d_ref4_Good, d_law13_known, decide_true, decide_false, Bool.not_true, Bool.not_false, beq_self_eq_true, eq_self, k0, k1, k2, k3, ho, Nat.reduceBEq, Nat.reduceBNe, Nat.reduceLT, Nat.reduceLeDiff, Nat.reduceAdd, Nat.reduceSub, Nat.reduceMul, Nat.reduceEqDiff, Int.reduceNeg, Int.reduceAdd, Int.reduceLT, Int.reduceLE, Int.reduceToNat, ↓reduceIte]
    try and_intros
    all_goals try (first | omega | (show okDraw _ _ = true; kernel_rfl) | exact hd | assumption)
    subst hC
    refine cut_seq fun C hC => ?_
    simp only [go_sem, d_disc_Pois2, d_ref13_Pois, d_disc_PoisCdf2, d_ref13_PoisCdf, d_ref4_Good, d_law13_known, decide_true, decide_false, Bool.not_true, Bool.not_false, beq_self_eq_true, eq_self, k0, k1, k2, k3, ho, Nat.reduceBEq, Nat.reduceBNe, Nat.reduceLT, Nat.reduceLeDiff, Nat.reduceAdd, Nat.reduceSub, Nat.reduceMul, Nat.reduceEqDiff, Int.reduceNeg, Int.reduceAdd, Int.reduceLT, Int.reduceLE, Int.reduceToNat, ↓reduceIte]
    try and_intros
    all_goals try (first | omega | (show okDraw _ _ = true; kernel_rfl) | exact hd | assumption)
    subst hC
    simp only [go_sem, d_disc_Pois2, d_ref13_Pois, d_disc_PoisCdf2, d_ref13_PoisCdf, d_ref4_Good, d_law13_known, decide_true, decide_false, Bool.not_true, Bool.not_false, beq_self_eq_true, eq_self, k0, k1, k2, k3, ho, Nat.reduceBEq, Nat.reduceBNe, Nat.reduceLT, Nat.reduceLeDiff, Nat.reduceAdd, Nat.reduceSub, Nat.reduceMul, Nat.reduceEqDiff, Int.reduceNeg, Int.reduceAdd, Int.reduceLT, Int.reduceLE, Int.reduceToNat, ↓reduceIte]
    all_goals ((try and_intros) <;> first | exact trivial | omega | (show okDraw _ _ = true; kernel_rfl) | assumption)
  | true =>
    have hk60 : k ≤ 60 := by have := (tOkK_facts ho).2.2.2.1; omega
    have m1 := good_pois false (p := w) ho hk60 hd (by omega)
    have m2 := good_pois true (p := w) ho hk60 hd (by omega)
    obtain ⟨s1, s2, s3, s4⟩ := pois_sz ho hk60 hd (p := w)
    refine cut_seq fun C hC => ?_
    simp only [go_sem, d_disc_Pois2, d_ref13_Pois, d_disc_PoisCdf2, d_ref13_PoisCdf, d_ref4_Good, d_law13_known, decide_true, decide_false, Bool.not_true, Bool.not_false, beq_self_eq_true, eq_self, k0, k1, k2, k3, ho, m1, m2, Nat.reduceBEq, Nat.reduceBNe, Nat.reduceLT, Nat.reduceLeDiff, Nat.reduceAdd, Nat.reduceSub, Nat.reduceMul, Nat.reduceEqDiff, Int.reduceNeg, Int.reduceAdd, Int.reduceLT, Int.reduceLE, Int.reduceToNat, ↓reduceIte]
    try and_intros
    all_goals try (first | omega | (show okDraw _ _ = true; kernel_rfl) | exact hd | assumption)
    subst hC
    refine cut_seq fun C hC => ?_
    simp only [go_sem, d_disc_Pois2, d_ref13_Pois, d_disc_PoisCdf2, d_ref13_PoisCdf, d_ref4_Good, d_law13_known, decide_true, decide_false, Bool.not_true, Bool.not_false, beq_self_eq_true, eq_self, k0, k1, k2, k3, ho, m1, m2, Nat.reduceBEq, Nat.reduceBNe, Nat.reduceLT, Nat.reduceLeDiff, Nat.reduceAdd, Nat.reduceSub, Nat.reduceMul, Nat.reduceEqDiff, Int.reduceNeg, Int.reduceAdd, Int.reduceLT, Int.reduceLE, Int.reduceToNat, ↓reduceIte]
    try and_intros
    all_goals try (first | omega | (show okDraw _ _ = true; kernel_rfl) | exact hd | assumption)
    subst hC
    refine cut_seq fun C hC => ?_
    simp only [go_sem, d_disc_Pois2, d_ref13_Pois, d_disc_PoisCdf2, d_ref13_PoisCdf, d_ref4_Good, d_law13_known, decide_true, decide_false, Bool.not_true, Bool.not_false, beq_self_eq_true, eq_self, k0, k1, k2, k3, ho, m1, m2, Nat.reduceBEq, Nat.reduceBNe, Nat.reduceLT, Nat.reduceLeDiff, Nat.reduceAdd, Nat.reduceSub, Nat.reduceMul, Nat.reduceEqDiff, Int.reduceNeg, Int.reduceAdd, Int.reduceLT, Int.reduceLE, Int.reduceToNat, ↓reduceIte]
    try and_intros
    all_goals try (first | omega | (show okDraw _ _ = true; kernel_rfl) | exact hd | assumption)
    subst hC
    refine cut_seq fun C hC => ?_
    simp only [go_sem, d_disc_Pois2, d_ref13_Pois, d_disc_PoisCdf2, d_ref13_PoisCdf, d_ref4_Good, d_law13_known, decide_true, decide_false, Bool.not_true, Bool.not_false, beq_self_eq_true, eq_self, k0, k1, k2, k3, ho, m1, m2, Nat.reduceBEq, Nat.reduceBNe, Nat.reduceLT, Nat.reduceLeDiff, Nat.reduceAdd, Nat.reduceSub, Nat.reduceMul, Nat.reduceEqDiff, Int.reduceNeg, Int.reduceAdd, Int.reduceLT, Int.reduceLE, Int.reduceToNat, ↓reduceIte]
    try and_intros
    all_goals try (first | omega | (show okDraw _ _ = true; kernel_rfl) | exact hd | assumption)
    subst hC
    refine cut_seq fun C hC => ?_
    simp only [go_sem, d_disc_Pois2, d_ref13_Pois, d_disc_PoisCdf2, d_ref13_PoisCdf, d_ref4_Good, d_law13_known, decide_true, decide_false, Bool.not_true, Bool.not_false, beq_self_eq_true, eq_self, k0, k1, k2, k3, ho, m1, m2, Nat.reduceBEq, Nat.reduceBNe, Nat.reduceLT, Nat.reduceLeDiff, Nat.reduceAdd, Nat.reduceSub, Nat.reduceMul, Nat.reduceEqDiff, Int.reduceNeg, Int.reduceAdd, Int.reduceLT, Int.reduceLE, Int.reduceToNat, ↓reduceIte]
    try and_intros
    all_goals try (first | omega | (show okDraw _ _ = true; kernel_rfl) | exact hd | assumption)
    subst hC
    refine cut_seq fun C hC => ?_
    simp only [go_sem, d_disc_Pois2, d_ref13_Pois, d_disc_PoisCdf2, d_ref13_PoisCdf, d_ref4_Good, d_law13_known, decide_true, decide_false, Bool.not_true, Bool.not_false, beq_self_eq_true, eq_self, k0, k1, k2, k3, ho, m1, m2, Nat.reduceBEq, Nat.reduceBNe, Nat.reduceLT, Nat.reduceLeDiff, Nat.reduceAdd, Nat.reduceSub, Nat.reduceMul, Nat.reduceEqDiff, Int.reduceNeg, Int.reduceAdd, Int.reduceLT, Int.reduceLE, Int.reduceToNat, ↓reduceIte]
    try and_intros
    all_goals try (first | omega | (show okDraw _ _ = true; kernel_rfl) | exact hd | assumption)
    subst hC
    simp only [go_sem, d_disc_Pois2, d_ref13_Pois, d_disc_PoisCdf2, d_ref13_PoisCdf, d_ref4_Good, d_law13_known, decide_true, decide_false, Bool.not_true, Bool.not_false, beq_self_eq_true, eq_self, k0, k1, k2, k3, ho, m1, m2, Nat.reduceBEq, Nat.reduceBNe, Nat.reduceLT, Nat.reduceLeDiff, Nat.reduceAdd, Nat.reduceSub, Nat.reduceMul, Nat.reduceEqDiff, Int.reduceNeg, Int.reduceAdd, Int.reduceLT, Int.reduceLE, Int.reduceToNat, ↓reduceIte]
    all_goals ((try and_intros) <;> first | exact trivial | omega | exact hd | exact s1 | exact s2 | exact s3 | exact s4 | (show okDraw _ _ = true; kernel_rfl) | assumption)
end Go.Proofs.YtnjgliojkoeneaaGreat
