/- The law DiscAll. Condition: rows shorter than 10^14. -/
import Derived.Test.YtpppgmgdcpaffaaHh
import Derived.Test.YtpppgmgdcpaffaaBj
namespace Go.Proofs.Ytpppgmgdcpaffaa
open Go.RowKit
set_option linter.unusedSimpArgs false
set_option linter.unusedVariables false
/-- the code behind a block is laid aside, before the block's loop begins -/
theorem cut_bs {E : Env} {Q : AEx → AS → Prop} {k : List It} {s : AS} {id : Nat} {c c2 : Code} (h : ∀ C, C = c2 → codeK E Q (.block id :: .seq C :: k) c s) : codeK E Q (.block id :: .seq c2 :: k) c s := h c2 rfl
def fz_DiscAll : Nat → List Nat
  | 1000009 => [1]
  | _ => []
def d_law13_DiscAll : Den := den3 aInt aInt aRat (fun n k x => x.sz ≤ 100000000000000 ∧ -9223372036854775808 ≤ k ∧ k ≤ 9223372036854775807) fun n k x => boolV true
set_option maxRecDepth 100000 in
set_option maxHeartbeats 8000000 in
theorem s_law13_DiscAll : Sound Try.prog 9 d_law13_DiscAll := by
  refine sound3 (fz := fz_DiscAll) (l := [(48, d_law13_long), (39, d_ref2_Int), (38, d_ref2_Cmp), (49, d_disc_Binom), (50, d_law13_known), (28, d_ref2_Add), (41, d_ref2_Sub), (34, d_ref2_Same)]) TT_ok ⟨s_law13_long, s_ref2_Int, s_ref2_Cmp, s_disc_Binom, s_law13_known, s_ref2_Add, s_ref2_Sub, s_ref2_Same, trivial⟩ mixed Try.func9 Try.ntmps9 Try.results9 Try.call9 rfl (by omega) (fun _ _ _ => rfl) ?_
  intro n k x hp hn hk hx
  rw [codeK_start]
  obtain ⟨hp, hk1, hk2⟩ := hp
  by_cases hw : longR x = true
  · skip
    simp only [go_sem, d_law13_long, d_ref2_Int, d_ref2_Cmp, d_disc_Binom, d_law13_known, d_ref2_Add, d_ref2_Sub, d_ref2_Same, int0, int1, decide_true, decide_false, Bool.not_true, Bool.not_false, beq_self_eq_true, eq_self, fz_DiscAll, hw, Nat.reduceBEq, Nat.reduceBNe, Nat.reduceLT, Nat.reduceLeDiff, Nat.reduceAdd, Nat.reduceSub, Nat.reduceMul, Nat.reduceEqDiff, Int.reduceNeg, Int.reduceAdd, Int.reduceLT, Int.reduceLE, Int.reduceToNat, ↓reduceIte]
    try ((try and_intros) <;> first | exact trivial | omega | (show okDraw _ _ = true; kernel_rfl) | assumption)
  rw [Bool.not_eq_true] at hw
  have sx : x.sz ≤ 1 := not_long hw
  have sx2 : x.sz ≤ 1000 := by omega
  have rx : rs x.q ≤ 1 := rs_ok hx sx (by omega)
  by_cases h1 : n < 0
  · skip
    simp only [go_sem, d_law13_long, d_ref2_Int, d_ref2_Cmp, d_disc_Binom, d_law13_known, d_ref2_Add, d_ref2_Sub, d_ref2_Same, int0, int1, decide_true, decide_false, Bool.not_true, Bool.not_false, beq_self_eq_true, eq_self, fz_DiscAll, hw, h1, Nat.reduceBEq, Nat.reduceBNe, Nat.reduceLT, Nat.reduceLeDiff, Nat.reduceAdd, Nat.reduceSub, Nat.reduceMul, Nat.reduceEqDiff, Int.reduceNeg, Int.reduceAdd, Int.reduceLT, Int.reduceLE, Int.reduceToNat, ↓reduceIte]
    try ((try and_intros) <;> first | exact trivial | omega | (show okDraw _ _ = true; kernel_rfl) | assumption)
  by_cases h2 : (10 : Int) < n
  · skip
    simp only [go_sem, d_law13_long, d_ref2_Int, d_ref2_Cmp, d_disc_Binom, d_law13_known, d_ref2_Add, d_ref2_Sub, d_ref2_Same, int0, int1, decide_true, decide_false, Bool.not_true, Bool.not_false, beq_self_eq_true, eq_self, fz_DiscAll, hw, h1, h2, Nat.reduceBEq, Nat.reduceBNe, Nat.reduceLT, Nat.reduceLeDiff, Nat.reduceAdd, Nat.reduceSub, Nat.reduceMul, Nat.reduceEqDiff, Int.reduceNeg, Int.reduceAdd, Int.reduceLT, Int.reduceLE, Int.reduceToNat, ↓reduceIte]
    try ((try and_intros) <;> first | exact trivial | omega | (show okDraw _ _ = true; kernel_rfl) | assumption)
  have t0 : rs (0 : Rat) ≤ 1 := rs0 (by omega)
  have t1 : rs (1 : Rat) ≤ 1 := rs1 (by omega)
  obtain ⟨m, rfl⟩ := Int.eq_ofNat_of_zero_le (show 0 ≤ n by omega)
  have hm : m ≤ 10 := by omega
  have zb := rs_bQ hx sx2 ((m : Nat) : Int) k
  by_cases h3 : x.q < 0
  · skip
    have htf : tryB ((m : Nat) : Int) x.q = false := by
      have hn : ¬ (0 ≤ x.q ∧ x.q ≤ 1) := fun h => by exact Rat.not_lt.2 h.1 h3
      cases ht : tryB ((m : Nat) : Int) x.q with
      | false => rfl
      | true => exact absurd (try_of ht).2.2 hn
    simp only [go_sem, d_law13_long, d_ref2_Int, d_ref2_Cmp, d_disc_Binom, d_law13_known, d_ref2_Add, d_ref2_Sub, d_ref2_Same, int0, int1, decide_true, decide_false, Bool.not_true, Bool.not_false, beq_self_eq_true, eq_self, fz_DiscAll, hw, h1, h2, h3, htf, Nat.reduceBEq, Nat.reduceBNe, Nat.reduceLT, Nat.reduceLeDiff, Nat.reduceAdd, Nat.reduceSub, Nat.reduceMul, Nat.reduceEqDiff, Int.reduceNeg, Int.reduceAdd, Int.reduceLT, Int.reduceLE, Int.reduceToNat, ↓reduceIte]
    try ((try and_intros) <;> first | exact trivial | omega | (show okDraw _ _ = true; kernel_rfl) | assumption)
  by_cases h4 : 1 < x.q
  · skip
    have htf : tryB ((m : Nat) : Int) x.q = false := by
      have hn : ¬ (0 ≤ x.q ∧ x.q ≤ 1) := fun h => by exact Rat.not_lt.2 h.2 h4
      cases ht : tryB ((m : Nat) : Int) x.q with
      | false => rfl
      | true => exact absurd (try_of ht).2.2 hn
    simp only [go_sem, d_law13_long, d_ref2_Int, d_ref2_Cmp, d_disc_Binom, d_law13_known, d_ref2_Add, d_ref2_Sub, d_ref2_Same, int0, int1, decide_true, decide_false, Bool.not_true, Bool.not_false, beq_self_eq_true, eq_self, fz_DiscAll, hw, h1, h2, h3, h4, htf, Nat.reduceBEq, Nat.reduceBNe, Nat.reduceLT, Nat.reduceLeDiff, Nat.reduceAdd, Nat.reduceSub, Nat.reduceMul, Nat.reduceEqDiff, Int.reduceNeg, Int.reduceAdd, Int.reduceLT, Int.reduceLE, Int.reduceToNat, ↓reduceIte]
    try ((try and_intros) <;> first | exact trivial | omega | (show okDraw _ _ = true; kernel_rfl) | assumption)
  have hq0 : 0 ≤ x.q := Rat.not_lt.1 h3
  have hq1 : x.q ≤ 1 := Rat.not_lt.1 h4
  have ht : tryB ((m : Nat) : Int) x.q = true := try_yes (by omega) (by omega) hq0 hq1
  simp only [go_sem, d_law13_long, d_ref2_Int, d_ref2_Cmp, d_disc_Binom, d_law13_known, d_ref2_Add, d_ref2_Sub, d_ref2_Same, int0, int1, decide_true, decide_false, Bool.not_true, Bool.not_false, beq_self_eq_true, eq_self, fz_DiscAll, hw, h1, h2, h3, h4, ht, Nat.reduceBEq, Nat.reduceBNe, Nat.reduceLT, Nat.reduceLeDiff, Nat.reduceAdd, Nat.reduceSub, Nat.reduceMul, Nat.reduceEqDiff, Int.reduceNeg, Int.reduceAdd, Int.reduceLT, Int.reduceLE, Int.reduceToNat, ↓reduceIte]
  and_intros
  all_goals try (first | omega | (show okDraw _ _ = true; kernel_rfl) | assumption)
  refine cut_bs fun C0 hC0 => ?_
  refine codeK_loop (fun i : { i : Nat // i ≤ m + 1 } => [(11, 0, .av (intV ((i.1 : Nat)))), (10, 0, .av (.one (.cel (.ptr 10 0)))), (10, 1, .cv (.bool (cr (sumTo (binQ x.q m) i.1)).s)), (10, 2, .cv (.lim none (cr (sumTo (binQ x.q m) i.1)).n)), (10, 3, .cv (.lim none (cr (sumTo (binQ x.q m) i.1)).d)), (7, 0, .av (.one (.cel (.ptr 7 0)))), (7, 1, .cv (.bool (cr (1)).s)), (7, 2, .cv (.lim none (cr (1)).n)), (7, 3, .cv (.lim none (cr (1)).d)), (5, 0, .av (.one (.cel (.ptr 5 0)))), (5, 1, .cv (.bool (x).s)), (5, 2, .cv (.lim none (x).n)), (5, 3, .cv (.lim none (x).d)), (0, 0, .av (intV ((m : Nat)))), (1, 0, .av (intV (k)))]) (fun i => m + 1 - i.1) ⟨0, by omega⟩ (le_of ?_) ?_
  · simp only [go_sem, leL, Nat.reduceBEq, Nat.reduceBNe, Nat.reduceLT, Nat.reduceLeDiff, Nat.reduceAdd, Nat.reduceSub, Nat.reduceMul, Nat.reduceEqDiff, Int.reduceNeg, Int.reduceAdd, Int.reduceLT, Int.reduceLE, Int.reduceToNat, ↓reduceIte, sumTo_zero, int0, int1, Int.ofNat_zero, Int.natCast_zero, Int.cast_ofNat_Int]
  · rintro ⟨i, hi0⟩
    have hi0 : i ≤ m + 1 := hi0
    have hms : rs (sumTo (binQ x.q m) i) ≤ 100000000 := by
      have h1 := rs_sumTo (fun j => rs_binQ hx sx2 hq0 hq1 (n := m) (by omega) j) i
      have h2 : i * (256001 + 1) ≤ 11 * (256001 + 1) := Nat.mul_le_mul_right _ (by omega)
      omega
    by_cases hi : i ≤ m
    · have hit : (((i : Nat) : Int) ≤ ((m : Nat) : Int)) = True := eq_true (by omega)
      have hb := bQ_in (n := m) (k := i) hq0 hq1 (by omega) hi
      have zi := rs_binQ hx sx2 hq0 hq1 (n := m) (by omega) i
      have hnx : sumTo (binQ x.q m) (i + 1) = sumTo (binQ x.q m) i + binQ x.q m i := rfl
      simp only [go_sem, d_law13_long, d_ref2_Int, d_ref2_Cmp, d_disc_Binom, d_law13_known, d_ref2_Add, d_ref2_Sub, d_ref2_Same, int0, int1, decide_true, decide_false, Bool.not_true, Bool.not_false, beq_self_eq_true, eq_self, fz_DiscAll, hw, h1, h2, h3, h4, ht, hit, hb, Nat.reduceBEq, Nat.reduceBNe, Nat.reduceLT, Nat.reduceLeDiff, Nat.reduceAdd, Nat.reduceSub, Nat.reduceMul, Nat.reduceEqDiff, Int.reduceNeg, Int.reduceAdd, Int.reduceLT, Int.reduceLE, Int.reduceToNat, ↓reduceIte]
      ((try and_intros) <;> first | exact trivial | omega | (show okDraw _ _ = true; kernel_rfl) | (show ∃ _, _; exact ⟨⟨i + 1, by omega⟩, by show m + 1 - (i + 1) < m + 1 - i; omega, le_of (by simp only [go_sem, leL, hnx, Nat.reduceBEq, Nat.reduceBNe, Nat.reduceLT, Nat.reduceLeDiff, Nat.reduceAdd, Nat.reduceSub, Nat.reduceMul, Nat.reduceEqDiff, Int.reduceNeg, Int.reduceAdd, Int.reduceLT, Int.reduceLE, Int.reduceToNat, ↓reduceIte]; try omega)⟩) | assumption)
    · have hit : (((i : Nat) : Int) ≤ ((m : Nat) : Int)) = False := eq_false (by omega)
      have ei : i = m + 1 := by omega
      subst ei
      have hE : sumTo (binQ x.q m) (m + 1) = 1 := bin_certain hq0 hq1 m
      obtain ⟨p1, p2, p3, p4⟩ := one_sub_parts hq0 hq1
      have rz : rs (1 - x.q) ≤ 3 := rsb_sub t1 rx (by omega)
      let y : RR := cr (1 - x.q)
      have yq : y.q = 1 - x.q := cr_q _
      have ysz : y.sz ≤ 1000 := by rw [cr_sz]; omega
      have zy := fun j : Int => rs_bQ (x := y) (cr_ok _) ysz ((m : Nat) : Int) j
      rw [yq] at zy
      have zyk := zy (IntKind.i64.wrap (((m : Nat) : Int) - k))
      have hturn : ¬ k < -1000 → ¬ 1000 < k → bQ ((m : Nat) : Int) k x.q = bQ ((m : Nat) : Int) (IntKind.i64.wrap (((m : Nat) : Int) - k)) (1 - x.q) := by
        intro h1 h2
        have hwr : IntKind.i64.wrap (((m : Nat) : Int) - k) = ((m : Nat) : Int) - k := IntWalk.i64_in _ ⟨by omega, by omega⟩
        rw [hwr]
        have ht2 : tryB ((m : Nat) : Int) (1 - x.q) = true := try_yes (by omega) (by omega) p3 p4
        unfold bQ
        by_cases hin : 0 ≤ k ∧ k ≤ (m : Nat)
        · rw [if_pos ⟨ht, hin.1, hin.2⟩, if_pos ⟨ht2, by omega, by omega⟩]
          obtain ⟨kk, rfl⟩ := Int.eq_ofNat_of_zero_le hin.1
          have e1 : (((m : Nat) : Int) - (kk : Nat)).toNat = m - kk := by omega
          rw [e1, Int.toNat_natCast, Int.toNat_natCast]
          exact (binQ_turn hq0 hq1 (by omega)).symm
        · rw [if_neg (fun h => hin ⟨h.2.1, h.2.2⟩), if_neg (fun h => hin ⟨by omega, by omega⟩)]
      simp only [go_sem, d_law13_long, d_ref2_Int, d_ref2_Cmp, d_disc_Binom, d_law13_known, d_ref2_Add, d_ref2_Sub, d_ref2_Same, int0, int1, decide_true, decide_false, Bool.not_true, Bool.not_false, beq_self_eq_true, eq_self, fz_DiscAll, hw, h1, h2, h3, h4, ht, hit, Nat.reduceBEq, Nat.reduceBNe, Nat.reduceLT, Nat.reduceLeDiff, Nat.reduceAdd, Nat.reduceSub, Nat.reduceMul, Nat.reduceEqDiff, Int.reduceNeg, Int.reduceAdd, Int.reduceLT, Int.reduceLE, Int.reduceToNat, ↓reduceIte]
      subst hC0
      by_cases g1 : k < -1000
      · skip
        refine cut_seq fun C hC => ?_
        simp only [go_sem, d_law13_long, d_ref2_Int, d_ref2_Cmp, d_disc_Binom, d_law13_known, d_ref2_Add, d_ref2_Sub, d_ref2_Same, int0, int1, decide_true, decide_false, Bool.not_true, Bool.not_false, beq_self_eq_true, eq_self, fz_DiscAll, hw, h1, h2, h3, h4, ht, hE, g1, Nat.reduceBEq, Nat.reduceBNe, Nat.reduceLT, Nat.reduceLeDiff, Nat.reduceAdd, Nat.reduceSub, Nat.reduceMul, Nat.reduceEqDiff, Int.reduceNeg, Int.reduceAdd, Int.reduceLT, Int.reduceLE, Int.reduceToNat, ↓reduceIte]
        try and_intros
        all_goals try (first | omega | (show okDraw _ _ = true; kernel_rfl) | ((try and_intros) <;> first | exact trivial | omega | (show okDraw _ _ = true; kernel_rfl) | assumption) | assumption)
        subst hC
        refine cut_seq fun C hC => ?_
        simp only [go_sem, d_law13_long, d_ref2_Int, d_ref2_Cmp, d_disc_Binom, d_law13_known, d_ref2_Add, d_ref2_Sub, d_ref2_Same, int0, int1, decide_true, decide_false, Bool.not_true, Bool.not_false, beq_self_eq_true, eq_self, fz_DiscAll, hw, h1, h2, h3, h4, ht, hE, g1, Nat.reduceBEq, Nat.reduceBNe, Nat.reduceLT, Nat.reduceLeDiff, Nat.reduceAdd, Nat.reduceSub, Nat.reduceMul, Nat.reduceEqDiff, Int.reduceNeg, Int.reduceAdd, Int.reduceLT, Int.reduceLE, Int.reduceToNat, ↓reduceIte]
        try and_intros
        all_goals try (first | omega | (show okDraw _ _ = true; kernel_rfl) | ((try and_intros) <;> first | exact trivial | omega | (show okDraw _ _ = true; kernel_rfl) | assumption) | assumption)
        subst hC
        simp only [go_sem, d_law13_long, d_ref2_Int, d_ref2_Cmp, d_disc_Binom, d_law13_known, d_ref2_Add, d_ref2_Sub, d_ref2_Same, int0, int1, decide_true, decide_false, Bool.not_true, Bool.not_false, beq_self_eq_true, eq_self, fz_DiscAll, hw, h1, h2, h3, h4, ht, hE, g1, Nat.reduceBEq, Nat.reduceBNe, Nat.reduceLT, Nat.reduceLeDiff, Nat.reduceAdd, Nat.reduceSub, Nat.reduceMul, Nat.reduceEqDiff, Int.reduceNeg, Int.reduceAdd, Int.reduceLT, Int.reduceLE, Int.reduceToNat, ↓reduceIte]
        ((try and_intros) <;> first | exact trivial | omega | (show okDraw _ _ = true; kernel_rfl) | assumption)
      by_cases g2 : 1000 < k
      · skip
        refine cut_seq fun C hC => ?_
        simp only [go_sem, d_law13_long, d_ref2_Int, d_ref2_Cmp, d_disc_Binom, d_law13_known, d_ref2_Add, d_ref2_Sub, d_ref2_Same, int0, int1, decide_true, decide_false, Bool.not_true, Bool.not_false, beq_self_eq_true, eq_self, fz_DiscAll, hw, h1, h2, h3, h4, ht, hE, g1, g2, Nat.reduceBEq, Nat.reduceBNe, Nat.reduceLT, Nat.reduceLeDiff, Nat.reduceAdd, Nat.reduceSub, Nat.reduceMul, Nat.reduceEqDiff, Int.reduceNeg, Int.reduceAdd, Int.reduceLT, Int.reduceLE, Int.reduceToNat, ↓reduceIte]
        try and_intros
        all_goals try (first | omega | (show okDraw _ _ = true; kernel_rfl) | ((try and_intros) <;> first | exact trivial | omega | (show okDraw _ _ = true; kernel_rfl) | assumption) | assumption)
        subst hC
        refine cut_seq fun C hC => ?_
        simp only [go_sem, d_law13_long, d_ref2_Int, d_ref2_Cmp, d_disc_Binom, d_law13_known, d_ref2_Add, d_ref2_Sub, d_ref2_Same, int0, int1, decide_true, decide_false, Bool.not_true, Bool.not_false, beq_self_eq_true, eq_self, fz_DiscAll, hw, h1, h2, h3, h4, ht, hE, g1, g2, Nat.reduceBEq, Nat.reduceBNe, Nat.reduceLT, Nat.reduceLeDiff, Nat.reduceAdd, Nat.reduceSub, Nat.reduceMul, Nat.reduceEqDiff, Int.reduceNeg, Int.reduceAdd, Int.reduceLT, Int.reduceLE, Int.reduceToNat, ↓reduceIte]
        try and_intros
        all_goals try (first | omega | (show okDraw _ _ = true; kernel_rfl) | ((try and_intros) <;> first | exact trivial | omega | (show okDraw _ _ = true; kernel_rfl) | assumption) | assumption)
        subst hC
        simp only [go_sem, d_law13_long, d_ref2_Int, d_ref2_Cmp, d_disc_Binom, d_law13_known, d_ref2_Add, d_ref2_Sub, d_ref2_Same, int0, int1, decide_true, decide_false, Bool.not_true, Bool.not_false, beq_self_eq_true, eq_self, fz_DiscAll, hw, h1, h2, h3, h4, ht, hE, g1, g2, Nat.reduceBEq, Nat.reduceBNe, Nat.reduceLT, Nat.reduceLeDiff, Nat.reduceAdd, Nat.reduceSub, Nat.reduceMul, Nat.reduceEqDiff, Int.reduceNeg, Int.reduceAdd, Int.reduceLT, Int.reduceLE, Int.reduceToNat, ↓reduceIte]
        ((try and_intros) <;> first | exact trivial | omega | (show okDraw _ _ = true; kernel_rfl) | assumption)
      have hT := hturn g1 g2
      have hTt := eq_true hT
      refine cut_seq fun C hC => ?_
      simp only [go_sem, d_law13_long, d_ref2_Int, d_ref2_Cmp, d_disc_Binom, d_law13_known, d_ref2_Add, d_ref2_Sub, d_ref2_Same, int0, int1, decide_true, decide_false, Bool.not_true, Bool.not_false, beq_self_eq_true, eq_self, fz_DiscAll, hw, h1, h2, h3, h4, ht, hE, g1, g2, Nat.reduceBEq, Nat.reduceBNe, Nat.reduceLT, Nat.reduceLeDiff, Nat.reduceAdd, Nat.reduceSub, Nat.reduceMul, Nat.reduceEqDiff, Int.reduceNeg, Int.reduceAdd, Int.reduceLT, Int.reduceLE, Int.reduceToNat, ↓reduceIte]
      try and_intros
      all_goals try (first | omega | (show okDraw _ _ = true; kernel_rfl) | ((try and_intros) <;> first | exact trivial | omega | (show okDraw _ _ = true; kernel_rfl) | assumption) | assumption)
      subst hC
      refine cut_seq fun C hC => ?_
      simp only [go_sem, d_law13_long, d_ref2_Int, d_ref2_Cmp, d_disc_Binom, d_law13_known, d_ref2_Add, d_ref2_Sub, d_ref2_Same, int0, int1, decide_true, decide_false, Bool.not_true, Bool.not_false, beq_self_eq_true, eq_self, fz_DiscAll, hw, h1, h2, h3, h4, ht, hE, g1, g2, Nat.reduceBEq, Nat.reduceBNe, Nat.reduceLT, Nat.reduceLeDiff, Nat.reduceAdd, Nat.reduceSub, Nat.reduceMul, Nat.reduceEqDiff, Int.reduceNeg, Int.reduceAdd, Int.reduceLT, Int.reduceLE, Int.reduceToNat, ↓reduceIte]
      try and_intros
      all_goals try (first | omega | (show okDraw _ _ = true; kernel_rfl) | ((try and_intros) <;> first | exact trivial | omega | (show okDraw _ _ = true; kernel_rfl) | assumption) | assumption)
      subst hC
      simp only [go_sem, d_law13_long, d_ref2_Int, d_ref2_Cmp, d_disc_Binom, d_law13_known, d_ref2_Add, d_ref2_Sub, d_ref2_Same, int0, int1, decide_true, decide_false, Bool.not_true, Bool.not_false, beq_self_eq_true, eq_self, fz_DiscAll, hw, h1, h2, h3, h4, ht, hE, g1, g2, hTt, Nat.reduceBEq, Nat.reduceBNe, Nat.reduceLT, Nat.reduceLeDiff, Nat.reduceAdd, Nat.reduceSub, Nat.reduceMul, Nat.reduceEqDiff, Int.reduceNeg, Int.reduceAdd, Int.reduceLT, Int.reduceLE, Int.reduceToNat, ↓reduceIte]
      ((try and_intros) <;> first | exact trivial | omega | (show okDraw _ _ = true; kernel_rfl) | assumption)

end Go.Proofs.Ytpppgmgdcpaffaa
