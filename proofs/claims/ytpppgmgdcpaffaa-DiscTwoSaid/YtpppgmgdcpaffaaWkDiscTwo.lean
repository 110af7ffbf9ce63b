/- The law DiscTwo. Condition: rows shorter than 10^14. -/
import Derived.Test.YtpppgmgdcpaffaaHh
import Derived.Test.YtpppgmgdcpaffaaBj
namespace Go.Proofs.Ytpppgmgdcpaffaa
open Go.RowKit
set_option linter.unusedSimpArgs false
set_option linter.unusedVariables false
/-- the code behind a block is laid aside, before the block's loop begins -/
theorem cut_bs {E : Env} {Q : AEx → AS → Prop} {k : List It} {s : AS} {id : Nat} {c c2 : Code} (h : ∀ C, C = c2 → codeK E Q (.block id :: .seq C :: k) c s) : codeK E Q (.block id :: .seq c2 :: k) c s := h c2 rfl
def d_law13_DiscTwo : Den := den2 aInt aRat (fun n x => x.sz ≤ 100000000000000) fun n x => boolV true
set_option maxRecDepth 100000 in
set_option maxHeartbeats 8000000 in
theorem s_law13_DiscTwo : Sound Try.prog 11 d_law13_DiscTwo := by
  refine sound2 (fz := nofz) (l := [(48, d_law13_long), (39, d_ref2_Int), (38, d_ref2_Cmp), (49, d_disc_Binom), (51, d_disc_BinomTwo), (34, d_ref2_Same), (50, d_law13_known)]) TT_ok ⟨s_law13_long, s_ref2_Int, s_ref2_Cmp, s_disc_Binom, s_disc_BinomTwo, s_ref2_Same, s_law13_known, trivial⟩ mixed Try.func11 Try.ntmps11 Try.results11 Try.call11 rfl (by omega) (fun _ _ => rfl) ?_
  intro n x hp hn hx
  rw [codeK_start]
  by_cases hw : longR x = true
  · skip
    simp only [go_sem, d_law13_long, d_ref2_Int, d_ref2_Cmp, d_disc_Binom, d_disc_BinomTwo, d_ref2_Same, d_law13_known, int0, int1, decide_true, decide_false, Bool.not_true, Bool.not_false, beq_self_eq_true, eq_self, hw, Nat.reduceBEq, Nat.reduceBNe, Nat.reduceLT, Nat.reduceLeDiff, Nat.reduceAdd, Nat.reduceSub, Nat.reduceMul, Nat.reduceEqDiff, Int.reduceNeg, Int.reduceAdd, Int.reduceLT, Int.reduceLE, Int.reduceToNat, ↓reduceIte]
    try ((try and_intros) <;> first | exact trivial | omega | (show okDraw _ _ = true; kernel_rfl) | assumption)
  rw [Bool.not_eq_true] at hw
  have sx : x.sz ≤ 1 := not_long hw
  have sx2 : x.sz ≤ 1000 := by omega
  have rx : rs x.q ≤ 1 := rs_ok hx sx (by omega)
  by_cases h1 : n < 0
  · skip
    simp only [go_sem, d_law13_long, d_ref2_Int, d_ref2_Cmp, d_disc_Binom, d_disc_BinomTwo, d_ref2_Same, d_law13_known, int0, int1, decide_true, decide_false, Bool.not_true, Bool.not_false, beq_self_eq_true, eq_self, hw, h1, Nat.reduceBEq, Nat.reduceBNe, Nat.reduceLT, Nat.reduceLeDiff, Nat.reduceAdd, Nat.reduceSub, Nat.reduceMul, Nat.reduceEqDiff, Int.reduceNeg, Int.reduceAdd, Int.reduceLT, Int.reduceLE, Int.reduceToNat, ↓reduceIte]
    try ((try and_intros) <;> first | exact trivial | omega | (show okDraw _ _ = true; kernel_rfl) | assumption)
  by_cases h2 : (9 : Int) < n
  · skip
    simp only [go_sem, d_law13_long, d_ref2_Int, d_ref2_Cmp, d_disc_Binom, d_disc_BinomTwo, d_ref2_Same, d_law13_known, int0, int1, decide_true, decide_false, Bool.not_true, Bool.not_false, beq_self_eq_true, eq_self, hw, h1, h2, Nat.reduceBEq, Nat.reduceBNe, Nat.reduceLT, Nat.reduceLeDiff, Nat.reduceAdd, Nat.reduceSub, Nat.reduceMul, Nat.reduceEqDiff, Int.reduceNeg, Int.reduceAdd, Int.reduceLT, Int.reduceLE, Int.reduceToNat, ↓reduceIte]
    try ((try and_intros) <;> first | exact trivial | omega | (show okDraw _ _ = true; kernel_rfl) | assumption)
  have t0 : rs (0 : Rat) ≤ 1 := rs0 (by omega)
  have t1 : rs (1 : Rat) ≤ 1 := rs1 (by omega)
  by_cases h3 : x.q < 0
  · skip
    simp only [go_sem, d_law13_long, d_ref2_Int, d_ref2_Cmp, d_disc_Binom, d_disc_BinomTwo, d_ref2_Same, d_law13_known, int0, int1, decide_true, decide_false, Bool.not_true, Bool.not_false, beq_self_eq_true, eq_self, hw, h1, h2, h3, Nat.reduceBEq, Nat.reduceBNe, Nat.reduceLT, Nat.reduceLeDiff, Nat.reduceAdd, Nat.reduceSub, Nat.reduceMul, Nat.reduceEqDiff, Int.reduceNeg, Int.reduceAdd, Int.reduceLT, Int.reduceLE, Int.reduceToNat, ↓reduceIte]
    try ((try and_intros) <;> first | exact trivial | omega | (show okDraw _ _ = true; kernel_rfl) | assumption)
  by_cases h4 : 1 < x.q
  · skip
    simp only [go_sem, d_law13_long, d_ref2_Int, d_ref2_Cmp, d_disc_Binom, d_disc_BinomTwo, d_ref2_Same, d_law13_known, int0, int1, decide_true, decide_false, Bool.not_true, Bool.not_false, beq_self_eq_true, eq_self, hw, h1, h2, h3, h4, Nat.reduceBEq, Nat.reduceBNe, Nat.reduceLT, Nat.reduceLeDiff, Nat.reduceAdd, Nat.reduceSub, Nat.reduceMul, Nat.reduceEqDiff, Int.reduceNeg, Int.reduceAdd, Int.reduceLT, Int.reduceLE, Int.reduceToNat, ↓reduceIte]
    try ((try and_intros) <;> first | exact trivial | omega | (show okDraw _ _ = true; kernel_rfl) | assumption)
  have hq0 : 0 ≤ x.q := Rat.not_lt.1 h3
  have hq1 : x.q ≤ 1 := Rat.not_lt.1 h4
  obtain ⟨m, rfl⟩ := Int.eq_ofNat_of_zero_le (show 0 ≤ n by omega)
  have hm : m ≤ 10 := by omega
  have ht : tryB ((m : Nat) : Int) x.q = true := try_yes (by omega) (by omega) hq0 hq1
  simp only [go_sem, d_law13_long, d_ref2_Int, d_ref2_Cmp, d_disc_Binom, d_disc_BinomTwo, d_ref2_Same, d_law13_known, int0, int1, decide_true, decide_false, Bool.not_true, Bool.not_false, beq_self_eq_true, eq_self, hw, h1, h2, h3, h4, ht, Nat.reduceBEq, Nat.reduceBNe, Nat.reduceLT, Nat.reduceLeDiff, Nat.reduceAdd, Nat.reduceSub, Nat.reduceMul, Nat.reduceEqDiff, Int.reduceNeg, Int.reduceAdd, Int.reduceLT, Int.reduceLE, Int.reduceToNat, ↓reduceIte]
  and_intros
  all_goals try (first | omega | (show okDraw _ _ = true; kernel_rfl) | assumption)
  refine cut_bs fun C0 hC0 => ?_
  refine codeK_loop (fun i : { i : Nat // i ≤ m + 1 } => [(7, 0, .av (intV ((i.1 : Nat)))), (5, 0, .av (intV ((bestN x.q m i.1 : Nat)))), (6, 0, .av (.one (.cel (.ptr 6 0)))), (6, 1, .cv (.bool (cr (mostQ x.q m i.1)).s)), (6, 2, .cv (.lim none (cr (mostQ x.q m i.1)).n)), (6, 3, .cv (.lim none (cr (mostQ x.q m i.1)).d)), (3, 0, .av (.one (.cel (.ptr 3 0)))), (3, 1, .cv (.bool (x).s)), (3, 2, .cv (.lim none (x).n)), (3, 3, .cv (.lim none (x).d)), (0, 0, .av (intV ((m : Nat))))]) (fun i => m + 1 - i.1) ⟨0, by omega⟩ (le_of ?_) ?_
  · have hm0 : mostQ x.q m 0 = -1 := rfl
    have hb0 : bestN x.q m 0 = 0 := rfl
    have hc1 : ((-1 : Int) : Rat) = -1 := rfl
    simp only [go_sem, leL, Nat.reduceBEq, Nat.reduceBNe, Nat.reduceLT, Nat.reduceLeDiff, Nat.reduceAdd, Nat.reduceSub, Nat.reduceMul, Nat.reduceEqDiff, Int.reduceNeg, Int.reduceAdd, Int.reduceLT, Int.reduceLE, Int.reduceToNat, ↓reduceIte, hm0, hb0, hc1, int0, Int.ofNat_zero, Int.natCast_zero, Int.cast_ofNat_Int]
  · rintro ⟨i, hi0⟩
    have hi0 : i ≤ m + 1 := hi0
    have zq := rs_mostQ hx sx2 hq0 hq1 (n := m) (by omega) i
    by_cases hi : i ≤ m
    · have hit : (((i : Nat) : Int) ≤ ((m : Nat) : Int)) = True := eq_true (by omega)
      have hb := bQ_in (n := m) (k := i) hq0 hq1 (by omega) hi
      obtain ⟨htq, htb⟩ := tQ_in (n := m) (k := i) hq0 hq1 (by omega) hi
      have zb := rs_binQ hx sx2 hq0 hq1 (n := m) (by omega) i
      have zt := rs_twoQ hx sx2 hq0 hq1 (n := m) (by omega) i
      have g1 : (twoQ x.q m i < binQ x.q m i) = False := eq_false (Rat.not_lt.2 (two_ge hi))
      have g2 : ((1 : Rat) < twoQ x.q m i) = False := eq_false (Rat.not_lt.2 (two_le hq0 hq1 m i))
      by_cases hmo : mostQ x.q m i < binQ x.q m i
      · have hmt := eq_true hmo
        obtain ⟨n1, n2⟩ := most_yes hmo
        simp only [go_sem, d_law13_long, d_ref2_Int, d_ref2_Cmp, d_disc_Binom, d_disc_BinomTwo, d_ref2_Same, d_law13_known, int0, int1, decide_true, decide_false, Bool.not_true, Bool.not_false, beq_self_eq_true, eq_self, hw, h1, h2, h3, h4, ht, hit, hb, htq, htb, g1, g2, hmt, Nat.reduceBEq, Nat.reduceBNe, Nat.reduceLT, Nat.reduceLeDiff, Nat.reduceAdd, Nat.reduceSub, Nat.reduceMul, Nat.reduceEqDiff, Int.reduceNeg, Int.reduceAdd, Int.reduceLT, Int.reduceLE, Int.reduceToNat, ↓reduceIte]
        ((try and_intros) <;> first | exact trivial | omega | (show okDraw _ _ = true; kernel_rfl) | (show ∃ _, _; exact ⟨⟨i + 1, by omega⟩, by show m + 1 - (i + 1) < m + 1 - i; omega, le_of (by simp only [go_sem, leL, n1, n2, Nat.reduceBEq, Nat.reduceBNe, Nat.reduceLT, Nat.reduceLeDiff, Nat.reduceAdd, Nat.reduceSub, Nat.reduceMul, Nat.reduceEqDiff, Int.reduceNeg, Int.reduceAdd, Int.reduceLT, Int.reduceLE, Int.reduceToNat, ↓reduceIte]; try omega)⟩) | assumption)
      · have hmt := eq_false hmo
        obtain ⟨n1, n2⟩ := most_no hmo
        simp only [go_sem, d_law13_long, d_ref2_Int, d_ref2_Cmp, d_disc_Binom, d_disc_BinomTwo, d_ref2_Same, d_law13_known, int0, int1, decide_true, decide_false, Bool.not_true, Bool.not_false, beq_self_eq_true, eq_self, hw, h1, h2, h3, h4, ht, hit, hb, htq, htb, g1, g2, hmt, Nat.reduceBEq, Nat.reduceBNe, Nat.reduceLT, Nat.reduceLeDiff, Nat.reduceAdd, Nat.reduceSub, Nat.reduceMul, Nat.reduceEqDiff, Int.reduceNeg, Int.reduceAdd, Int.reduceLT, Int.reduceLE, Int.reduceToNat, ↓reduceIte]
        ((try and_intros) <;> first | exact trivial | omega | (show okDraw _ _ = true; kernel_rfl) | (show ∃ _, _; exact ⟨⟨i + 1, by omega⟩, by show m + 1 - (i + 1) < m + 1 - i; omega, le_of (by simp only [go_sem, leL, n1, n2, Nat.reduceBEq, Nat.reduceBNe, Nat.reduceLT, Nat.reduceLeDiff, Nat.reduceAdd, Nat.reduceSub, Nat.reduceMul, Nat.reduceEqDiff, Int.reduceNeg, Int.reduceAdd, Int.reduceLT, Int.reduceLE, Int.reduceToNat, ↓reduceIte]; try omega)⟩) | assumption)
    · have hit : (((i : Nat) : Int) ≤ ((m : Nat) : Int)) = False := eq_false (by omega)
      have ei : i = m + 1 := by omega
      subst ei
      have hE := two_most hq0 hq1 m
      obtain ⟨htq, htb⟩ := tQ_in (n := m) (k := bestN x.q m (m + 1)) hq0 hq1 (by omega) (best_le x.q m)
      simp only [go_sem, d_law13_long, d_ref2_Int, d_ref2_Cmp, d_disc_Binom, d_disc_BinomTwo, d_ref2_Same, d_law13_known, int0, int1, decide_true, decide_false, Bool.not_true, Bool.not_false, beq_self_eq_true, eq_self, hw, h1, h2, h3, h4, ht, hit, Nat.reduceBEq, Nat.reduceBNe, Nat.reduceLT, Nat.reduceLeDiff, Nat.reduceAdd, Nat.reduceSub, Nat.reduceMul, Nat.reduceEqDiff, Int.reduceNeg, Int.reduceAdd, Int.reduceLT, Int.reduceLE, Int.reduceToNat, ↓reduceIte]
      subst hC0
      simp only [go_sem, d_law13_long, d_ref2_Int, d_ref2_Cmp, d_disc_Binom, d_disc_BinomTwo, d_ref2_Same, d_law13_known, int0, int1, decide_true, decide_false, Bool.not_true, Bool.not_false, beq_self_eq_true, eq_self, hw, h1, h2, h3, h4, ht, htq, htb, hE, Nat.reduceBEq, Nat.reduceBNe, Nat.reduceLT, Nat.reduceLeDiff, Nat.reduceAdd, Nat.reduceSub, Nat.reduceMul, Nat.reduceEqDiff, Int.reduceNeg, Int.reduceAdd, Int.reduceLT, Int.reduceLE, Int.reduceToNat, ↓reduceIte]
      ((try and_intros) <;> first | exact trivial | omega | (show okDraw _ _ = true; kernel_rfl) | assumption)

end Go.Proofs.Ytpppgmgdcpaffaa
