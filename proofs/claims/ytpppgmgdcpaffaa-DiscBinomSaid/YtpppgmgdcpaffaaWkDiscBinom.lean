/- The law DiscBinom. Condition: rows shorter than 10^14. -/
import Derived.Test.YtpppgmgdcpaffaaHh
import Derived.Test.YtpppgmgdcpaffaaBj
namespace Go.Proofs.Ytpppgmgdcpaffaa
open Go.RowKit
set_option linter.unusedSimpArgs false
set_option linter.unusedVariables false
def d_law13_DiscBinom : Den := den3 aInt aInt aRat (fun n k x => x.sz ≤ 100000000000000) fun n k x => boolV true
set_option maxRecDepth 100000 in
set_option maxHeartbeats 8000000 in
theorem s_law13_DiscBinom : Sound Try.prog 12 d_law13_DiscBinom := by
  refine sound3 (fz := nofz) (l := [(48, d_law13_long), (49, d_disc_Binom), (52, d_ref13_Binom), (53, d_disc_BinomCdf), (54, d_ref13_BinomCdf), (51, d_disc_BinomTwo), (55, d_ref13_BinomTwo), (34, d_ref2_Same), (50, d_law13_known)]) TT_ok ⟨s_law13_long, s_disc_Binom, s_ref13_Binom, s_disc_BinomCdf, s_ref13_BinomCdf, s_disc_BinomTwo, s_ref13_BinomTwo, s_ref2_Same, s_law13_known, trivial⟩ mixed Try.func12 Try.ntmps12 Try.results12 Try.call12 rfl (by omega) (fun _ _ _ => rfl) ?_
  intro n k x hp hn hk hx
  rw [codeK_start]
  by_cases hw : longR x = true
  · skip
    simp only [go_sem, d_law13_long, d_disc_Binom, d_ref13_Binom, d_disc_BinomCdf, d_ref13_BinomCdf, d_disc_BinomTwo, d_ref13_BinomTwo, d_ref2_Same, d_law13_known, int0, int1, decide_true, decide_false, Bool.not_true, Bool.not_false, beq_self_eq_true, eq_self, hw, Nat.reduceBEq, Nat.reduceBNe, Nat.reduceLT, Nat.reduceLeDiff, Nat.reduceAdd, Nat.reduceSub, Nat.reduceMul, Nat.reduceEqDiff, Int.reduceNeg, Int.reduceAdd, Int.reduceLT, Int.reduceLE, Int.reduceToNat, ↓reduceIte]
    try ((try and_intros) <;> first | exact trivial | omega | (show okDraw _ _ = true; kernel_rfl) | assumption)
  rw [Bool.not_eq_true] at hw
  have sx : x.sz ≤ 1 := not_long hw
  have sx2 : x.sz ≤ 1000 := by omega
  have rx : rs x.q ≤ 1 := rs_ok hx sx (by omega)
  by_cases h1 : (10 : Int) < n
  · skip
    by_cases h2 : n ≤ 256
    · skip
      have h2 := eq_true h2
      simp only [go_sem, d_law13_long, d_disc_Binom, d_ref13_Binom, d_disc_BinomCdf, d_ref13_BinomCdf, d_disc_BinomTwo, d_ref13_BinomTwo, d_ref2_Same, d_law13_known, int0, int1, decide_true, decide_false, Bool.not_true, Bool.not_false, beq_self_eq_true, eq_self, hw, h1, h2, Nat.reduceBEq, Nat.reduceBNe, Nat.reduceLT, Nat.reduceLeDiff, Nat.reduceAdd, Nat.reduceSub, Nat.reduceMul, Nat.reduceEqDiff, Int.reduceNeg, Int.reduceAdd, Int.reduceLT, Int.reduceLE, Int.reduceToNat, ↓reduceIte]
      try ((try and_intros) <;> first | exact trivial | omega | (show okDraw _ _ = true; kernel_rfl) | assumption)
    have h2 := eq_false h2
    have z1 := rs_bQ hx sx2 n k
    have z2 := rs_cQ hx sx2 n k
    have z3 := rs_tQ hx sx2 n k
    refine cut_seq fun C hC => ?_
    simp only [go_sem, d_law13_long, d_disc_Binom, d_ref13_Binom, d_disc_BinomCdf, d_ref13_BinomCdf, d_disc_BinomTwo, d_ref13_BinomTwo, d_ref2_Same, d_law13_known, int0, int1, decide_true, decide_false, Bool.not_true, Bool.not_false, beq_self_eq_true, eq_self, hw, h1, h2, Nat.reduceBEq, Nat.reduceBNe, Nat.reduceLT, Nat.reduceLeDiff, Nat.reduceAdd, Nat.reduceSub, Nat.reduceMul, Nat.reduceEqDiff, Int.reduceNeg, Int.reduceAdd, Int.reduceLT, Int.reduceLE, Int.reduceToNat, ↓reduceIte]
    try and_intros
    all_goals try (first | assumption | omega | (show okDraw _ _ = true; kernel_rfl) | ((try and_intros) <;> first | exact trivial | omega | (show okDraw _ _ = true; kernel_rfl) | assumption))
    subst hC
    refine cut_seq fun C hC => ?_
    simp only [go_sem, d_law13_long, d_disc_Binom, d_ref13_Binom, d_disc_BinomCdf, d_ref13_BinomCdf, d_disc_BinomTwo, d_ref13_BinomTwo, d_ref2_Same, d_law13_known, int0, int1, decide_true, decide_false, Bool.not_true, Bool.not_false, beq_self_eq_true, eq_self, hw, h1, h2, Nat.reduceBEq, Nat.reduceBNe, Nat.reduceLT, Nat.reduceLeDiff, Nat.reduceAdd, Nat.reduceSub, Nat.reduceMul, Nat.reduceEqDiff, Int.reduceNeg, Int.reduceAdd, Int.reduceLT, Int.reduceLE, Int.reduceToNat, ↓reduceIte]
    try and_intros
    all_goals try (first | assumption | omega | (show okDraw _ _ = true; kernel_rfl) | ((try and_intros) <;> first | exact trivial | omega | (show okDraw _ _ = true; kernel_rfl) | assumption))
    subst hC
    refine cut_seq fun C hC => ?_
    simp only [go_sem, d_law13_long, d_disc_Binom, d_ref13_Binom, d_disc_BinomCdf, d_ref13_BinomCdf, d_disc_BinomTwo, d_ref13_BinomTwo, d_ref2_Same, d_law13_known, int0, int1, decide_true, decide_false, Bool.not_true, Bool.not_false, beq_self_eq_true, eq_self, hw, h1, h2, Nat.reduceBEq, Nat.reduceBNe, Nat.reduceLT, Nat.reduceLeDiff, Nat.reduceAdd, Nat.reduceSub, Nat.reduceMul, Nat.reduceEqDiff, Int.reduceNeg, Int.reduceAdd, Int.reduceLT, Int.reduceLE, Int.reduceToNat, ↓reduceIte]
    try and_intros
    all_goals try (first | assumption | omega | (show okDraw _ _ = true; kernel_rfl) | ((try and_intros) <;> first | exact trivial | omega | (show okDraw _ _ = true; kernel_rfl) | assumption))
    subst hC
    refine cut_seq fun C hC => ?_
    simp only [go_sem, d_law13_long, d_disc_Binom, d_ref13_Binom, d_disc_BinomCdf, d_ref13_BinomCdf, d_disc_BinomTwo, d_ref13_BinomTwo, d_ref2_Same, d_law13_known, int0, int1, decide_true, decide_false, Bool.not_true, Bool.not_false, beq_self_eq_true, eq_self, hw, h1, h2, Nat.reduceBEq, Nat.reduceBNe, Nat.reduceLT, Nat.reduceLeDiff, Nat.reduceAdd, Nat.reduceSub, Nat.reduceMul, Nat.reduceEqDiff, Int.reduceNeg, Int.reduceAdd, Int.reduceLT, Int.reduceLE, Int.reduceToNat, ↓reduceIte]
    try and_intros
    all_goals try (first | assumption | omega | (show okDraw _ _ = true; kernel_rfl) | ((try and_intros) <;> first | exact trivial | omega | (show okDraw _ _ = true; kernel_rfl) | assumption))
    subst hC
    refine cut_seq fun C hC => ?_
    simp only [go_sem, d_law13_long, d_disc_Binom, d_ref13_Binom, d_disc_BinomCdf, d_ref13_BinomCdf, d_disc_BinomTwo, d_ref13_BinomTwo, d_ref2_Same, d_law13_known, int0, int1, decide_true, decide_false, Bool.not_true, Bool.not_false, beq_self_eq_true, eq_self, hw, h1, h2, Nat.reduceBEq, Nat.reduceBNe, Nat.reduceLT, Nat.reduceLeDiff, Nat.reduceAdd, Nat.reduceSub, Nat.reduceMul, Nat.reduceEqDiff, Int.reduceNeg, Int.reduceAdd, Int.reduceLT, Int.reduceLE, Int.reduceToNat, ↓reduceIte]
    try and_intros
    all_goals try (first | assumption | omega | (show okDraw _ _ = true; kernel_rfl) | ((try and_intros) <;> first | exact trivial | omega | (show okDraw _ _ = true; kernel_rfl) | assumption))
    subst hC
    refine cut_seq fun C hC => ?_
    simp only [go_sem, d_law13_long, d_disc_Binom, d_ref13_Binom, d_disc_BinomCdf, d_ref13_BinomCdf, d_disc_BinomTwo, d_ref13_BinomTwo, d_ref2_Same, d_law13_known, int0, int1, decide_true, decide_false, Bool.not_true, Bool.not_false, beq_self_eq_true, eq_self, hw, h1, h2, Nat.reduceBEq, Nat.reduceBNe, Nat.reduceLT, Nat.reduceLeDiff, Nat.reduceAdd, Nat.reduceSub, Nat.reduceMul, Nat.reduceEqDiff, Int.reduceNeg, Int.reduceAdd, Int.reduceLT, Int.reduceLE, Int.reduceToNat, ↓reduceIte]
    try and_intros
    all_goals try (first | assumption | omega | (show okDraw _ _ = true; kernel_rfl) | ((try and_intros) <;> first | exact trivial | omega | (show okDraw _ _ = true; kernel_rfl) | assumption))
    subst hC
    refine cut_seq fun C hC => ?_
    simp only [go_sem, d_law13_long, d_disc_Binom, d_ref13_Binom, d_disc_BinomCdf, d_ref13_BinomCdf, d_disc_BinomTwo, d_ref13_BinomTwo, d_ref2_Same, d_law13_known, int0, int1, decide_true, decide_false, Bool.not_true, Bool.not_false, beq_self_eq_true, eq_self, hw, h1, h2, Nat.reduceBEq, Nat.reduceBNe, Nat.reduceLT, Nat.reduceLeDiff, Nat.reduceAdd, Nat.reduceSub, Nat.reduceMul, Nat.reduceEqDiff, Int.reduceNeg, Int.reduceAdd, Int.reduceLT, Int.reduceLE, Int.reduceToNat, ↓reduceIte]
    try and_intros
    all_goals try (first | assumption | omega | (show okDraw _ _ = true; kernel_rfl) | ((try and_intros) <;> first | exact trivial | omega | (show okDraw _ _ = true; kernel_rfl) | assumption))
    subst hC
    refine cut_seq fun C hC => ?_
    simp only [go_sem, d_law13_long, d_disc_Binom, d_ref13_Binom, d_disc_BinomCdf, d_ref13_BinomCdf, d_disc_BinomTwo, d_ref13_BinomTwo, d_ref2_Same, d_law13_known, int0, int1, decide_true, decide_false, Bool.not_true, Bool.not_false, beq_self_eq_true, eq_self, hw, h1, h2, Nat.reduceBEq, Nat.reduceBNe, Nat.reduceLT, Nat.reduceLeDiff, Nat.reduceAdd, Nat.reduceSub, Nat.reduceMul, Nat.reduceEqDiff, Int.reduceNeg, Int.reduceAdd, Int.reduceLT, Int.reduceLE, Int.reduceToNat, ↓reduceIte]
    try and_intros
    all_goals try (first | assumption | omega | (show okDraw _ _ = true; kernel_rfl) | ((try and_intros) <;> first | exact trivial | omega | (show okDraw _ _ = true; kernel_rfl) | assumption))
    subst hC
    simp only [go_sem, d_law13_long, d_disc_Binom, d_ref13_Binom, d_disc_BinomCdf, d_ref13_BinomCdf, d_disc_BinomTwo, d_ref13_BinomTwo, d_ref2_Same, d_law13_known, int0, int1, decide_true, decide_false, Bool.not_true, Bool.not_false, beq_self_eq_true, eq_self, hw, h1, h2, Nat.reduceBEq, Nat.reduceBNe, Nat.reduceLT, Nat.reduceLeDiff, Nat.reduceAdd, Nat.reduceSub, Nat.reduceMul, Nat.reduceEqDiff, Int.reduceNeg, Int.reduceAdd, Int.reduceLT, Int.reduceLE, Int.reduceToNat, ↓reduceIte]
    ((try and_intros) <;> first | exact trivial | omega | (show okDraw _ _ = true; kernel_rfl) | assumption)
  have z1 := rs_bQ hx sx2 n k
  have z2 := rs_cQ hx sx2 n k
  have z3 := rs_tQ hx sx2 n k
  refine cut_seq fun C hC => ?_
  simp only [go_sem, d_law13_long, d_disc_Binom, d_ref13_Binom, d_disc_BinomCdf, d_ref13_BinomCdf, d_disc_BinomTwo, d_ref13_BinomTwo, d_ref2_Same, d_law13_known, int0, int1, decide_true, decide_false, Bool.not_true, Bool.not_false, beq_self_eq_true, eq_self, hw, h1, Nat.reduceBEq, Nat.reduceBNe, Nat.reduceLT, Nat.reduceLeDiff, Nat.reduceAdd, Nat.reduceSub, Nat.reduceMul, Nat.reduceEqDiff, Int.reduceNeg, Int.reduceAdd, Int.reduceLT, Int.reduceLE, Int.reduceToNat, ↓reduceIte]
  try and_intros
  all_goals try (first | assumption | omega | (show okDraw _ _ = true; kernel_rfl) | ((try and_intros) <;> first | exact trivial | omega | (show okDraw _ _ = true; kernel_rfl) | assumption))
  subst hC
  refine cut_seq fun C hC => ?_
  simp only [go_sem, d_law13_long, d_disc_Binom, d_ref13_Binom, d_disc_BinomCdf, d_ref13_BinomCdf, d_disc_BinomTwo, d_ref13_BinomTwo, d_ref2_Same, d_law13_known, int0, int1, decide_true, decide_false, Bool.not_true, Bool.not_false, beq_self_eq_true, eq_self, hw, h1, Nat.reduceBEq, Nat.reduceBNe, Nat.reduceLT, Nat.reduceLeDiff, Nat.reduceAdd, Nat.reduceSub, Nat.reduceMul, Nat.reduceEqDiff, Int.reduceNeg, Int.reduceAdd, Int.reduceLT, Int.reduceLE, Int.reduceToNat, ↓reduceIte]
  try and_intros
  all_goals try (first | assumption | omega | (show okDraw _ _ = true; kernel_rfl) | ((try and_intros) <;> first | exact trivial | omega | (show okDraw _ _ = true; kernel_rfl) | assumption))
  subst hC
  refine cut_seq fun C hC => ?_
  simp only [go_sem, d_law13_long, d_disc_Binom, d_ref13_Binom, d_disc_BinomCdf, d_ref13_BinomCdf, d_disc_BinomTwo, d_ref13_BinomTwo, d_ref2_Same, d_law13_known, int0, int1, decide_true, decide_false, Bool.not_true, Bool.not_false, beq_self_eq_true, eq_self, hw, h1, Nat.reduceBEq, Nat.reduceBNe, Nat.reduceLT, Nat.reduceLeDiff, Nat.reduceAdd, Nat.reduceSub, Nat.reduceMul, Nat.reduceEqDiff, Int.reduceNeg, Int.reduceAdd, Int.reduceLT, Int.reduceLE, Int.reduceToNat, ↓reduceIte]
  try and_intros
  all_goals try (first | assumption | omega | (show okDraw _ _ = true; kernel_rfl) | ((try and_intros) <;> first | exact trivial | omega | (show okDraw _ _ = true; kernel_rfl) | assumption))
  subst hC
  refine cut_seq fun C hC => ?_
  simp only [go_sem, d_law13_long, d_disc_Binom, d_ref13_Binom, d_disc_BinomCdf, d_ref13_BinomCdf, d_disc_BinomTwo, d_ref13_BinomTwo, d_ref2_Same, d_law13_known, int0, int1, decide_true, decide_false, Bool.not_true, Bool.not_false, beq_self_eq_true, eq_self, hw, h1, Nat.reduceBEq, Nat.reduceBNe, Nat.reduceLT, Nat.reduceLeDiff, Nat.reduceAdd, Nat.reduceSub, Nat.reduceMul, Nat.reduceEqDiff, Int.reduceNeg, Int.reduceAdd, Int.reduceLT, Int.reduceLE, Int.reduceToNat, ↓reduceIte]
  try and_intros
  all_goals try (first | assumption | omega | (show okDraw _ _ = true; kernel_rfl) | ((try and_intros) <;> first | exact trivial | omega | (show okDraw _ _ = true; kernel_rfl) | assumption))
  subst hC
  refine cut_seq fun C hC => ?_
  simp only [go_sem, d_law13_long, d_disc_Binom, d_ref13_Binom, d_disc_BinomCdf, d_ref13_BinomCdf, d_disc_BinomTwo, d_ref13_BinomTwo, d_ref2_Same, d_law13_known, int0, int1, decide_true, decide_false, Bool.not_true, Bool.not_false, beq_self_eq_true, eq_self, hw, h1, Nat.reduceBEq, Nat.reduceBNe, Nat.reduceLT, Nat.reduceLeDiff, Nat.reduceAdd, Nat.reduceSub, Nat.reduceMul, Nat.reduceEqDiff, Int.reduceNeg, Int.reduceAdd, Int.reduceLT, Int.reduceLE, Int.reduceToNat, ↓reduceIte]
  try and_intros
  all_goals try (first | assumption | omega | (show okDraw _ _ = true; kernel_rfl) | ((try and_intros) <;> first | exact trivial | omega | (show okDraw _ _ = true; kernel_rfl) | assumption))
  subst hC
  refine cut_seq fun C hC => ?_
  simp only [go_sem, d_law13_long, d_disc_Binom, d_ref13_Binom, d_disc_BinomCdf, d_ref13_BinomCdf, d_disc_BinomTwo, d_ref13_BinomTwo, d_ref2_Same, d_law13_known, int0, int1, decide_true, decide_false, Bool.not_true, Bool.not_false, beq_self_eq_true, eq_self, hw, h1, Nat.reduceBEq, Nat.reduceBNe, Nat.reduceLT, Nat.reduceLeDiff, Nat.reduceAdd, Nat.reduceSub, Nat.reduceMul, Nat.reduceEqDiff, Int.reduceNeg, Int.reduceAdd, Int.reduceLT, Int.reduceLE, Int.reduceToNat, ↓reduceIte]
  try and_intros
  all_goals try (first | assumption | omega | (show okDraw _ _ = true; kernel_rfl) | ((try and_intros) <;> first | exact trivial | omega | (show okDraw _ _ = true; kernel_rfl) | assumption))
  subst hC
  refine cut_seq fun C hC => ?_
  simp only [go_sem, d_law13_long, d_disc_Binom, d_ref13_Binom, d_disc_BinomCdf, d_ref13_BinomCdf, d_disc_BinomTwo, d_ref13_BinomTwo, d_ref2_Same, d_law13_known, int0, int1, decide_true, decide_false, Bool.not_true, Bool.not_false, beq_self_eq_true, eq_self, hw, h1, Nat.reduceBEq, Nat.reduceBNe, Nat.reduceLT, Nat.reduceLeDiff, Nat.reduceAdd, Nat.reduceSub, Nat.reduceMul, Nat.reduceEqDiff, Int.reduceNeg, Int.reduceAdd, Int.reduceLT, Int.reduceLE, Int.reduceToNat, ↓reduceIte]
  try and_intros
  all_goals try (first | assumption | omega | (show okDraw _ _ = true; kernel_rfl) | ((try and_intros) <;> first | exact trivial | omega | (show okDraw _ _ = true; kernel_rfl) | assumption))
  subst hC
  refine cut_seq fun C hC => ?_
  simp only [go_sem, d_law13_long, d_disc_Binom, d_ref13_Binom, d_disc_BinomCdf, d_ref13_BinomCdf, d_disc_BinomTwo, d_ref13_BinomTwo, d_ref2_Same, d_law13_known, int0, int1, decide_true, decide_false, Bool.not_true, Bool.not_false, beq_self_eq_true, eq_self, hw, h1, Nat.reduceBEq, Nat.reduceBNe, Nat.reduceLT, Nat.reduceLeDiff, Nat.reduceAdd, Nat.reduceSub, Nat.reduceMul, Nat.reduceEqDiff, Int.reduceNeg, Int.reduceAdd, Int.reduceLT, Int.reduceLE, Int.reduceToNat, ↓reduceIte]
  try and_intros
  all_goals try (first | assumption | omega | (show okDraw _ _ = true; kernel_rfl) | ((try and_intros) <;> first | exact trivial | omega | (show okDraw _ _ = true; kernel_rfl) | assumption))
  subst hC
  simp only [go_sem, d_law13_long, d_disc_Binom, d_ref13_Binom, d_disc_BinomCdf, d_ref13_BinomCdf, d_disc_BinomTwo, d_ref13_BinomTwo, d_ref2_Same, d_law13_known, int0, int1, decide_true, decide_false, Bool.not_true, Bool.not_false, beq_self_eq_true, eq_self, hw, h1, Nat.reduceBEq, Nat.reduceBNe, Nat.reduceLT, Nat.reduceLeDiff, Nat.reduceAdd, Nat.reduceSub, Nat.reduceMul, Nat.reduceEqDiff, Int.reduceNeg, Int.reduceAdd, Int.reduceLT, Int.reduceLE, Int.reduceToNat, ↓reduceIte]
  ((try and_intros) <;> first | exact trivial | omega | (show okDraw _ _ = true; kernel_rfl) | assumption)

end Go.Proofs.Ytpppgmgdcpaffaa
