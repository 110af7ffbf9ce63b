/- The law BallReckons. Condition: rows shorter than 10^14. -/
import Derived.Test.YtmfoihjkhoinaaaBk
namespace Go.Proofs.Ytmfoihjkhoinaaa
open Go.RowKit
set_option linter.unusedSimpArgs false
set_option linter.unusedVariables false
def d_law4_BallReckons : Den := den3 aBall aBall aInt (fun a b n => a.sz ≤ 100000000000000 ∧ b.sz ≤ 100000000000000) fun a b n => boolV true
set_option maxRecDepth 100000 in
set_option maxHeartbeats 8000000 in
theorem s_law4_BallReckons : Sound Try.prog 27 d_law4_BallReckons := by
  refine sound3 (fz := nofz) (l := [(88, d_law4_wide), (133, d_ball_Div), (134, d_ref4_Div), (91, d_ball_Add), (135, d_ref4_Add), (81, d_ref4_Same), (92, d_ball_Sub), (136, d_ref4_Sub), (89, d_ball_Mul), (50, d_ref4_Mul), (85, d_ball_Neg), (137, d_ref4_Neg), (138, d_ball_Abs), (139, d_ref4_Abs), (140, d_ball_Pow), (141, d_ref4_Pow), (87, d_law4_known)]) TT_ok ⟨s_law4_wide, s_ball_Div, s_ref4_Div, s_ball_Add, s_ref4_Add, s_ref4_Same, s_ball_Sub, s_ref4_Sub, s_ball_Mul, s_ref4_Mul, s_ball_Neg, s_ref4_Neg, s_ball_Abs, s_ref4_Abs, s_ball_Pow, s_ref4_Pow, s_law4_known, trivial⟩ mixed Try.func27 Try.ntmps27 Try.results27 Try.call27 rfl (by omega) (fun _ _ _ => rfl) ?_
  intro a b n hp ha hb hn
  rw [codeK_start]
  have za := hp.1
  have zb := hp.2
  have hallb : ∀ r ∈ [a, b], r.sz ≤ 100000000000000 := by
    intro r hr
    simp only [List.mem_cons, List.not_mem_nil, or_false] at hr
    rcases hr with rfl | rfl <;> assumption
  by_cases hw : [a, b].any wideB = true
  · skip
    simp only [go_sem, d_law4_wide, d_ball_Div, d_ref4_Div, d_ball_Add, d_ref4_Add, d_ref4_Same, d_ball_Sub, d_ref4_Sub, d_ball_Mul, d_ref4_Mul, d_ball_Neg, d_ref4_Neg, d_ball_Abs, d_ref4_Abs, d_ball_Pow, d_ref4_Pow, d_law4_known, hw, Nat.reduceBEq, Nat.reduceBNe, Nat.reduceLT, Nat.reduceLeDiff, Nat.reduceAdd, Nat.reduceSub, Nat.reduceMul, Nat.reduceEqDiff, Int.reduceNeg, Int.reduceAdd, Int.reduceLT, Int.reduceLE, Int.reduceToNat, ↓reduceIte]
    first | exact hallb | (and_intros <;> first | exact hallb | assumption | trivial | (show okDraw _ _ = true; kernel_rfl))
  rw [Bool.not_eq_true] at hw
  obtain ⟨ua, va, ca, ea, oa, ia⟩ := wide_facts (any_false hw a (by simp))
  have xa : rs a.lo.q ≤ 3 := rs_ok ha.1 ua (by omega)
  have ya : rs a.hi.q ≤ 3 := rs_ok ha.2 va (by omega)
  have wa : a.sz ≤ 3 := Nat.max_le.2 ⟨ua, va⟩
  obtain ⟨ub, vb, cb, eb, ob, ib⟩ := wide_facts (any_false hw b (by simp))
  have xb : rs b.lo.q ≤ 3 := rs_ok hb.1 ub (by omega)
  have yb : rs b.hi.q ≤ 3 := rs_ok hb.2 vb (by omega)
  have wb : b.sz ≤ 3 := Nat.max_le.2 ⟨ub, vb⟩
  have d1 := rs_mulLo xa ya xb yb
  have d2 := rs_mulHi xa ya xb yb
  have d3 := rs_divLo xa ya xb yb (by omega)
  have d4 := rs_divHi xa ya xb yb (by omega)
  have s5 : rs (a.lo.q + b.lo.q) ≤ 7 := rsb_add xa xb (by omega)
  have s6 : rs (a.hi.q + b.hi.q) ≤ 7 := rsb_add ya yb (by omega)
  have s7 : rs (a.lo.q - b.hi.q) ≤ 7 := rsb_sub xa yb (by omega)
  have s8 : rs (a.hi.q - b.lo.q) ≤ 7 := rsb_sub ya xb (by omega)
  have s1 := rs_absLo xa ya (by omega)
  have s2 := rs_absHi xa ya
  have s3 : rs (-a.hi.q) ≤ 3 := rsb_neg ya
  have s4 : rs (-a.lo.q) ≤ 3 := rsb_neg xa
  by_cases g1 : n < 0
  · skip
    have p1 := rs_powLo xa ya (by omega) (pn_64 (n % 4))
    have p2 := rs_powHi xa ya (by omega) (pn_64 (n % 4))
    refine cut_seq fun C hC => ?_
    simp only [go_sem, d_law4_wide, d_ball_Div, d_ref4_Div, d_ball_Add, d_ref4_Add, d_ref4_Same, d_ball_Sub, d_ref4_Sub, d_ball_Mul, d_ref4_Mul, d_ball_Neg, d_ref4_Neg, d_ball_Abs, d_ref4_Abs, d_ball_Pow, d_ref4_Pow, d_law4_known, hw, and_3, sameB_self, beq_self_eq_true, eq_self, decide_true, decide_false, g1, Nat.reduceBEq, Nat.reduceBNe, Nat.reduceLT, Nat.reduceLeDiff, Nat.reduceAdd, Nat.reduceSub, Nat.reduceMul, Nat.reduceEqDiff, Int.reduceNeg, Int.reduceAdd, Int.reduceLT, Int.reduceLE, Int.reduceToNat, ↓reduceIte]
    try and_intros
    all_goals try (first | assumption | omega | (show okDraw _ _ = true; kernel_rfl) | exact hallb)
    subst hC
    refine cut_seq fun C hC => ?_
    simp only [go_sem, d_law4_wide, d_ball_Div, d_ref4_Div, d_ball_Add, d_ref4_Add, d_ref4_Same, d_ball_Sub, d_ref4_Sub, d_ball_Mul, d_ref4_Mul, d_ball_Neg, d_ref4_Neg, d_ball_Abs, d_ref4_Abs, d_ball_Pow, d_ref4_Pow, d_law4_known, hw, and_3, sameB_self, beq_self_eq_true, eq_self, decide_true, decide_false, g1, Nat.reduceBEq, Nat.reduceBNe, Nat.reduceLT, Nat.reduceLeDiff, Nat.reduceAdd, Nat.reduceSub, Nat.reduceMul, Nat.reduceEqDiff, Int.reduceNeg, Int.reduceAdd, Int.reduceLT, Int.reduceLE, Int.reduceToNat, ↓reduceIte]
    try and_intros
    all_goals try (first | assumption | omega | (show okDraw _ _ = true; kernel_rfl) | exact hallb)
    subst hC
    refine cut_seq fun C hC => ?_
    simp only [go_sem, d_law4_wide, d_ball_Div, d_ref4_Div, d_ball_Add, d_ref4_Add, d_ref4_Same, d_ball_Sub, d_ref4_Sub, d_ball_Mul, d_ref4_Mul, d_ball_Neg, d_ref4_Neg, d_ball_Abs, d_ref4_Abs, d_ball_Pow, d_ref4_Pow, d_law4_known, hw, and_3, sameB_self, beq_self_eq_true, eq_self, decide_true, decide_false, g1, Nat.reduceBEq, Nat.reduceBNe, Nat.reduceLT, Nat.reduceLeDiff, Nat.reduceAdd, Nat.reduceSub, Nat.reduceMul, Nat.reduceEqDiff, Int.reduceNeg, Int.reduceAdd, Int.reduceLT, Int.reduceLE, Int.reduceToNat, ↓reduceIte]
    try and_intros
    all_goals try (first | assumption | omega | (show okDraw _ _ = true; kernel_rfl) | exact hallb)
    subst hC
    refine cut_seq fun C hC => ?_
    simp only [go_sem, d_law4_wide, d_ball_Div, d_ref4_Div, d_ball_Add, d_ref4_Add, d_ref4_Same, d_ball_Sub, d_ref4_Sub, d_ball_Mul, d_ref4_Mul, d_ball_Neg, d_ref4_Neg, d_ball_Abs, d_ref4_Abs, d_ball_Pow, d_ref4_Pow, d_law4_known, hw, and_3, sameB_self, beq_self_eq_true, eq_self, decide_true, decide_false, g1, Nat.reduceBEq, Nat.reduceBNe, Nat.reduceLT, Nat.reduceLeDiff, Nat.reduceAdd, Nat.reduceSub, Nat.reduceMul, Nat.reduceEqDiff, Int.reduceNeg, Int.reduceAdd, Int.reduceLT, Int.reduceLE, Int.reduceToNat, ↓reduceIte]
    try and_intros
    all_goals try (first | assumption | omega | (show okDraw _ _ = true; kernel_rfl) | exact hallb)
    subst hC
    refine cut_seq fun C hC => ?_
    simp only [go_sem, d_law4_wide, d_ball_Div, d_ref4_Div, d_ball_Add, d_ref4_Add, d_ref4_Same, d_ball_Sub, d_ref4_Sub, d_ball_Mul, d_ref4_Mul, d_ball_Neg, d_ref4_Neg, d_ball_Abs, d_ref4_Abs, d_ball_Pow, d_ref4_Pow, d_law4_known, hw, and_3, sameB_self, beq_self_eq_true, eq_self, decide_true, decide_false, g1, Nat.reduceBEq, Nat.reduceBNe, Nat.reduceLT, Nat.reduceLeDiff, Nat.reduceAdd, Nat.reduceSub, Nat.reduceMul, Nat.reduceEqDiff, Int.reduceNeg, Int.reduceAdd, Int.reduceLT, Int.reduceLE, Int.reduceToNat, ↓reduceIte]
    try and_intros
    all_goals try (first | assumption | omega | (show okDraw _ _ = true; kernel_rfl) | exact hallb)
    subst hC
    simp only [go_sem, d_law4_wide, d_ball_Div, d_ref4_Div, d_ball_Add, d_ref4_Add, d_ref4_Same, d_ball_Sub, d_ref4_Sub, d_ball_Mul, d_ref4_Mul, d_ball_Neg, d_ref4_Neg, d_ball_Abs, d_ref4_Abs, d_ball_Pow, d_ref4_Pow, d_law4_known, hw, and_3, sameB_self, beq_self_eq_true, eq_self, decide_true, decide_false, g1, Nat.reduceBEq, Nat.reduceBNe, Nat.reduceLT, Nat.reduceLeDiff, Nat.reduceAdd, Nat.reduceSub, Nat.reduceMul, Nat.reduceEqDiff, Int.reduceNeg, Int.reduceAdd, Int.reduceLT, Int.reduceLE, Int.reduceToNat, ↓reduceIte]
    and_intros
    all_goals first
      | assumption
      | exact hallb
      | omega
      | exact Nat.max_le.2 ⟨by rw [cr_sz]; omega, by rw [cr_sz]; omega⟩
      | (show okDraw _ _ = true; kernel_rfl)
  by_cases g2 : (6 : Int) < n
  · skip
    have p1 := rs_powLo xa ya (by omega) (pn_64 (n % 4))
    have p2 := rs_powHi xa ya (by omega) (pn_64 (n % 4))
    refine cut_seq fun C hC => ?_
    simp only [go_sem, d_law4_wide, d_ball_Div, d_ref4_Div, d_ball_Add, d_ref4_Add, d_ref4_Same, d_ball_Sub, d_ref4_Sub, d_ball_Mul, d_ref4_Mul, d_ball_Neg, d_ref4_Neg, d_ball_Abs, d_ref4_Abs, d_ball_Pow, d_ref4_Pow, d_law4_known, hw, and_3, sameB_self, beq_self_eq_true, eq_self, decide_true, decide_false, g1, g2, Nat.reduceBEq, Nat.reduceBNe, Nat.reduceLT, Nat.reduceLeDiff, Nat.reduceAdd, Nat.reduceSub, Nat.reduceMul, Nat.reduceEqDiff, Int.reduceNeg, Int.reduceAdd, Int.reduceLT, Int.reduceLE, Int.reduceToNat, ↓reduceIte]
    try and_intros
    all_goals try (first | assumption | omega | (show okDraw _ _ = true; kernel_rfl) | exact hallb)
    subst hC
    refine cut_seq fun C hC => ?_
    simp only [go_sem, d_law4_wide, d_ball_Div, d_ref4_Div, d_ball_Add, d_ref4_Add, d_ref4_Same, d_ball_Sub, d_ref4_Sub, d_ball_Mul, d_ref4_Mul, d_ball_Neg, d_ref4_Neg, d_ball_Abs, d_ref4_Abs, d_ball_Pow, d_ref4_Pow, d_law4_known, hw, and_3, sameB_self, beq_self_eq_true, eq_self, decide_true, decide_false, g1, g2, Nat.reduceBEq, Nat.reduceBNe, Nat.reduceLT, Nat.reduceLeDiff, Nat.reduceAdd, Nat.reduceSub, Nat.reduceMul, Nat.reduceEqDiff, Int.reduceNeg, Int.reduceAdd, Int.reduceLT, Int.reduceLE, Int.reduceToNat, ↓reduceIte]
    try and_intros
    all_goals try (first | assumption | omega | (show okDraw _ _ = true; kernel_rfl) | exact hallb)
    subst hC
    refine cut_seq fun C hC => ?_
    simp only [go_sem, d_law4_wide, d_ball_Div, d_ref4_Div, d_ball_Add, d_ref4_Add, d_ref4_Same, d_ball_Sub, d_ref4_Sub, d_ball_Mul, d_ref4_Mul, d_ball_Neg, d_ref4_Neg, d_ball_Abs, d_ref4_Abs, d_ball_Pow, d_ref4_Pow, d_law4_known, hw, and_3, sameB_self, beq_self_eq_true, eq_self, decide_true, decide_false, g1, g2, Nat.reduceBEq, Nat.reduceBNe, Nat.reduceLT, Nat.reduceLeDiff, Nat.reduceAdd, Nat.reduceSub, Nat.reduceMul, Nat.reduceEqDiff, Int.reduceNeg, Int.reduceAdd, Int.reduceLT, Int.reduceLE, Int.reduceToNat, ↓reduceIte]
    try and_intros
    all_goals try (first | assumption | omega | (show okDraw _ _ = true; kernel_rfl) | exact hallb)
    subst hC
    refine cut_seq fun C hC => ?_
    simp only [go_sem, d_law4_wide, d_ball_Div, d_ref4_Div, d_ball_Add, d_ref4_Add, d_ref4_Same, d_ball_Sub, d_ref4_Sub, d_ball_Mul, d_ref4_Mul, d_ball_Neg, d_ref4_Neg, d_ball_Abs, d_ref4_Abs, d_ball_Pow, d_ref4_Pow, d_law4_known, hw, and_3, sameB_self, beq_self_eq_true, eq_self, decide_true, decide_false, g1, g2, Nat.reduceBEq, Nat.reduceBNe, Nat.reduceLT, Nat.reduceLeDiff, Nat.reduceAdd, Nat.reduceSub, Nat.reduceMul, Nat.reduceEqDiff, Int.reduceNeg, Int.reduceAdd, Int.reduceLT, Int.reduceLE, Int.reduceToNat, ↓reduceIte]
    try and_intros
    all_goals try (first | assumption | omega | (show okDraw _ _ = true; kernel_rfl) | exact hallb)
    subst hC
    refine cut_seq fun C hC => ?_
    simp only [go_sem, d_law4_wide, d_ball_Div, d_ref4_Div, d_ball_Add, d_ref4_Add, d_ref4_Same, d_ball_Sub, d_ref4_Sub, d_ball_Mul, d_ref4_Mul, d_ball_Neg, d_ref4_Neg, d_ball_Abs, d_ref4_Abs, d_ball_Pow, d_ref4_Pow, d_law4_known, hw, and_3, sameB_self, beq_self_eq_true, eq_self, decide_true, decide_false, g1, g2, Nat.reduceBEq, Nat.reduceBNe, Nat.reduceLT, Nat.reduceLeDiff, Nat.reduceAdd, Nat.reduceSub, Nat.reduceMul, Nat.reduceEqDiff, Int.reduceNeg, Int.reduceAdd, Int.reduceLT, Int.reduceLE, Int.reduceToNat, ↓reduceIte]
    try and_intros
    all_goals try (first | assumption | omega | (show okDraw _ _ = true; kernel_rfl) | exact hallb)
    subst hC
    simp only [go_sem, d_law4_wide, d_ball_Div, d_ref4_Div, d_ball_Add, d_ref4_Add, d_ref4_Same, d_ball_Sub, d_ref4_Sub, d_ball_Mul, d_ref4_Mul, d_ball_Neg, d_ref4_Neg, d_ball_Abs, d_ref4_Abs, d_ball_Pow, d_ref4_Pow, d_law4_known, hw, and_3, sameB_self, beq_self_eq_true, eq_self, decide_true, decide_false, g1, g2, Nat.reduceBEq, Nat.reduceBNe, Nat.reduceLT, Nat.reduceLeDiff, Nat.reduceAdd, Nat.reduceSub, Nat.reduceMul, Nat.reduceEqDiff, Int.reduceNeg, Int.reduceAdd, Int.reduceLT, Int.reduceLE, Int.reduceToNat, ↓reduceIte]
    and_intros
    all_goals first
      | assumption
      | exact hallb
      | omega
      | exact Nat.max_le.2 ⟨by rw [cr_sz]; omega, by rw [cr_sz]; omega⟩
      | (show okDraw _ _ = true; kernel_rfl)
  have p1 := rs_powLo xa ya (by omega) (pn_64 n)
  have p2 := rs_powHi xa ya (by omega) (pn_64 n)
  refine cut_seq fun C hC => ?_
  simp only [go_sem, d_law4_wide, d_ball_Div, d_ref4_Div, d_ball_Add, d_ref4_Add, d_ref4_Same, d_ball_Sub, d_ref4_Sub, d_ball_Mul, d_ref4_Mul, d_ball_Neg, d_ref4_Neg, d_ball_Abs, d_ref4_Abs, d_ball_Pow, d_ref4_Pow, d_law4_known, hw, and_3, sameB_self, beq_self_eq_true, eq_self, decide_true, decide_false, g1, g2, Nat.reduceBEq, Nat.reduceBNe, Nat.reduceLT, Nat.reduceLeDiff, Nat.reduceAdd, Nat.reduceSub, Nat.reduceMul, Nat.reduceEqDiff, Int.reduceNeg, Int.reduceAdd, Int.reduceLT, Int.reduceLE, Int.reduceToNat, ↓reduceIte]
  try and_intros
  all_goals try (first | assumption | omega | (show okDraw _ _ = true; kernel_rfl) | exact hallb)
  subst hC
  refine cut_seq fun C hC => ?_
  simp only [go_sem, d_law4_wide, d_ball_Div, d_ref4_Div, d_ball_Add, d_ref4_Add, d_ref4_Same, d_ball_Sub, d_ref4_Sub, d_ball_Mul, d_ref4_Mul, d_ball_Neg, d_ref4_Neg, d_ball_Abs, d_ref4_Abs, d_ball_Pow, d_ref4_Pow, d_law4_known, hw, and_3, sameB_self, beq_self_eq_true, eq_self, decide_true, decide_false, g1, g2, Nat.reduceBEq, Nat.reduceBNe, Nat.reduceLT, Nat.reduceLeDiff, Nat.reduceAdd, Nat.reduceSub, Nat.reduceMul, Nat.reduceEqDiff, Int.reduceNeg, Int.reduceAdd, Int.reduceLT, Int.reduceLE, Int.reduceToNat, ↓reduceIte]
  try and_intros
  all_goals try (first | assumption | omega | (show okDraw _ _ = true; kernel_rfl) | exact hallb)
  subst hC
  refine cut_seq fun C hC => ?_
  simp only [go_sem, d_law4_wide, d_ball_Div, d_ref4_Div, d_ball_Add, d_ref4_Add, d_ref4_Same, d_ball_Sub, d_ref4_Sub, d_ball_Mul, d_ref4_Mul, d_ball_Neg, d_ref4_Neg, d_ball_Abs, d_ref4_Abs, d_ball_Pow, d_ref4_Pow, d_law4_known, hw, and_3, sameB_self, beq_self_eq_true, eq_self, decide_true, decide_false, g1, g2, Nat.reduceBEq, Nat.reduceBNe, Nat.reduceLT, Nat.reduceLeDiff, Nat.reduceAdd, Nat.reduceSub, Nat.reduceMul, Nat.reduceEqDiff, Int.reduceNeg, Int.reduceAdd, Int.reduceLT, Int.reduceLE, Int.reduceToNat, ↓reduceIte]
  try and_intros
  all_goals try (first | assumption | omega | (show okDraw _ _ = true; kernel_rfl) | exact hallb)
  subst hC
  refine cut_seq fun C hC => ?_
  simp only [go_sem, d_law4_wide, d_ball_Div, d_ref4_Div, d_ball_Add, d_ref4_Add, d_ref4_Same, d_ball_Sub, d_ref4_Sub, d_ball_Mul, d_ref4_Mul, d_ball_Neg, d_ref4_Neg, d_ball_Abs, d_ref4_Abs, d_ball_Pow, d_ref4_Pow, d_law4_known, hw, and_3, sameB_self, beq_self_eq_true, eq_self, decide_true, decide_false, g1, g2, Nat.reduceBEq, Nat.reduceBNe, Nat.reduceLT, Nat.reduceLeDiff, Nat.reduceAdd, Nat.reduceSub, Nat.reduceMul, Nat.reduceEqDiff, Int.reduceNeg, Int.reduceAdd, Int.reduceLT, Int.reduceLE, Int.reduceToNat, ↓reduceIte]
  try and_intros
  all_goals try (first | assumption | omega | (show okDraw _ _ = true; kernel_rfl) | exact hallb)
  subst hC
  refine cut_seq fun C hC => ?_
  simp only [go_sem, d_law4_wide, d_ball_Div, d_ref4_Div, d_ball_Add, d_ref4_Add, d_ref4_Same, d_ball_Sub, d_ref4_Sub, d_ball_Mul, d_ref4_Mul, d_ball_Neg, d_ref4_Neg, d_ball_Abs, d_ref4_Abs, d_ball_Pow, d_ref4_Pow, d_law4_known, hw, and_3, sameB_self, beq_self_eq_true, eq_self, decide_true, decide_false, g1, g2, Nat.reduceBEq, Nat.reduceBNe, Nat.reduceLT, Nat.reduceLeDiff, Nat.reduceAdd, Nat.reduceSub, Nat.reduceMul, Nat.reduceEqDiff, Int.reduceNeg, Int.reduceAdd, Int.reduceLT, Int.reduceLE, Int.reduceToNat, ↓reduceIte]
  try and_intros
  all_goals try (first | assumption | omega | (show okDraw _ _ = true; kernel_rfl) | exact hallb)
  subst hC
  simp only [go_sem, d_law4_wide, d_ball_Div, d_ref4_Div, d_ball_Add, d_ref4_Add, d_ref4_Same, d_ball_Sub, d_ref4_Sub, d_ball_Mul, d_ref4_Mul, d_ball_Neg, d_ref4_Neg, d_ball_Abs, d_ref4_Abs, d_ball_Pow, d_ref4_Pow, d_law4_known, hw, and_3, sameB_self, beq_self_eq_true, eq_self, decide_true, decide_false, g1, g2, Nat.reduceBEq, Nat.reduceBNe, Nat.reduceLT, Nat.reduceLeDiff, Nat.reduceAdd, Nat.reduceSub, Nat.reduceMul, Nat.reduceEqDiff, Int.reduceNeg, Int.reduceAdd, Int.reduceLT, Int.reduceLE, Int.reduceToNat, ↓reduceIte]
  and_intros
  all_goals first
    | assumption
    | exact hallb
    | omega
    | exact Nat.max_le.2 ⟨by rw [cr_sz]; omega, by rw [cr_sz]; omega⟩
    | (show okDraw _ _ = true; kernel_rfl)

end Go.Proofs.Ytmfoihjkhoinaaa
