/- The law BallHolds. Condition: rows shorter than 10^14. -/
import Derived.Test.YtmfoihjkhoinaaaBk
namespace Go.Proofs.Ytmfoihjkhoinaaa
open Go.RowKit
set_option linter.unusedSimpArgs false
set_option linter.unusedVariables false
def d_law4_BallHolds : Den := den4 aBall aBall aInt aInt (fun a b i k => a.sz ≤ 100000000000000 ∧ b.sz ≤ 100000000000000) fun a b i k => boolV true
set_option maxRecDepth 100000 in
set_option maxHeartbeats 8000000 in
theorem s_law4_BallHolds : Sound Try.prog 28 d_law4_BallHolds := by
  refine sound4 (fz := nofz) (l := [(88, d_law4_wide), (142, d_law4_along), (133, d_ball_Div), (93, d_ref2_Div), (124, d_ref4_Has), (91, d_ball_Add), (59, d_ref2_Add), (92, d_ball_Sub), (95, d_ref2_Sub), (89, d_ball_Mul), (42, d_ref2_Mul), (140, d_ball_Pow), (87, d_law4_known)]) TT_ok ⟨s_law4_wide, s_law4_along, s_ball_Div, s_ref2_Div, s_ref4_Has, s_ball_Add, s_ref2_Add, s_ball_Sub, s_ref2_Sub, s_ball_Mul, s_ref2_Mul, s_ball_Pow, s_law4_known, trivial⟩ mixed Try.func28 Try.ntmps28 Try.results28 Try.call28 rfl (by omega) (fun _ _ _ _ => rfl) ?_
  intro a b i k hp ha hb hi hk
  rw [codeK_start]
  have za := hp.1
  have zb := hp.2
  have hallb : ∀ r ∈ [a, b], r.sz ≤ 100000000000000 := by
    intro r hr
    simp only [List.mem_cons, List.not_mem_nil, or_false] at hr
    rcases hr with rfl | rfl <;> assumption
  by_cases hw : [a, b].any wideB = true
  · skip
    simp only [go_sem, d_law4_wide, d_law4_along, d_ball_Div, d_ref2_Div, d_ref4_Has, d_ball_Add, d_ref2_Add, d_ball_Sub, d_ref2_Sub, d_ball_Mul, d_ref2_Mul, d_ball_Pow, d_law4_known, hw, Nat.reduceBEq, Nat.reduceBNe, Nat.reduceLT, Nat.reduceLeDiff, Nat.reduceAdd, Nat.reduceSub, Nat.reduceMul, Nat.reduceEqDiff, Int.reduceNeg, Int.reduceAdd, Int.reduceLT, Int.reduceLE, Int.reduceToNat, ↓reduceIte]
    first | exact hallb | (and_intros <;> first | exact hallb | assumption | trivial | (show okDraw _ _ = true; kernel_rfl))
  rw [Bool.not_eq_true] at hw
  obtain ⟨ua, va, ca, ea, oa, ia⟩ := wide_facts (any_false hw a (by simp))
  have xa : rs a.lo.q ≤ 3 := rs_ok ha.1 ua (by omega)
  have ya : rs a.hi.q ≤ 3 := rs_ok ha.2 va (by omega)
  have wa : a.sz ≤ 3 := Nat.max_le.2 ⟨ua, va⟩
  obtain ⟨ub, vb, cb, eb, ob, ib⟩ := wide_facts (any_false hw b (by simp))
  have xb : rs b.lo.q ≤ 3 := rs_ok hb.1 ub (by omega)
  have yb : rs b.hi.q ≤ 3 := rs_ok hb.2 vb (by omega)
  have wb : b.sz ≤ 3 := Nat.max_le.2 ⟨ub, vb⟩
  have d1 := rs_mulLo xa ya xb yb
  have d2 := rs_mulHi xa ya xb yb
  have d3 := rs_divLo xa ya xb yb (by omega)
  have d4 := rs_divHi xa ya xb yb (by omega)
  have s5 : rs (a.lo.q + b.lo.q) ≤ 7 := rsb_add xa xb (by omega)
  have s6 : rs (a.hi.q + b.hi.q) ≤ 7 := rsb_add ya yb (by omega)
  have s7 : rs (a.lo.q - b.hi.q) ≤ 7 := rsb_sub xa yb (by omega)
  have s8 : rs (a.hi.q - b.lo.q) ≤ 7 := rsb_sub ya xb (by omega)
  have m1 := along_mem oa i
  have m2 := along_mem ob k
  have t1 := rs_alongQ xa ya i
  have t2 := rs_alongQ xb yb k
  have p0 : pn 2 = 2 := by decide
  have p1 := rs_powLo xa ya (by omega) (pn_64 2)
  have p2 := rs_powHi xa ya (by omega) (pn_64 2)
  have hm := mul_holds a b m1.1 m1.2 m2.1 m2.2
  have hpw := pow_holds m1.1 m1.2
  have hdv := fun h0 => div_holds a b h0 m1.1 m1.2 m2.1 m2.2
  generalize hxx : alongQ a.lo.q a.hi.q i = x at *
  generalize hyy : alongQ b.lo.q b.hi.q k = y at *
  have j1 : hasB (a.lo.q + b.lo.q) (a.hi.q + b.hi.q) (x + y) = true := hasB_of (by grind) (by grind)
  have j2 : hasB (a.lo.q - b.hi.q) (a.hi.q - b.lo.q) (x - y) = true := hasB_of (by grind) (by grind)
  have j3 : hasB (mulLo a b) (mulHi a b) (x * y) = true := hasB_of hm.1 hm.2
  have j4 : hasB (powLo a.lo.q a.hi.q (pn 2)) (powHi a.lo.q a.hi.q (pn 2)) (x * x) = true := by rw [p0]; exact hasB_of hpw.1 hpw.2
  have v1 : rs (x + y) ≤ 25 := rsb_add t1 t2 (by omega)
  have v2 : rs (x - y) ≤ 25 := rsb_sub t1 t2 (by omega)
  have v3 : rs (x * y) ≤ 24 := rsb_mul t1 t2 (by omega)
  have v4 : rs (x * x) ≤ 24 := rsb_mul t1 t1 (by omega)
  have v5 : rs (x / y) ≤ 24 := rsb_div t1 t2 (by omega)
  cases hz : zeroIn b
  · skip
    obtain ⟨y0, z1, z2⟩ := hdv hz
    have j5 : hasB (divLo a b) (divHi a b) (x / y) = true := hasB_of z1 z2
    have y1 : (y = 0) = False := eq_false y0
    refine cut_seq fun C hC => ?_
    simp only [go_sem, d_law4_wide, d_law4_along, d_ball_Div, d_ref2_Div, d_ref4_Has, d_ball_Add, d_ref2_Add, d_ball_Sub, d_ref2_Sub, d_ball_Mul, d_ref2_Mul, d_ball_Pow, d_law4_known, hw, hxx, hyy, j1, j2, j3, j4, eq_self, decide_true, decide_false, hz, j5, y1, not_false_eq_true, Nat.reduceBEq, Nat.reduceBNe, Nat.reduceLT, Nat.reduceLeDiff, Nat.reduceAdd, Nat.reduceSub, Nat.reduceMul, Nat.reduceEqDiff, Int.reduceNeg, Int.reduceAdd, Int.reduceLT, Int.reduceLE, Int.reduceToNat, ↓reduceIte]
    try and_intros
    all_goals try (first | assumption | omega | (show okDraw _ _ = true; kernel_rfl) | exact hallb | exact Nat.max_le.2 ⟨by rw [cr_sz]; omega, by rw [cr_sz]; omega⟩)
    subst hC
    refine cut_seq fun C hC => ?_
    simp only [go_sem, d_law4_wide, d_law4_along, d_ball_Div, d_ref2_Div, d_ref4_Has, d_ball_Add, d_ref2_Add, d_ball_Sub, d_ref2_Sub, d_ball_Mul, d_ref2_Mul, d_ball_Pow, d_law4_known, hw, hxx, hyy, j1, j2, j3, j4, eq_self, decide_true, decide_false, hz, j5, y1, not_false_eq_true, Nat.reduceBEq, Nat.reduceBNe, Nat.reduceLT, Nat.reduceLeDiff, Nat.reduceAdd, Nat.reduceSub, Nat.reduceMul, Nat.reduceEqDiff, Int.reduceNeg, Int.reduceAdd, Int.reduceLT, Int.reduceLE, Int.reduceToNat, ↓reduceIte]
    try and_intros
    all_goals try (first | assumption | omega | (show okDraw _ _ = true; kernel_rfl) | exact hallb | exact Nat.max_le.2 ⟨by rw [cr_sz]; omega, by rw [cr_sz]; omega⟩)
    subst hC
    refine cut_seq fun C hC => ?_
    simp only [go_sem, d_law4_wide, d_law4_along, d_ball_Div, d_ref2_Div, d_ref4_Has, d_ball_Add, d_ref2_Add, d_ball_Sub, d_ref2_Sub, d_ball_Mul, d_ref2_Mul, d_ball_Pow, d_law4_known, hw, hxx, hyy, j1, j2, j3, j4, eq_self, decide_true, decide_false, hz, j5, y1, not_false_eq_true, Nat.reduceBEq, Nat.reduceBNe, Nat.reduceLT, Nat.reduceLeDiff, Nat.reduceAdd, Nat.reduceSub, Nat.reduceMul, Nat.reduceEqDiff, Int.reduceNeg, Int.reduceAdd, Int.reduceLT, Int.reduceLE, Int.reduceToNat, ↓reduceIte]
    try and_intros
    all_goals try (first | assumption | omega | (show okDraw _ _ = true; kernel_rfl) | exact hallb | exact Nat.max_le.2 ⟨by rw [cr_sz]; omega, by rw [cr_sz]; omega⟩)
    subst hC
    refine cut_seq fun C hC => ?_
    simp only [go_sem, d_law4_wide, d_law4_along, d_ball_Div, d_ref2_Div, d_ref4_Has, d_ball_Add, d_ref2_Add, d_ball_Sub, d_ref2_Sub, d_ball_Mul, d_ref2_Mul, d_ball_Pow, d_law4_known, hw, hxx, hyy, j1, j2, j3, j4, eq_self, decide_true, decide_false, hz, j5, y1, not_false_eq_true, Nat.reduceBEq, Nat.reduceBNe, Nat.reduceLT, Nat.reduceLeDiff, Nat.reduceAdd, Nat.reduceSub, Nat.reduceMul, Nat.reduceEqDiff, Int.reduceNeg, Int.reduceAdd, Int.reduceLT, Int.reduceLE, Int.reduceToNat, ↓reduceIte]
    try and_intros
    all_goals try (first | assumption | omega | (show okDraw _ _ = true; kernel_rfl) | exact hallb | exact Nat.max_le.2 ⟨by rw [cr_sz]; omega, by rw [cr_sz]; omega⟩)
    subst hC
    refine cut_seq fun C hC => ?_
    simp only [go_sem, d_law4_wide, d_law4_along, d_ball_Div, d_ref2_Div, d_ref4_Has, d_ball_Add, d_ref2_Add, d_ball_Sub, d_ref2_Sub, d_ball_Mul, d_ref2_Mul, d_ball_Pow, d_law4_known, hw, hxx, hyy, j1, j2, j3, j4, eq_self, decide_true, decide_false, hz, j5, y1, not_false_eq_true, Nat.reduceBEq, Nat.reduceBNe, Nat.reduceLT, Nat.reduceLeDiff, Nat.reduceAdd, Nat.reduceSub, Nat.reduceMul, Nat.reduceEqDiff, Int.reduceNeg, Int.reduceAdd, Int.reduceLT, Int.reduceLE, Int.reduceToNat, ↓reduceIte]
    try and_intros
    all_goals try (first | assumption | omega | (show okDraw _ _ = true; kernel_rfl) | exact hallb | exact Nat.max_le.2 ⟨by rw [cr_sz]; omega, by rw [cr_sz]; omega⟩)
    subst hC
    simp only [go_sem, d_law4_wide, d_law4_along, d_ball_Div, d_ref2_Div, d_ref4_Has, d_ball_Add, d_ref2_Add, d_ball_Sub, d_ref2_Sub, d_ball_Mul, d_ref2_Mul, d_ball_Pow, d_law4_known, hw, hxx, hyy, j1, j2, j3, j4, eq_self, decide_true, decide_false, hz, j5, y1, not_false_eq_true, Nat.reduceBEq, Nat.reduceBNe, Nat.reduceLT, Nat.reduceLeDiff, Nat.reduceAdd, Nat.reduceSub, Nat.reduceMul, Nat.reduceEqDiff, Int.reduceNeg, Int.reduceAdd, Int.reduceLT, Int.reduceLE, Int.reduceToNat, ↓reduceIte]
    and_intros
    all_goals first
      | assumption
      | exact hallb
      | omega
      | exact Nat.max_le.2 ⟨by rw [cr_sz]; omega, by rw [cr_sz]; omega⟩
      | (show okDraw _ _ = true; kernel_rfl)
  refine cut_seq fun C hC => ?_
  simp only [go_sem, d_law4_wide, d_law4_along, d_ball_Div, d_ref2_Div, d_ref4_Has, d_ball_Add, d_ref2_Add, d_ball_Sub, d_ref2_Sub, d_ball_Mul, d_ref2_Mul, d_ball_Pow, d_law4_known, hw, hxx, hyy, j1, j2, j3, j4, eq_self, decide_true, decide_false, hz, Nat.reduceBEq, Nat.reduceBNe, Nat.reduceLT, Nat.reduceLeDiff, Nat.reduceAdd, Nat.reduceSub, Nat.reduceMul, Nat.reduceEqDiff, Int.reduceNeg, Int.reduceAdd, Int.reduceLT, Int.reduceLE, Int.reduceToNat, ↓reduceIte]
  try and_intros
  all_goals try (first | assumption | omega | (show okDraw _ _ = true; kernel_rfl) | exact hallb | exact Nat.max_le.2 ⟨by rw [cr_sz]; omega, by rw [cr_sz]; omega⟩)
  subst hC
  refine cut_seq fun C hC => ?_
  simp only [go_sem, d_law4_wide, d_law4_along, d_ball_Div, d_ref2_Div, d_ref4_Has, d_ball_Add, d_ref2_Add, d_ball_Sub, d_ref2_Sub, d_ball_Mul, d_ref2_Mul, d_ball_Pow, d_law4_known, hw, hxx, hyy, j1, j2, j3, j4, eq_self, decide_true, decide_false, hz, Nat.reduceBEq, Nat.reduceBNe, Nat.reduceLT, Nat.reduceLeDiff, Nat.reduceAdd, Nat.reduceSub, Nat.reduceMul, Nat.reduceEqDiff, Int.reduceNeg, Int.reduceAdd, Int.reduceLT, Int.reduceLE, Int.reduceToNat, ↓reduceIte]
  try and_intros
  all_goals try (first | assumption | omega | (show okDraw _ _ = true; kernel_rfl) | exact hallb | exact Nat.max_le.2 ⟨by rw [cr_sz]; omega, by rw [cr_sz]; omega⟩)
  subst hC
  refine cut_seq fun C hC => ?_
  simp only [go_sem, d_law4_wide, d_law4_along, d_ball_Div, d_ref2_Div, d_ref4_Has, d_ball_Add, d_ref2_Add, d_ball_Sub, d_ref2_Sub, d_ball_Mul, d_ref2_Mul, d_ball_Pow, d_law4_known, hw, hxx, hyy, j1, j2, j3, j4, eq_self, decide_true, decide_false, hz, Nat.reduceBEq, Nat.reduceBNe, Nat.reduceLT, Nat.reduceLeDiff, Nat.reduceAdd, Nat.reduceSub, Nat.reduceMul, Nat.reduceEqDiff, Int.reduceNeg, Int.reduceAdd, Int.reduceLT, Int.reduceLE, Int.reduceToNat, ↓reduceIte]
  try and_intros
  all_goals try (first | assumption | omega | (show okDraw _ _ = true; kernel_rfl) | exact hallb | exact Nat.max_le.2 ⟨by rw [cr_sz]; omega, by rw [cr_sz]; omega⟩)
  subst hC
  refine cut_seq fun C hC => ?_
  simp only [go_sem, d_law4_wide, d_law4_along, d_ball_Div, d_ref2_Div, d_ref4_Has, d_ball_Add, d_ref2_Add, d_ball_Sub, d_ref2_Sub, d_ball_Mul, d_ref2_Mul, d_ball_Pow, d_law4_known, hw, hxx, hyy, j1, j2, j3, j4, eq_self, decide_true, decide_false, hz, Nat.reduceBEq, Nat.reduceBNe, Nat.reduceLT, Nat.reduceLeDiff, Nat.reduceAdd, Nat.reduceSub, Nat.reduceMul, Nat.reduceEqDiff, Int.reduceNeg, Int.reduceAdd, Int.reduceLT, Int.reduceLE, Int.reduceToNat, ↓reduceIte]
  try and_intros
  all_goals try (first | assumption | omega | (show okDraw _ _ = true; kernel_rfl) | exact hallb | exact Nat.max_le.2 ⟨by rw [cr_sz]; omega, by rw [cr_sz]; omega⟩)
  subst hC
  refine cut_seq fun C hC => ?_
  simp only [go_sem, d_law4_wide, d_law4_along, d_ball_Div, d_ref2_Div, d_ref4_Has, d_ball_Add, d_ref2_Add, d_ball_Sub, d_ref2_Sub, d_ball_Mul, d_ref2_Mul, d_ball_Pow, d_law4_known, hw, hxx, hyy, j1, j2, j3, j4, eq_self, decide_true, decide_false, hz, Nat.reduceBEq, Nat.reduceBNe, Nat.reduceLT, Nat.reduceLeDiff, Nat.reduceAdd, Nat.reduceSub, Nat.reduceMul, Nat.reduceEqDiff, Int.reduceNeg, Int.reduceAdd, Int.reduceLT, Int.reduceLE, Int.reduceToNat, ↓reduceIte]
  try and_intros
  all_goals try (first | assumption | omega | (show okDraw _ _ = true; kernel_rfl) | exact hallb | exact Nat.max_le.2 ⟨by rw [cr_sz]; omega, by rw [cr_sz]; omega⟩)
  subst hC
  simp only [go_sem, d_law4_wide, d_law4_along, d_ball_Div, d_ref2_Div, d_ref4_Has, d_ball_Add, d_ref2_Add, d_ball_Sub, d_ref2_Sub, d_ball_Mul, d_ref2_Mul, d_ball_Pow, d_law4_known, hw, hxx, hyy, j1, j2, j3, j4, eq_self, decide_true, decide_false, hz, Nat.reduceBEq, Nat.reduceBNe, Nat.reduceLT, Nat.reduceLeDiff, Nat.reduceAdd, Nat.reduceSub, Nat.reduceMul, Nat.reduceEqDiff, Int.reduceNeg, Int.reduceAdd, Int.reduceLT, Int.reduceLE, Int.reduceToNat, ↓reduceIte]
  and_intros
  all_goals first
    | assumption
    | exact hallb
    | omega
    | exact Nat.max_le.2 ⟨by rw [cr_sz]; omega, by rw [cr_sz]; omega⟩
    | (show okDraw _ _ = true; kernel_rfl)

end Go.Proofs.Ytmfoihjkhoinaaa
