/- The law RatWider. Condition: rows shorter than 10^14. -/
import Derived.Test.YtpppgmgdcpaffaaBz
import Derived.Test.YtpppgmgdcpaffaaBj
namespace Go.Proofs.Ytpppgmgdcpaffaa
open Go.RowKit
set_option linter.unusedSimpArgs false
set_option linter.unusedVariables false
/-- a region, behind what is given up before it: a name, so that nothing is reckoned under it -/
def goK0 (E : Env) (Q : AEx → AS → Prop) (k : List It) (ops : Array Oper) (draw : Bool) (s : AS) : Prop := goK E Q k ops draw s []
theorem goK0_eq {E : Env} {Q : AEx → AS → Prop} {k : List It} {ops : Array Oper} {draw : Bool} {s : AS} : goK0 E Q k ops draw s = goK E Q k ops draw s [] := rfl
theorem goK_frz0 {E : Env} {Q : AEx → AS → Prop} {k : List It} {ops : Array Oper} {draw : Bool} {s : AS} {id : Nat} {l : List Nat} : goK E Q k ops draw s (id :: l) = frzM id l s (goK0 E Q k ops draw) (s.get id 1) := goK_frz
def fz_RatWider : Nat → List Nat
  | 14 => [49, 55]
  | _ => []
def d_law2_RatWider : Den := den2 aRat aU32 (fun a b => a.sz ≤ 100000000000000 ∧ 0 ≤ b ∧ b < 4294967296) fun a b => boolV true
set_option maxRecDepth 100000 in
set_option maxHeartbeats 8000000 in
theorem s_law2_RatWider : Sound Try.prog 4 d_law2_RatWider := by
  refine sound2 (fz := fz_RatWider) (l := [(20, d_law2_big), (30, d_ref2_Mul), (24, d_rat_Div), (27, d_ref2_Norm), (26, d_law2_one), (31, d_rat_Same), (21, d_rat_Norm), (29, d_law2_known)]) TT_ok ⟨s_law2_big, s_ref2_Mul, s_rat_Div, s_ref2_Norm, s_law2_one, s_rat_Same, s_rat_Norm, s_law2_known, trivial⟩ mixed Try.func4 Try.ntmps4 Try.results4 Try.call4 rfl (by omega) (fun _ _ => rfl) ?_
  intro a b hp ha hb
  rw [codeK_start]
  obtain ⟨hp1, hp2, hp3⟩ := hp
  have la := RR.lens hp1
  have hall : ∀ r ∈ [a], r.sz ≤ 100000000000000 := by
    intro r hr
    rw [List.mem_singleton] at hr
    subst hr
    exact hp1
  by_cases hbig : 16 < sumLens [a]
  · skip
    have hbd := decide_eq_true hbig
    simp only [go_sem, d_law2_big, d_ref2_Mul, d_rat_Div, d_ref2_Norm, d_law2_one, d_rat_Same, d_rat_Norm, d_law2_known, goK_frz0, goK0_eq, int0, int1, decide_true, decide_false, Bool.not_true, Bool.not_false, beq_self_eq_true, eq_self, decide_not, fz_RatWider, List.replicate_zero, hbd, Nat.reduceBEq, Nat.reduceBNe, Nat.reduceLT, Nat.reduceLeDiff, Nat.reduceAdd, Nat.reduceSub, Nat.reduceMul, Nat.reduceEqDiff, Int.reduceNeg, Int.reduceAdd, Int.reduceLT, Int.reduceLE, Int.reduceToNat, ↓reduceIte]
    ((try and_intros) <;> first | exact trivial | omega | (show okDraw _ _ = true; kernel_rfl) | exact hall | assumption)
  have hbd := decide_eq_false hbig
  have hlen := hbig
  simp only [sumLens, List.map_cons, List.map_nil, List.sum_cons, List.sum_nil, lensOf] at hlen
  by_cases h0 : b = 0
  · have h0t := eq_true h0
    simp only [go_sem, d_law2_big, d_ref2_Mul, d_rat_Div, d_ref2_Norm, d_law2_one, d_rat_Same, d_rat_Norm, d_law2_known, goK_frz0, goK0_eq, int0, int1, decide_true, decide_false, Bool.not_true, Bool.not_false, beq_self_eq_true, eq_self, decide_not, fz_RatWider, List.replicate_zero, hbd, h0t, Nat.reduceBEq, Nat.reduceBNe, Nat.reduceLT, Nat.reduceLeDiff, Nat.reduceAdd, Nat.reduceSub, Nat.reduceMul, Nat.reduceEqDiff, Int.reduceNeg, Int.reduceAdd, Int.reduceLT, Int.reduceLE, Int.reduceToNat, ↓reduceIte]
    ((try and_intros) <;> first | exact trivial | omega | (show okDraw _ _ = true; kernel_rfl) | exact hall | assumption)
  have h0f := eq_false h0
  by_cases h8 : (8 : Int) < (a.n.length : Int) + a.d.length
  · skip
    simp only [go_sem, d_law2_big, d_ref2_Mul, d_rat_Div, d_ref2_Norm, d_law2_one, d_rat_Same, d_rat_Norm, d_law2_known, goK_frz0, goK0_eq, int0, int1, decide_true, decide_false, Bool.not_true, Bool.not_false, beq_self_eq_true, eq_self, decide_not, fz_RatWider, List.replicate_zero, hbd, h0f, h8, Nat.reduceBEq, Nat.reduceBNe, Nat.reduceLT, Nat.reduceLeDiff, Nat.reduceAdd, Nat.reduceSub, Nat.reduceMul, Nat.reduceEqDiff, Int.reduceNeg, Int.reduceAdd, Int.reduceLT, Int.reduceLE, Int.reduceToNat, ↓reduceIte]
    ((try and_intros) <;> first | exact trivial | omega | (show okDraw _ _ = true; kernel_rfl) | exact hall | assumption)
  have za : a.sz ≤ 16 := RR.sz_le (by omega) (by omega)
  have qa : rs a.q ≤ 16 := rs_ok ha za (by omega)
  obtain ⟨m, rfl⟩ := Int.eq_ofNat_of_zero_le hp2
  have hm0 : m ≠ 0 := by omega
  have ht : (⟨false, [m], [1]⟩ : RR).ok := ⟨by intro x hx; have hx : x ∈ [m] := hx; rw [List.mem_singleton] at hx; omega, by intro x hx; have hx : x ∈ [1] := hx; rw [List.mem_singleton] at hx; omega⟩
  have hts : (⟨false, [m], [1]⟩ : RR).sz ≤ 1 := RR.sz_le (by show [m].length ≤ 1; simp) (by show [1].length ≤ 1; simp)
  have rt : rs (⟨false, [m], [1]⟩ : RR).q ≤ 1 := rs_ok ht hts (by omega)
  have htn : (⟨false, [m], [1]⟩ : RR).q ≠ 0 := by
    show qv false (val [m]) (val [1]) ≠ 0
    have e1 : val [m] = m := by simp only [val]; omega
    have e2 : val [1] = 1 := rfl
    rw [e1, e2, qv_one]
    show ((m : Int) : Rat) ≠ 0
    rw [show (0 : Rat) = ((0 : Int) : Rat) from rfl]
    intro e
    rw [Rat.intCast_inj] at e
    omega
  have hdiv : a.q * (⟨false, [m], [1]⟩ : RR).q / (⟨false, [m], [1]⟩ : RR).q = a.q := by rw [Rat.div_def, Rat.mul_assoc, Rat.mul_inv_cancel _ htn, Rat.mul_one]
  have htq : ((⟨false, [m], [1]⟩ : RR).q = 0) = False := eq_false htn
  have hw : (⟨a.s, a.n ++ [0, 0], a.d ++ [0]⟩ : RR).q = a.q := by
    show qv a.s (val (a.n ++ [0, 0])) (val (a.d ++ [0])) = qv a.s (val a.n) (val a.d)
    rw [val_append, val_append]
    have e1 : val [0, 0] = 0 := rfl
    have e2 : val [0] = 0 := rfl
    rw [e1, e2, Nat.mul_zero, Nat.mul_zero, Nat.add_zero, Nat.add_zero]
  have ws : (⟨a.s, a.n ++ [0, 0], a.d ++ [0]⟩ : RR).sz ≤ 20 := RR.sz_le (by show (a.n ++ [0, 0]).length ≤ 20; simp; omega) (by show (a.d ++ [0]).length ≤ 20; simp; omega)
  have rp : rs (a.q * (⟨false, [m], [1]⟩ : RR).q) ≤ 17 := rsb_mul qa rt (by omega)
  have wz : (⟨a.s, a.n ++ [0, 0], a.d ++ [0]⟩ : RR).sz ≤ 1000 := by omega
  refine cut_seq fun C hC => ?_
  simp only [go_sem, d_law2_big, d_ref2_Mul, d_rat_Div, d_ref2_Norm, d_law2_one, d_rat_Same, d_rat_Norm, d_law2_known, goK_frz0, goK0_eq, int0, int1, decide_true, decide_false, Bool.not_true, Bool.not_false, beq_self_eq_true, eq_self, decide_not, fz_RatWider, List.replicate_zero, hbd, h0f, h8, hdiv, htq, hw, Nat.reduceBEq, Nat.reduceBNe, Nat.reduceLT, Nat.reduceLeDiff, Nat.reduceAdd, Nat.reduceSub, Nat.reduceMul, Nat.reduceEqDiff, Int.reduceNeg, Int.reduceAdd, Int.reduceLT, Int.reduceLE, Int.reduceToNat, ↓reduceIte]
  try and_intros
  all_goals try (first | omega | (show okDraw _ _ = true; kernel_rfl) | exact hall | assumption)
  subst hC
  refine cut_seq fun C hC => ?_
  simp only [go_sem, d_law2_big, d_ref2_Mul, d_rat_Div, d_ref2_Norm, d_law2_one, d_rat_Same, d_rat_Norm, d_law2_known, goK_frz0, goK0_eq, int0, int1, decide_true, decide_false, Bool.not_true, Bool.not_false, beq_self_eq_true, eq_self, decide_not, fz_RatWider, List.replicate_zero, hbd, h0f, h8, hdiv, htq, hw, Nat.reduceBEq, Nat.reduceBNe, Nat.reduceLT, Nat.reduceLeDiff, Nat.reduceAdd, Nat.reduceSub, Nat.reduceMul, Nat.reduceEqDiff, Int.reduceNeg, Int.reduceAdd, Int.reduceLT, Int.reduceLE, Int.reduceToNat, ↓reduceIte]
  try and_intros
  all_goals try (first | omega | (show okDraw _ _ = true; kernel_rfl) | exact hall | assumption)
  subst hC
  refine cut_seq fun C hC => ?_
  simp only [go_sem, d_law2_big, d_ref2_Mul, d_rat_Div, d_ref2_Norm, d_law2_one, d_rat_Same, d_rat_Norm, d_law2_known, goK_frz0, goK0_eq, int0, int1, decide_true, decide_false, Bool.not_true, Bool.not_false, beq_self_eq_true, eq_self, decide_not, fz_RatWider, List.replicate_zero, hbd, h0f, h8, hdiv, htq, hw, Nat.reduceBEq, Nat.reduceBNe, Nat.reduceLT, Nat.reduceLeDiff, Nat.reduceAdd, Nat.reduceSub, Nat.reduceMul, Nat.reduceEqDiff, Int.reduceNeg, Int.reduceAdd, Int.reduceLT, Int.reduceLE, Int.reduceToNat, ↓reduceIte]
  try and_intros
  all_goals try (first | omega | (show okDraw _ _ = true; kernel_rfl) | exact hall | assumption)
  subst hC
  refine cut_seq fun C hC => ?_
  simp only [go_sem, d_law2_big, d_ref2_Mul, d_rat_Div, d_ref2_Norm, d_law2_one, d_rat_Same, d_rat_Norm, d_law2_known, goK_frz0, goK0_eq, int0, int1, decide_true, decide_false, Bool.not_true, Bool.not_false, beq_self_eq_true, eq_self, decide_not, fz_RatWider, List.replicate_zero, hbd, h0f, h8, hdiv, htq, hw, Nat.reduceBEq, Nat.reduceBNe, Nat.reduceLT, Nat.reduceLeDiff, Nat.reduceAdd, Nat.reduceSub, Nat.reduceMul, Nat.reduceEqDiff, Int.reduceNeg, Int.reduceAdd, Int.reduceLT, Int.reduceLE, Int.reduceToNat, ↓reduceIte]
  try and_intros
  all_goals try (first | omega | (show okDraw _ _ = true; kernel_rfl) | exact hall | assumption)
  subst hC
  refine cut_seq fun C hC => ?_
  simp only [go_sem, d_law2_big, d_ref2_Mul, d_rat_Div, d_ref2_Norm, d_law2_one, d_rat_Same, d_rat_Norm, d_law2_known, goK_frz0, goK0_eq, int0, int1, decide_true, decide_false, Bool.not_true, Bool.not_false, beq_self_eq_true, eq_self, decide_not, fz_RatWider, List.replicate_zero, hbd, h0f, h8, hdiv, htq, hw, Nat.reduceBEq, Nat.reduceBNe, Nat.reduceLT, Nat.reduceLeDiff, Nat.reduceAdd, Nat.reduceSub, Nat.reduceMul, Nat.reduceEqDiff, Int.reduceNeg, Int.reduceAdd, Int.reduceLT, Int.reduceLE, Int.reduceToNat, ↓reduceIte]
  try and_intros
  all_goals try (first | omega | (show okDraw _ _ = true; kernel_rfl) | exact hall | assumption)
  subst hC
  refine cut_seq fun C hC => ?_
  simp only [go_sem, d_law2_big, d_ref2_Mul, d_rat_Div, d_ref2_Norm, d_law2_one, d_rat_Same, d_rat_Norm, d_law2_known, goK_frz0, goK0_eq, int0, int1, decide_true, decide_false, Bool.not_true, Bool.not_false, beq_self_eq_true, eq_self, decide_not, fz_RatWider, List.replicate_zero, hbd, h0f, h8, hdiv, htq, hw, Nat.reduceBEq, Nat.reduceBNe, Nat.reduceLT, Nat.reduceLeDiff, Nat.reduceAdd, Nat.reduceSub, Nat.reduceMul, Nat.reduceEqDiff, Int.reduceNeg, Int.reduceAdd, Int.reduceLT, Int.reduceLE, Int.reduceToNat, ↓reduceIte]
  try and_intros
  all_goals try (first | omega | (show okDraw _ _ = true; kernel_rfl) | exact hall | assumption)
  subst hC
  simp only [go_sem, d_law2_big, d_ref2_Mul, d_rat_Div, d_ref2_Norm, d_law2_one, d_rat_Same, d_rat_Norm, d_law2_known, goK_frz0, goK0_eq, int0, int1, decide_true, decide_false, Bool.not_true, Bool.not_false, beq_self_eq_true, eq_self, decide_not, fz_RatWider, List.replicate_zero, hbd, h0f, h8, hdiv, htq, hw, List.take_length, Nat.reduceBEq, Nat.reduceBNe, Nat.reduceLT, Nat.reduceLeDiff, Nat.reduceAdd, Nat.reduceSub, Nat.reduceMul, Nat.reduceEqDiff, Int.reduceNeg, Int.reduceAdd, Int.reduceLT, Int.reduceLE, Int.reduceToNat, ↓reduceIte]
  ((try and_intros) <;> first | exact trivial | omega | (show okDraw _ _ = true; kernel_rfl) | exact hall | assumption)

end Go.Proofs.Ytpppgmgdcpaffaa
