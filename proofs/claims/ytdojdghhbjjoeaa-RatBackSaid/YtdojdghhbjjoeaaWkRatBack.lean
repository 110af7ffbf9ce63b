/- The law RatBack: true of any two numbers. Condition: rows shorter than 10^14. -/
import Derived.Test.YtdojdghhbjjoeaaAo
namespace Go.Proofs.Ytdojdghhbjjoeaa
open Go.RowKit
set_option linter.unusedSimpArgs false
set_option linter.unusedVariables false
def d_law2_RatBack : Den := den2 aRat aRat (fun a b => a.sz ≤ 100000000000000 ∧ b.sz ≤ 100000000000000) fun _ _ => boolV true
set_option maxRecDepth 100000 in
set_option maxHeartbeats 4000000 in
theorem s_law2_RatBack : Sound Try.prog 4 d_law2_RatBack := by
  refine sound2 (l := [(17, d_law2_big), (22, d_ref2_Norm), (23, d_rat_Div), (19, d_rat_Add), (24, d_rat_Sub), (18, d_law2_one), (25, d_ref2_Zero), (20, d_rat_Mul), (26, d_rat_Neg), (21, d_law2_known)]) TT_ok ⟨s_law2_big, s_ref2_Norm, s_rat_Div, s_rat_Add, s_rat_Sub, s_law2_one, s_ref2_Zero, s_rat_Mul, s_rat_Neg, s_law2_known, trivial⟩ mixed Try.func4 Try.ntmps4 Try.results4 Try.call4 rfl (by omega) (fun _ _ => rfl) ?_
  intro a b hp ha hb
  have la := RR.lens hp.1
  have lb := RR.lens hp.2
  have hall : ∀ r ∈ [a, b], r.sz ≤ 100000000000000 := by
    intro r hr
    simp only [List.mem_cons, List.not_mem_nil, or_false] at hr
    rcases hr with rfl | rfl <;> first | exact hp | exact hp.1 | exact hp.2 | exact hp.2.1 | exact hp.2.2
  rw [codeK_start]
  by_cases hbig : 16 < sumLens [a, b]
  · have hbd := decide_eq_true hbig
    simp only [go_sem, d_law2_big, d_ref2_Norm, d_rat_Div, d_rat_Add, d_rat_Sub, d_law2_one, d_ref2_Zero, d_rat_Mul, d_rat_Neg, d_law2_known, hbd, Nat.reduceBEq, Nat.reduceBNe, Nat.reduceLT, Nat.reduceLeDiff, Nat.reduceAdd, Nat.reduceSub, Nat.reduceMul, Nat.reduceEqDiff, Int.reduceNeg, Int.reduceAdd, Int.reduceLT, Int.reduceLE, ↓reduceIte]
    and_intros
    all_goals first
      | exact trivial
      | exact hall
      | omega
      | (show okDraw _ _ = true; kernel_rfl)
      | ((repeat' first | assumption | exact Nat.le_refl _ | apply rsb_add | apply rsb_sub | apply rsb_div | apply rsb_mul | apply rsb_neg) <;> omega)
  have hbd := decide_eq_false hbig
  by_cases hsec : (8 : Int) < (a.n.length : Int) + b.n.length + a.d.length + b.d.length
  · simp only [go_sem, d_law2_big, d_ref2_Norm, d_rat_Div, d_rat_Add, d_rat_Sub, d_law2_one, d_ref2_Zero, d_rat_Mul, d_rat_Neg, d_law2_known, hbd, hsec, Nat.reduceBEq, Nat.reduceBNe, Nat.reduceLT, Nat.reduceLeDiff, Nat.reduceAdd, Nat.reduceSub, Nat.reduceMul, Nat.reduceEqDiff, Int.reduceNeg, Int.reduceAdd, Int.reduceLT, Int.reduceLE, ↓reduceIte]
    and_intros
    all_goals first
      | exact trivial
      | exact hall
      | omega
      | (show okDraw _ _ = true; kernel_rfl)
      | ((repeat' first | assumption | exact Nat.le_refl _ | apply rsb_add | apply rsb_sub | apply rsb_div | apply rsb_mul | apply rsb_neg) <;> omega)
  have qa : rs a.q ≤ 8 := rs_ok ha (RR.sz_le (by omega) (by omega)) (by omega)
  have za : a.sz ≤ 8 := RR.sz_le (by omega) (by omega)
  have qb : rs b.q ≤ 8 := rs_ok hb (RR.sz_le (by omega) (by omega)) (by omega)
  have zb : b.sz ≤ 8 := RR.sz_le (by omega) (by omega)
  have e1 := add_sub_self a.q b.q
  have e2 := Rat.neg_neg a.q
  by_cases hb0 : b.q = 0
  · have hd0 := decide_eq_true hb0
    simp only [go_sem, d_law2_big, d_ref2_Norm, d_rat_Div, d_rat_Add, d_rat_Sub, d_law2_one, d_ref2_Zero, d_rat_Mul, d_rat_Neg, d_law2_known, hbd, hsec, e1, e2, hd0, beq_self_eq_true, Bool.not_true, Bool.not_false, Nat.reduceBEq, Nat.reduceBNe, Nat.reduceLT, Nat.reduceLeDiff, Nat.reduceAdd, Nat.reduceSub, Nat.reduceMul, Nat.reduceEqDiff, Int.reduceNeg, Int.reduceAdd, Int.reduceLT, Int.reduceLE, ↓reduceIte]
    and_intros
    all_goals first
      | exact trivial
      | exact hall
      | omega
      | (show okDraw _ _ = true; kernel_rfl)
      | ((repeat' first | assumption | exact Nat.le_refl _ | apply rsb_add | apply rsb_sub | apply rsb_div | apply rsb_mul | apply rsb_neg) <;> omega)
  · have e3 := Rat.div_mul_cancel (a := a.q) hb0
    have hd0 := decide_eq_false hb0
    simp only [go_sem, d_law2_big, d_ref2_Norm, d_rat_Div, d_rat_Add, d_rat_Sub, d_law2_one, d_ref2_Zero, d_rat_Mul, d_rat_Neg, d_law2_known, hbd, hsec, e1, e2, hd0, e3, beq_self_eq_true, Bool.not_true, Bool.not_false, Nat.reduceBEq, Nat.reduceBNe, Nat.reduceLT, Nat.reduceLeDiff, Nat.reduceAdd, Nat.reduceSub, Nat.reduceMul, Nat.reduceEqDiff, Int.reduceNeg, Int.reduceAdd, Int.reduceLT, Int.reduceLE, ↓reduceIte]
    and_intros
    all_goals first
      | exact trivial
      | exact hall
      | omega
      | (show okDraw _ _ = true; kernel_rfl)
      | ((repeat' first | assumption | exact Nat.le_refl _ | apply rsb_add | apply rsb_sub | apply rsb_div | apply rsb_mul | apply rsb_neg) <;> omega)

end Go.Proofs.Ytdojdghhbjjoeaa
