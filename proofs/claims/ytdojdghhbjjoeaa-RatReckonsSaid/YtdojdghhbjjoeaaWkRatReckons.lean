/- The law RatReckons: true of any two numbers. Condition: rows shorter than 10^14. -/
import Derived.Test.YtdojdghhbjjoeaaAp
namespace Go.Proofs.Ytdojdghhbjjoeaa
open Go.RowKit
set_option linter.unusedSimpArgs false
set_option linter.unusedVariables false
def d_law2_RatReckons : Den := den2 aRat aRat (fun a b => a.sz ≤ 100000000000000 ∧ b.sz ≤ 100000000000000) fun _ _ => boolV true
set_option maxRecDepth 100000 in
set_option maxHeartbeats 4000000 in
theorem s_law2_RatReckons : Sound Try.prog 16 d_law2_RatReckons := by
  refine sound2 (l := [(17, d_law2_big), (23, d_rat_Div), (66, d_ref2_Div), (19, d_rat_Add), (50, d_ref2_Add), (18, d_law2_one), (24, d_rat_Sub), (67, d_ref2_Sub), (20, d_rat_Mul), (33, d_ref2_Mul), (28, d_rat_Cmp), (36, d_ref2_Cmp), (51, d_rat_Same), (41, d_ref2_Same), (21, d_law2_known)]) TT_ok ⟨s_law2_big, s_rat_Div, s_ref2_Div, s_rat_Add, s_ref2_Add, s_law2_one, s_rat_Sub, s_ref2_Sub, s_rat_Mul, s_ref2_Mul, s_rat_Cmp, s_ref2_Cmp, s_rat_Same, s_ref2_Same, s_law2_known, trivial⟩ mixed Try.func16 Try.ntmps16 Try.results16 Try.call16 rfl (by omega) (fun _ _ => rfl) ?_
  intro a b hp ha hb
  have la := RR.lens hp.1
  have lb := RR.lens hp.2
  have hall : ∀ r ∈ [a, b], r.sz ≤ 100000000000000 := by
    intro r hr
    simp only [List.mem_cons, List.not_mem_nil, or_false] at hr
    rcases hr with rfl | rfl <;> first | exact hp | exact hp.1 | exact hp.2 | exact hp.2.1 | exact hp.2.2
  rw [codeK_start]
  by_cases hbig : 16 < sumLens [a, b]
  · have hbd := decide_eq_true hbig
    simp only [go_sem, d_law2_big, d_rat_Div, d_ref2_Div, d_rat_Add, d_ref2_Add, d_law2_one, d_rat_Sub, d_ref2_Sub, d_rat_Mul, d_ref2_Mul, d_rat_Cmp, d_ref2_Cmp, d_rat_Same, d_ref2_Same, d_law2_known, hbd, Nat.reduceBEq, Nat.reduceBNe, Nat.reduceLT, Nat.reduceLeDiff, Nat.reduceAdd, Nat.reduceSub, Nat.reduceMul, Nat.reduceEqDiff, Int.reduceNeg, Int.reduceAdd, Int.reduceLT, Int.reduceLE, Int.reduceToNat, ↓reduceIte]
    and_intros
    all_goals first
      | exact trivial
      | assumption
      | omega
      | (show okDraw _ _ = true; kernel_rfl)
      | ((repeat' first | assumption | exact Nat.le_refl _ | apply rsb_add | apply rsb_sub | apply rsb_div | apply rsb_mul | apply rsb_neg | apply rsb_floor | apply rsb_int) <;> omega)
  have hbd := decide_eq_false hbig
  have hlen := hbig
  simp only [sumLens, List.map_cons, List.map_nil, List.sum_cons, List.sum_nil, lensOf] at hlen
  have qa : rs a.q ≤ 16 := rs_ok ha (RR.sz_le (by omega) (by omega)) (by omega)
  have za : a.sz ≤ 16 := RR.sz_le (by omega) (by omega)
  have qb : rs b.q ≤ 16 := rs_ok hb (RR.sz_le (by omega) (by omega)) (by omega)
  have zb : b.sz ≤ 16 := RR.sz_le (by omega) (by omega)
  simp only [go_sem, d_law2_big, d_rat_Div, d_ref2_Div, d_rat_Add, d_ref2_Add, d_law2_one, d_rat_Sub, d_ref2_Sub, d_rat_Mul, d_ref2_Mul, d_rat_Cmp, d_ref2_Cmp, d_rat_Same, d_ref2_Same, d_law2_known, hbd, decide_not, beq_self_eq_true, eq_self, decide_true, Nat.reduceBEq, Nat.reduceBNe, Nat.reduceLT, Nat.reduceLeDiff, Nat.reduceAdd, Nat.reduceSub, Nat.reduceMul, Nat.reduceEqDiff, Int.reduceNeg, Int.reduceAdd, Int.reduceLT, Int.reduceLE, Int.reduceToNat, ↓reduceIte]
  and_intros
  all_goals first
    | exact trivial
    | assumption
    | omega
    | (show okDraw _ _ = true; kernel_rfl)
    | ((repeat' first | assumption | exact Nat.le_refl _ | apply rsb_add | apply rsb_sub | apply rsb_div | apply rsb_mul | apply rsb_neg | apply rsb_floor | apply rsb_int) <;> omega)

end Go.Proofs.Ytdojdghhbjjoeaa
