/- The law BallOwn. Condition: rows shorter than 10^14. -/
import Derived.Test.YtifnpelkoklcnaaIb
import Derived.Test.YtifnpelkoklcnaaBi
import Derived.Test.YtifnpelkoklcnaaBj
namespace Go.Proofs.Ytifnpelkoklcnaa
open Go.RowKit
set_option linter.unusedSimpArgs false
set_option linter.unusedVariables false
def fz_BallOwn : Nat → List Nat
  | 1000005 => [1]
  | _ => []
def d_law4_BallOwn : Den := den1 aRat (fun a => a.sz ≤ 100000000000000) fun a => boolV true
set_option maxRecDepth 100000 in
set_option maxHeartbeats 8000000 in
theorem s_law4_BallOwn : Sound Try.prog 3 d_law4_BallOwn := by
  refine sound1 (fz := fz_BallOwn) (l := [(1000000 + 14, d_ball_Of), (12, d_law4_big), (13, d_ref2_Is), (14, d_ball_Of), (15, d_ball_Neg), (17, d_ref4_Of), (16, d_ref4_Same), (18, d_ref2_Neg), (19, d_law4_known)]) TT_ok ⟨sn_ball_Of, s_law4_big, s_ref2_Is, s_ball_Of, s_ball_Neg, s_ref4_Of, s_ref4_Same, s_ref2_Neg, s_law4_known, trivial⟩ mixed Try.func3 Try.ntmps3 Try.results3 Try.call3 rfl (by omega) (fun _ => rfl) ?_
  intro a hp ha
  rw [codeK_start]
  have za := hp
  have hallhbig : ∀ r ∈ [a], r.sz ≤ 100000000000000 := by
    intro r hr
    simp only [List.mem_cons, List.not_mem_nil, or_false] at hr
    rcases hr with rfl <;> assumption
  by_cases hbig : [a].any bigR = true
  · skip
    simp only [go_sem, d_law4_big, d_ref2_Is, d_ball_Of, d_ball_Neg, d_ref4_Of, d_ref4_Same, d_ref2_Neg, d_law4_known, fz_BallOwn, List.replicate_zero, List.nil_append, List.isEmpty_nil, List.isEmpty_cons, int0, int1, decide_true, decide_false, Bool.not_true, Bool.not_false, beq_self_eq_true, eq_self, hbig, Nat.reduceBEq, Nat.reduceBNe, Nat.reduceLT, Nat.reduceLeDiff, Nat.reduceAdd, Nat.reduceSub, Nat.reduceMul, Nat.reduceEqDiff, Int.reduceNeg, Int.reduceAdd, Int.reduceLT, Int.reduceLE, Int.reduceToNat, ↓reduceIte]
    first | exact hallhbig | (and_intros <;> first | exact hallb | exact hallhbig | assumption | trivial | (show okDraw _ _ = true; kernel_rfl))
  rw [Bool.not_eq_true] at hbig
  have sa : a.sz ≤ 3 := not_big (any_false hbig a (by simp))
  have ra : rs a.q ≤ 3 := rs_ok ha sa (by omega)
  by_cases hIs : oneB a (cr a.q) = true
  · skip
    have lz : a.n.length ≤ 3 := by have := sa; unfold RR.sz at this; omega
    have lz2 : a.d.length ≤ 3 := by have := sa; unfold RR.sz at this; omega
    have rn : rs (-a.q) ≤ 3 := by rw [rs_neg]; exact ra
    have zc : (cr a.q).sz ≤ 3 := by rw [cr_sz]; exact ra
    have zn : (cr (-a.q)).sz ≤ 3 := by rw [cr_sz]; exact rn
    have zb : (bb a.q a.q).sz ≤ 3 := Nat.max_le.2 ⟨zc, zc⟩
    have zbn : (bb (-a.q) (-a.q)).sz ≤ 3 := Nat.max_le.2 ⟨zn, zn⟩
    refine cut_seq fun C hC => ?_
    simp only [go_sem, d_law4_big, d_ref2_Is, d_ball_Of, d_ball_Neg, d_ref4_Of, d_ref4_Same, d_ref2_Neg, d_law4_known, fz_BallOwn, List.replicate_zero, List.nil_append, List.isEmpty_nil, List.isEmpty_cons, int0, int1, decide_true, decide_false, Bool.not_true, Bool.not_false, beq_self_eq_true, eq_self, hbig, hIs, sameB_self, Nat.reduceBEq, Nat.reduceBNe, Nat.reduceLT, Nat.reduceLeDiff, Nat.reduceAdd, Nat.reduceSub, Nat.reduceMul, Nat.reduceEqDiff, Int.reduceNeg, Int.reduceAdd, Int.reduceLT, Int.reduceLE, Int.reduceToNat, ↓reduceIte]
    try and_intros
    all_goals try (first | omega | (show okDraw _ _ = true; kernel_rfl) | exact hallhbig | exact Nat.le_trans zb (by omega) | exact Nat.le_trans zbn (by omega) | exact Nat.le_trans zc (by omega) | exact Nat.le_trans zn (by omega) | assumption)
    subst hC
    refine cut_seq fun C hC => ?_
    simp only [go_sem, d_law4_big, d_ref2_Is, d_ball_Of, d_ball_Neg, d_ref4_Of, d_ref4_Same, d_ref2_Neg, d_law4_known, fz_BallOwn, List.replicate_zero, List.nil_append, List.isEmpty_nil, List.isEmpty_cons, int0, int1, decide_true, decide_false, Bool.not_true, Bool.not_false, beq_self_eq_true, eq_self, hbig, hIs, sameB_self, Nat.reduceBEq, Nat.reduceBNe, Nat.reduceLT, Nat.reduceLeDiff, Nat.reduceAdd, Nat.reduceSub, Nat.reduceMul, Nat.reduceEqDiff, Int.reduceNeg, Int.reduceAdd, Int.reduceLT, Int.reduceLE, Int.reduceToNat, ↓reduceIte]
    try and_intros
    all_goals try (first | omega | (show okDraw _ _ = true; kernel_rfl) | exact hallhbig | exact Nat.le_trans zb (by omega) | exact Nat.le_trans zbn (by omega) | exact Nat.le_trans zc (by omega) | exact Nat.le_trans zn (by omega) | assumption)
    subst hC
    refine cut_seq fun C hC => ?_
    simp only [go_sem, d_law4_big, d_ref2_Is, d_ball_Of, d_ball_Neg, d_ref4_Of, d_ref4_Same, d_ref2_Neg, d_law4_known, fz_BallOwn, List.replicate_zero, List.nil_append, List.isEmpty_nil, List.isEmpty_cons, int0, int1, decide_true, decide_false, Bool.not_true, Bool.not_false, beq_self_eq_true, eq_self, hbig, hIs, sameB_self, Nat.reduceBEq, Nat.reduceBNe, Nat.reduceLT, Nat.reduceLeDiff, Nat.reduceAdd, Nat.reduceSub, Nat.reduceMul, Nat.reduceEqDiff, Int.reduceNeg, Int.reduceAdd, Int.reduceLT, Int.reduceLE, Int.reduceToNat, ↓reduceIte]
    try and_intros
    all_goals try (first | omega | (show okDraw _ _ = true; kernel_rfl) | exact hallhbig | exact Nat.le_trans zb (by omega) | exact Nat.le_trans zbn (by omega) | exact Nat.le_trans zc (by omega) | exact Nat.le_trans zn (by omega) | assumption)
    subst hC
    refine cut_seq fun C hC => ?_
    simp only [go_sem, d_law4_big, d_ref2_Is, d_ball_Of, d_ball_Neg, d_ref4_Of, d_ref4_Same, d_ref2_Neg, d_law4_known, fz_BallOwn, List.replicate_zero, List.nil_append, List.isEmpty_nil, List.isEmpty_cons, int0, int1, decide_true, decide_false, Bool.not_true, Bool.not_false, beq_self_eq_true, eq_self, hbig, hIs, sameB_self, Nat.reduceBEq, Nat.reduceBNe, Nat.reduceLT, Nat.reduceLeDiff, Nat.reduceAdd, Nat.reduceSub, Nat.reduceMul, Nat.reduceEqDiff, Int.reduceNeg, Int.reduceAdd, Int.reduceLT, Int.reduceLE, Int.reduceToNat, ↓reduceIte]
    try and_intros
    all_goals try (first | omega | (show okDraw _ _ = true; kernel_rfl) | exact hallhbig | exact Nat.le_trans zb (by omega) | exact Nat.le_trans zbn (by omega) | exact Nat.le_trans zc (by omega) | exact Nat.le_trans zn (by omega) | assumption)
    subst hC
    refine cut_seq fun C hC => ?_
    simp only [go_sem, d_law4_big, d_ref2_Is, d_ball_Of, d_ball_Neg, d_ref4_Of, d_ref4_Same, d_ref2_Neg, d_law4_known, fz_BallOwn, List.replicate_zero, List.nil_append, List.isEmpty_nil, List.isEmpty_cons, int0, int1, decide_true, decide_false, Bool.not_true, Bool.not_false, beq_self_eq_true, eq_self, hbig, hIs, sameB_self, Nat.reduceBEq, Nat.reduceBNe, Nat.reduceLT, Nat.reduceLeDiff, Nat.reduceAdd, Nat.reduceSub, Nat.reduceMul, Nat.reduceEqDiff, Int.reduceNeg, Int.reduceAdd, Int.reduceLT, Int.reduceLE, Int.reduceToNat, ↓reduceIte]
    try and_intros
    all_goals try (first | omega | (show okDraw _ _ = true; kernel_rfl) | exact hallhbig | exact Nat.le_trans zb (by omega) | exact Nat.le_trans zbn (by omega) | exact Nat.le_trans zc (by omega) | exact Nat.le_trans zn (by omega) | assumption)
    subst hC
    refine cut_seq fun C hC => ?_
    simp only [go_sem, d_law4_big, d_ref2_Is, d_ball_Of, d_ball_Neg, d_ref4_Of, d_ref4_Same, d_ref2_Neg, d_law4_known, fz_BallOwn, List.replicate_zero, List.nil_append, List.isEmpty_nil, List.isEmpty_cons, int0, int1, decide_true, decide_false, Bool.not_true, Bool.not_false, beq_self_eq_true, eq_self, hbig, hIs, sameB_self, Nat.reduceBEq, Nat.reduceBNe, Nat.reduceLT, Nat.reduceLeDiff, Nat.reduceAdd, Nat.reduceSub, Nat.reduceMul, Nat.reduceEqDiff, Int.reduceNeg, Int.reduceAdd, Int.reduceLT, Int.reduceLE, Int.reduceToNat, ↓reduceIte]
    refine codeK_loop (fun i : { i : Nat // i ≤ a.n.length } => [(6, 0, .av (intV ((i.1 : Nat) : Int))), (3, 0, .av (.one (.cel (.ptr 3 0)))), (3, 1, .cv (.bool a.s)), (3, 2, .cv (.rf 20 a.n.length)), (3, 3, .cv (.rf 24 a.d.length)), (20, 1, .row (.u32 (fillN 77 a.n (i.1)))), (24, 1, .row (.u32 a.d)), (1, 0, .av (.one (.cel (.ptr 1 0)))), (1, 1, .cv (.bool (a).s)), (1, 2, .cv (.lim none (a).n)), (1, 3, .cv (.lim none (a).d)), (4, 0, .av (.one (.cel (.ptr 4 0)))), (4, 1, .cv (.bool (cr (a.q)).s)), (4, 2, .cv (.lim none (cr (a.q)).n)), (4, 3, .cv (.lim none (cr (a.q)).d)), (4, 4, .cv (.bool (cr (a.q)).s)), (4, 5, .cv (.lim none (cr (a.q)).n)), (4, 6, .cv (.lim none (cr (a.q)).d)), (5, 0, .av (.one (.cel (.ptr 5 0)))), (5, 1, .cv (.bool (cr (-a.q)).s)), (5, 2, .cv (.lim none (cr (-a.q)).n)), (5, 3, .cv (.lim none (cr (-a.q)).d)), (5, 4, .cv (.bool (cr (-a.q)).s)), (5, 5, .cv (.lim none (cr (-a.q)).n)), (5, 6, .cv (.lim none (cr (-a.q)).d))]) (fun i => a.n.length - i.1) ⟨0, by omega⟩ (le_of ?_) ?_
    · simp only [go_sem, leL, fillN_zero, Nat.reduceBEq, Nat.reduceBNe, Nat.reduceLT, Nat.reduceLeDiff, Nat.reduceAdd, Nat.reduceSub, Nat.reduceMul, Nat.reduceEqDiff, Int.reduceNeg, Int.reduceAdd, Int.reduceLT, Int.reduceLE, Int.reduceToNat, ↓reduceIte, Int.ofNat_zero, Int.natCast_zero, Int.cast_ofNat_Int]
    · rintro ⟨i, hi0⟩
      have hi0 : i ≤ a.n.length := hi0
      have hfl := fillN_len 77 a.n i
      have hnx := fillN_next 77 a.n i
      by_cases hi : i < a.n.length
      · have hit : (((i : Nat) : Int) < ((a.n.length : Nat) : Int)) = True := eq_true (by omega)
        simp only [go_sem, d_law4_big, d_ref2_Is, d_ball_Of, d_ball_Neg, d_ref4_Of, d_ref4_Same, d_ref2_Neg, d_law4_known, fz_BallOwn, List.replicate_zero, List.nil_append, List.isEmpty_nil, List.isEmpty_cons, int0, int1, decide_true, decide_false, Bool.not_true, Bool.not_false, beq_self_eq_true, eq_self, hbig, hIs, sameB_self, hit, hfl, Int.toNat_natCast, hnx, Nat.reduceBEq, Nat.reduceBNe, Nat.reduceLT, Nat.reduceLeDiff, Nat.reduceAdd, Nat.reduceSub, Nat.reduceMul, Nat.reduceEqDiff, Int.reduceNeg, Int.reduceAdd, Int.reduceLT, Int.reduceLE, Int.reduceToNat, ↓reduceIte]
        ((try and_intros) <;> first | exact trivial | omega | (show okDraw _ _ = true; kernel_rfl) | (show ∃ _, _; exact ⟨⟨i + 1, by omega⟩, by show a.n.length - (i + 1) < a.n.length - i; omega, le_of (by simp only [go_sem, leL, hnx, Nat.reduceBEq, Nat.reduceBNe, Nat.reduceLT, Nat.reduceLeDiff, Nat.reduceAdd, Nat.reduceSub, Nat.reduceMul, Nat.reduceEqDiff, Int.reduceNeg, Int.reduceAdd, Int.reduceLT, Int.reduceLE, Int.reduceToNat, ↓reduceIte]; try omega)⟩) | assumption)
      · have hit : (((i : Nat) : Int) < ((a.n.length : Nat) : Int)) = False := eq_false (by omega)
        have ei : i = a.n.length := by omega
        subst ei
        simp only [go_sem, d_law4_big, d_ref2_Is, d_ball_Of, d_ball_Neg, d_ref4_Of, d_ref4_Same, d_ref2_Neg, d_law4_known, fz_BallOwn, List.replicate_zero, List.nil_append, List.isEmpty_nil, List.isEmpty_cons, int0, int1, decide_true, decide_false, Bool.not_true, Bool.not_false, beq_self_eq_true, eq_self, hbig, hIs, sameB_self, Int.lt_irrefl, Nat.reduceBEq, Nat.reduceBNe, Nat.reduceLT, Nat.reduceLeDiff, Nat.reduceAdd, Nat.reduceSub, Nat.reduceMul, Nat.reduceEqDiff, Int.reduceNeg, Int.reduceAdd, Int.reduceLT, Int.reduceLE, Int.reduceToNat, ↓reduceIte]
        subst hC
        simp only [go_sem, d_law4_big, d_ref2_Is, d_ball_Of, d_ball_Neg, d_ref4_Of, d_ref4_Same, d_ref2_Neg, d_law4_known, fz_BallOwn, List.replicate_zero, List.nil_append, List.isEmpty_nil, List.isEmpty_cons, int0, int1, decide_true, decide_false, Bool.not_true, Bool.not_false, beq_self_eq_true, eq_self, hbig, hIs, sameB_self, Nat.reduceBEq, Nat.reduceBNe, Nat.reduceLT, Nat.reduceLeDiff, Nat.reduceAdd, Nat.reduceSub, Nat.reduceMul, Nat.reduceEqDiff, Int.reduceNeg, Int.reduceAdd, Int.reduceLT, Int.reduceLE, Int.reduceToNat, ↓reduceIte]
        and_intros
        all_goals first | assumption | exact hallhbig | omega | exact Nat.le_trans zb (by omega) | exact Nat.le_trans zbn (by omega) | exact Nat.le_trans zc (by omega) | exact Nat.le_trans zn (by omega) | (show okDraw _ _ = true; kernel_rfl)
  · have hIf : oneB a (cr a.q) = false := by simpa using hIs
    simp only [go_sem, d_law4_big, d_ref2_Is, d_ball_Of, d_ball_Neg, d_ref4_Of, d_ref4_Same, d_ref2_Neg, d_law4_known, fz_BallOwn, List.replicate_zero, List.nil_append, List.isEmpty_nil, List.isEmpty_cons, int0, int1, decide_true, decide_false, Bool.not_true, Bool.not_false, beq_self_eq_true, eq_self, hbig, hIf, Nat.reduceBEq, Nat.reduceBNe, Nat.reduceLT, Nat.reduceLeDiff, Nat.reduceAdd, Nat.reduceSub, Nat.reduceMul, Nat.reduceEqDiff, Int.reduceNeg, Int.reduceAdd, Int.reduceLT, Int.reduceLE, Int.reduceToNat, ↓reduceIte]
    first | exact hallhbig | (and_intros <;> first | exact hallhbig | assumption | trivial | omega | (show okDraw _ _ = true; kernel_rfl))

end Go.Proofs.Ytifnpelkoklcnaa
