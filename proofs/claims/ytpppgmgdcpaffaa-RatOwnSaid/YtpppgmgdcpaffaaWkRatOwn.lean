/- The law RatOwn. Condition: rows shorter than 10^14. -/
import Derived.Test.YtpppgmgdcpaffaaIa
import Derived.Test.YtpppgmgdcpaffaaBj
namespace Go.Proofs.Ytpppgmgdcpaffaa
open Go.RowKit
set_option linter.unusedSimpArgs false
set_option linter.unusedVariables false
/-- the code behind a block is laid aside, before the block's loop begins -/
theorem cut_bs {E : Env} {Q : AEx → AS → Prop} {k : List It} {s : AS} {id : Nat} {c c2 : Code} (h : ∀ C, C = c2 → codeK E Q (.block id :: .seq C :: k) c s) : codeK E Q (.block id :: .seq c2 :: k) c s := h c2 rfl
def fz_RatOwn : Nat → List Nat
  | 1000005 => [1]
  | _ => []
def d_law2_RatOwn : Den := den2 aRat aRat (fun a b => a.sz ≤ 100000000000000 ∧ b.sz ≤ 100000000000000) fun a b => boolV true
set_option maxRecDepth 100000 in
set_option maxHeartbeats 8000000 in
theorem s_law2_RatOwn : Sound Try.prog 3 d_law2_RatOwn := by
  refine sound2 (fz := fz_RatOwn) (l := [(1000000 + 21, d_rat_Norm), (1000000 + 22, d_rat_Add), (1000000 + 27, d_ref2_Norm), (1000000 + 28, d_ref2_Add), (20, d_law2_big), (21, d_rat_Norm), (22, d_rat_Add), (23, d_rat_Mul), (24, d_rat_Div), (25, d_rat_Floor), (26, d_law2_one), (27, d_ref2_Norm), (28, d_ref2_Add), (29, d_law2_known)]) TT_ok ⟨sn_rat_Norm, sn_rat_Add, sn_ref2_Norm, sn_ref2_Add, s_law2_big, s_rat_Norm, s_rat_Add, s_rat_Mul, s_rat_Div, s_rat_Floor, s_law2_one, s_ref2_Norm, s_ref2_Add, s_law2_known, trivial⟩ mixed Try.func3 Try.ntmps3 Try.results3 Try.call3 rfl (by omega) (fun _ _ => rfl) ?_
  intro a b hp ha hb
  rw [codeK_start]
  obtain ⟨hp1, hp2⟩ := hp
  have la := RR.lens hp1
  have hall : ∀ r ∈ [a, b], r.sz ≤ 100000000000000 := by
    intro r hr
    simp only [List.mem_cons, List.not_mem_nil, or_false] at hr
    rcases hr with rfl | rfl <;> assumption
  by_cases hbig : 16 < sumLens [a, b]
  · skip
    have hbd := decide_eq_true hbig
    simp only [go_sem, d_law2_big, d_rat_Norm, d_rat_Add, d_rat_Mul, d_rat_Div, d_rat_Floor, d_law2_one, d_ref2_Norm, d_ref2_Add, d_law2_known, int0, int1, decide_true, decide_false, Bool.not_true, Bool.not_false, beq_self_eq_true, eq_self, decide_not, fz_RatOwn, List.replicate_zero, hbd, Nat.reduceBEq, Nat.reduceBNe, Nat.reduceLT, Nat.reduceLeDiff, Nat.reduceAdd, Nat.reduceSub, Nat.reduceMul, Nat.reduceEqDiff, Int.reduceNeg, Int.reduceAdd, Int.reduceLT, Int.reduceLE, Int.reduceToNat, ↓reduceIte]
    ((try and_intros) <;> first | exact trivial | omega | (show okDraw _ _ = true; kernel_rfl) | exact hall | assumption)
  have hbd := decide_eq_false hbig
  have hlen := hbig
  simp only [sumLens, List.map_cons, List.map_nil, List.sum_cons, List.sum_nil, lensOf] at hlen
  have za : a.sz ≤ 16 := RR.sz_le (by omega) (by omega)
  have zb : b.sz ≤ 16 := RR.sz_le (by omega) (by omega)
  have qa : rs a.q ≤ 16 := rs_ok ha za (by omega)
  have qb : rs b.q ≤ 16 := rs_ok hb zb (by omega)
  have qs : rs (a.q + b.q) ≤ 40 := rsb_add qa qb (by omega)
  have hself := oneB_self a
  have lz : (List.length a.n : Nat) ≤ 16 := by omega
  have lz2 : (List.length a.d : Nat) ≤ 16 := by omega
  refine cut_seq fun C hC => ?_
  simp only [go_sem, d_law2_big, d_rat_Norm, d_rat_Add, d_rat_Mul, d_rat_Div, d_rat_Floor, d_law2_one, d_ref2_Norm, d_ref2_Add, d_law2_known, int0, int1, decide_true, decide_false, Bool.not_true, Bool.not_false, beq_self_eq_true, eq_self, decide_not, fz_RatOwn, List.replicate_zero, hbd, Nat.reduceBEq, Nat.reduceBNe, Nat.reduceLT, Nat.reduceLeDiff, Nat.reduceAdd, Nat.reduceSub, Nat.reduceMul, Nat.reduceEqDiff, Int.reduceNeg, Int.reduceAdd, Int.reduceLT, Int.reduceLE, Int.reduceToNat, ↓reduceIte]
  try and_intros
  all_goals try (first | omega | (show okDraw _ _ = true; kernel_rfl) | exact hall | assumption)
  subst hC
  refine cut_seq fun C hC => ?_
  simp only [go_sem, d_law2_big, d_rat_Norm, d_rat_Add, d_rat_Mul, d_rat_Div, d_rat_Floor, d_law2_one, d_ref2_Norm, d_ref2_Add, d_law2_known, int0, int1, decide_true, decide_false, Bool.not_true, Bool.not_false, beq_self_eq_true, eq_self, decide_not, fz_RatOwn, List.replicate_zero, hbd, Nat.reduceBEq, Nat.reduceBNe, Nat.reduceLT, Nat.reduceLeDiff, Nat.reduceAdd, Nat.reduceSub, Nat.reduceMul, Nat.reduceEqDiff, Int.reduceNeg, Int.reduceAdd, Int.reduceLT, Int.reduceLE, Int.reduceToNat, ↓reduceIte]
  try and_intros
  all_goals try (first | omega | (show okDraw _ _ = true; kernel_rfl) | exact hall | assumption)
  subst hC
  refine cut_seq fun C hC => ?_
  simp only [go_sem, d_law2_big, d_rat_Norm, d_rat_Add, d_rat_Mul, d_rat_Div, d_rat_Floor, d_law2_one, d_ref2_Norm, d_ref2_Add, d_law2_known, int0, int1, decide_true, decide_false, Bool.not_true, Bool.not_false, beq_self_eq_true, eq_self, decide_not, fz_RatOwn, List.replicate_zero, hbd, Nat.reduceBEq, Nat.reduceBNe, Nat.reduceLT, Nat.reduceLeDiff, Nat.reduceAdd, Nat.reduceSub, Nat.reduceMul, Nat.reduceEqDiff, Int.reduceNeg, Int.reduceAdd, Int.reduceLT, Int.reduceLE, Int.reduceToNat, ↓reduceIte]
  try and_intros
  all_goals try (first | omega | (show okDraw _ _ = true; kernel_rfl) | exact hall | assumption)
  subst hC
  refine cut_seq fun C hC => ?_
  simp only [go_sem, d_law2_big, d_rat_Norm, d_rat_Add, d_rat_Mul, d_rat_Div, d_rat_Floor, d_law2_one, d_ref2_Norm, d_ref2_Add, d_law2_known, int0, int1, decide_true, decide_false, Bool.not_true, Bool.not_false, beq_self_eq_true, eq_self, decide_not, fz_RatOwn, List.replicate_zero, hbd, Nat.reduceBEq, Nat.reduceBNe, Nat.reduceLT, Nat.reduceLeDiff, Nat.reduceAdd, Nat.reduceSub, Nat.reduceMul, Nat.reduceEqDiff, Int.reduceNeg, Int.reduceAdd, Int.reduceLT, Int.reduceLE, Int.reduceToNat, ↓reduceIte]
  try and_intros
  all_goals try (first | omega | (show okDraw _ _ = true; kernel_rfl) | exact hall | assumption)
  subst hC
  refine cut_seq fun C hC => ?_
  simp only [go_sem, d_law2_big, d_rat_Norm, d_rat_Add, d_rat_Mul, d_rat_Div, d_rat_Floor, d_law2_one, d_ref2_Norm, d_ref2_Add, d_law2_known, int0, int1, decide_true, decide_false, Bool.not_true, Bool.not_false, beq_self_eq_true, eq_self, decide_not, fz_RatOwn, List.replicate_zero, hbd, Nat.reduceBEq, Nat.reduceBNe, Nat.reduceLT, Nat.reduceLeDiff, Nat.reduceAdd, Nat.reduceSub, Nat.reduceMul, Nat.reduceEqDiff, Int.reduceNeg, Int.reduceAdd, Int.reduceLT, Int.reduceLE, Int.reduceToNat, ↓reduceIte]
  try and_intros
  all_goals try (first | omega | (show okDraw _ _ = true; kernel_rfl) | exact hall | assumption)
  subst hC
  refine cut_seq fun C hC => ?_
  simp only [go_sem, d_law2_big, d_rat_Norm, d_rat_Add, d_rat_Mul, d_rat_Div, d_rat_Floor, d_law2_one, d_ref2_Norm, d_ref2_Add, d_law2_known, int0, int1, decide_true, decide_false, Bool.not_true, Bool.not_false, beq_self_eq_true, eq_self, decide_not, fz_RatOwn, List.replicate_zero, hbd, Nat.reduceBEq, Nat.reduceBNe, Nat.reduceLT, Nat.reduceLeDiff, Nat.reduceAdd, Nat.reduceSub, Nat.reduceMul, Nat.reduceEqDiff, Int.reduceNeg, Int.reduceAdd, Int.reduceLT, Int.reduceLE, Int.reduceToNat, ↓reduceIte]
  try and_intros
  all_goals try (first | omega | (show okDraw _ _ = true; kernel_rfl) | exact hall | assumption)
  subst hC
  refine cut_seq fun C hC => ?_
  simp only [go_sem, d_law2_big, d_rat_Norm, d_rat_Add, d_rat_Mul, d_rat_Div, d_rat_Floor, d_law2_one, d_ref2_Norm, d_ref2_Add, d_law2_known, int0, int1, decide_true, decide_false, Bool.not_true, Bool.not_false, beq_self_eq_true, eq_self, decide_not, fz_RatOwn, List.replicate_zero, hbd, Nat.reduceBEq, Nat.reduceBNe, Nat.reduceLT, Nat.reduceLeDiff, Nat.reduceAdd, Nat.reduceSub, Nat.reduceMul, Nat.reduceEqDiff, Int.reduceNeg, Int.reduceAdd, Int.reduceLT, Int.reduceLE, Int.reduceToNat, ↓reduceIte]
  try and_intros
  all_goals try (first | omega | (show okDraw _ _ = true; kernel_rfl) | exact hall | assumption)
  subst hC
  refine cut_seq fun C hC => ?_
  simp only [go_sem, d_law2_big, d_rat_Norm, d_rat_Add, d_rat_Mul, d_rat_Div, d_rat_Floor, d_law2_one, d_ref2_Norm, d_ref2_Add, d_law2_known, int0, int1, decide_true, decide_false, Bool.not_true, Bool.not_false, beq_self_eq_true, eq_self, decide_not, fz_RatOwn, List.replicate_zero, hbd, Nat.reduceBEq, Nat.reduceBNe, Nat.reduceLT, Nat.reduceLeDiff, Nat.reduceAdd, Nat.reduceSub, Nat.reduceMul, Nat.reduceEqDiff, Int.reduceNeg, Int.reduceAdd, Int.reduceLT, Int.reduceLE, Int.reduceToNat, ↓reduceIte]
  try and_intros
  all_goals try (first | omega | (show okDraw _ _ = true; kernel_rfl) | exact hall | assumption)
  subst hC
  refine cut_seq fun C hC => ?_
  simp only [go_sem, d_law2_big, d_rat_Norm, d_rat_Add, d_rat_Mul, d_rat_Div, d_rat_Floor, d_law2_one, d_ref2_Norm, d_ref2_Add, d_law2_known, int0, int1, decide_true, decide_false, Bool.not_true, Bool.not_false, beq_self_eq_true, eq_self, decide_not, fz_RatOwn, List.replicate_zero, hbd, Nat.reduceBEq, Nat.reduceBNe, Nat.reduceLT, Nat.reduceLeDiff, Nat.reduceAdd, Nat.reduceSub, Nat.reduceMul, Nat.reduceEqDiff, Int.reduceNeg, Int.reduceAdd, Int.reduceLT, Int.reduceLE, Int.reduceToNat, ↓reduceIte]
  refine codeK_loop (fun i : { i : Nat // i ≤ a.n.length } => [(8, 0, .av (intV (i.1 : Nat))), (5, 0, .av (.one (.cel (.ptr 5 0)))), (5, 1, .cv (.bool a.s)), (5, 2, .cv (.rf 19 a.n.length)), (5, 3, .cv (.rf 23 a.d.length)), (19, 1, .row (.u32 (fillN 7 a.n (i.1)))), (23, 1, .row (.u32 (a.d))), (2, 0, .av (.one (.cel (.ptr 2 0)))), (2, 1, .cv (.bool (a).s)), (2, 2, .cv (.lim none (a).n)), (2, 3, .cv (.lim none (a).d)), (3, 0, .av (.one (.cel (.ptr 3 0)))), (3, 1, .cv (.bool (b).s)), (3, 2, .cv (.lim none (b).n)), (3, 3, .cv (.lim none (b).d)), (6, 0, .av (.one (.cel (.ptr 6 0)))), (6, 1, .cv (.bool (cr (a.q)).s)), (6, 2, .cv (.lim none (cr (a.q)).n)), (6, 3, .cv (.lim none (cr (a.q)).d)), (7, 0, .av (.one (.cel (.ptr 7 0)))), (7, 1, .cv (.bool (cr (a.q + b.q)).s)), (7, 2, .cv (.lim none (cr (a.q + b.q)).n)), (7, 3, .cv (.lim none (cr (a.q + b.q)).d))]) (fun i => a.n.length - i.1) ⟨0, by omega⟩ (le_of ?_) ?_
  · simp only [go_sem, leL, fillN_zero, Nat.reduceBEq, Nat.reduceBNe, Nat.reduceLT, Nat.reduceLeDiff, Nat.reduceAdd, Nat.reduceSub, Nat.reduceMul, Nat.reduceEqDiff, Int.reduceNeg, Int.reduceAdd, Int.reduceLT, Int.reduceLE, Int.reduceToNat, ↓reduceIte, Int.ofNat_zero, Int.natCast_zero, Int.cast_ofNat_Int]
  · rintro ⟨i, hi0⟩
    have hi0 : i ≤ a.n.length := hi0
    have hfl := fillN_len 7 a.n i
    have hnx := fillN_next 7 a.n i
    by_cases hi : i < a.n.length
    · have hit : (((i : Nat) : Int) < ((a.n.length : Nat) : Int)) = True := eq_true (by omega)
      simp only [go_sem, d_law2_big, d_rat_Norm, d_rat_Add, d_rat_Mul, d_rat_Div, d_rat_Floor, d_law2_one, d_ref2_Norm, d_ref2_Add, d_law2_known, int0, int1, decide_true, decide_false, Bool.not_true, Bool.not_false, beq_self_eq_true, eq_self, decide_not, fz_RatOwn, List.replicate_zero, hbd, hit, hfl, Int.toNat_natCast, hnx, Nat.reduceBEq, Nat.reduceBNe, Nat.reduceLT, Nat.reduceLeDiff, Nat.reduceAdd, Nat.reduceSub, Nat.reduceMul, Nat.reduceEqDiff, Int.reduceNeg, Int.reduceAdd, Int.reduceLT, Int.reduceLE, Int.reduceToNat, ↓reduceIte]
      ((try and_intros) <;> first | exact trivial | omega | (show okDraw _ _ = true; kernel_rfl) | (show ∃ _, _; exact ⟨⟨i + 1, by omega⟩, by show a.n.length - (i + 1) < a.n.length - i; omega, le_of (by simp only [go_sem, leL, hnx, Nat.reduceBEq, Nat.reduceBNe, Nat.reduceLT, Nat.reduceLeDiff, Nat.reduceAdd, Nat.reduceSub, Nat.reduceMul, Nat.reduceEqDiff, Int.reduceNeg, Int.reduceAdd, Int.reduceLT, Int.reduceLE, Int.reduceToNat, ↓reduceIte]; try omega)⟩) | assumption)
    · have hit : (((i : Nat) : Int) < ((a.n.length : Nat) : Int)) = False := eq_false (by omega)
      have ei : i = a.n.length := by omega
      subst ei
      simp only [go_sem, d_law2_big, d_rat_Norm, d_rat_Add, d_rat_Mul, d_rat_Div, d_rat_Floor, d_law2_one, d_ref2_Norm, d_ref2_Add, d_law2_known, int0, int1, decide_true, decide_false, Bool.not_true, Bool.not_false, beq_self_eq_true, eq_self, decide_not, fz_RatOwn, List.replicate_zero, hbd, Int.lt_irrefl, Nat.reduceBEq, Nat.reduceBNe, Nat.reduceLT, Nat.reduceLeDiff, Nat.reduceAdd, Nat.reduceSub, Nat.reduceMul, Nat.reduceEqDiff, Int.reduceNeg, Int.reduceAdd, Int.reduceLT, Int.reduceLE, Int.reduceToNat, ↓reduceIte]
      subst hC
      refine cut_seq fun C hC => ?_
      simp only [go_sem, d_law2_big, d_rat_Norm, d_rat_Add, d_rat_Mul, d_rat_Div, d_rat_Floor, d_law2_one, d_ref2_Norm, d_ref2_Add, d_law2_known, int0, int1, decide_true, decide_false, Bool.not_true, Bool.not_false, beq_self_eq_true, eq_self, decide_not, fz_RatOwn, List.replicate_zero, hbd, Nat.reduceBEq, Nat.reduceBNe, Nat.reduceLT, Nat.reduceLeDiff, Nat.reduceAdd, Nat.reduceSub, Nat.reduceMul, Nat.reduceEqDiff, Int.reduceNeg, Int.reduceAdd, Int.reduceLT, Int.reduceLE, Int.reduceToNat, ↓reduceIte]
      refine codeK_loop (fun i : { i : Nat // i ≤ a.d.length } => [(9, 0, .av (intV (i.1 : Nat))), (5, 0, .av (.one (.cel (.ptr 5 0)))), (5, 1, .cv (.bool a.s)), (5, 2, .cv (.rf 19 a.n.length)), (5, 3, .cv (.rf 23 a.d.length)), (19, 1, .row (.u32 (fillN 7 a.n a.n.length))), (23, 1, .row (.u32 (fillN 9 a.d (i.1)))), (2, 0, .av (.one (.cel (.ptr 2 0)))), (2, 1, .cv (.bool (a).s)), (2, 2, .cv (.lim none (a).n)), (2, 3, .cv (.lim none (a).d)), (3, 0, .av (.one (.cel (.ptr 3 0)))), (3, 1, .cv (.bool (b).s)), (3, 2, .cv (.lim none (b).n)), (3, 3, .cv (.lim none (b).d)), (6, 0, .av (.one (.cel (.ptr 6 0)))), (6, 1, .cv (.bool (cr (a.q)).s)), (6, 2, .cv (.lim none (cr (a.q)).n)), (6, 3, .cv (.lim none (cr (a.q)).d)), (7, 0, .av (.one (.cel (.ptr 7 0)))), (7, 1, .cv (.bool (cr (a.q + b.q)).s)), (7, 2, .cv (.lim none (cr (a.q + b.q)).n)), (7, 3, .cv (.lim none (cr (a.q + b.q)).d))]) (fun i => a.d.length - i.1) ⟨0, by omega⟩ (le_of ?_) ?_
      · simp only [go_sem, leL, fillN_zero, Nat.reduceBEq, Nat.reduceBNe, Nat.reduceLT, Nat.reduceLeDiff, Nat.reduceAdd, Nat.reduceSub, Nat.reduceMul, Nat.reduceEqDiff, Int.reduceNeg, Int.reduceAdd, Int.reduceLT, Int.reduceLE, Int.reduceToNat, ↓reduceIte, Int.ofNat_zero, Int.natCast_zero, Int.cast_ofNat_Int]
      · rintro ⟨i, hi0⟩
        have hi0 : i ≤ a.d.length := hi0
        have hfl := fillN_len 9 a.d i
        have hnx := fillN_next 9 a.d i
        by_cases hi : i < a.d.length
        · have hit : (((i : Nat) : Int) < ((a.d.length : Nat) : Int)) = True := eq_true (by omega)
          simp only [go_sem, d_law2_big, d_rat_Norm, d_rat_Add, d_rat_Mul, d_rat_Div, d_rat_Floor, d_law2_one, d_ref2_Norm, d_ref2_Add, d_law2_known, int0, int1, decide_true, decide_false, Bool.not_true, Bool.not_false, beq_self_eq_true, eq_self, decide_not, fz_RatOwn, List.replicate_zero, hbd, hit, hfl, Int.toNat_natCast, hnx, Nat.reduceBEq, Nat.reduceBNe, Nat.reduceLT, Nat.reduceLeDiff, Nat.reduceAdd, Nat.reduceSub, Nat.reduceMul, Nat.reduceEqDiff, Int.reduceNeg, Int.reduceAdd, Int.reduceLT, Int.reduceLE, Int.reduceToNat, ↓reduceIte]
          ((try and_intros) <;> first | exact trivial | omega | (show okDraw _ _ = true; kernel_rfl) | (show ∃ _, _; exact ⟨⟨i + 1, by omega⟩, by show a.d.length - (i + 1) < a.d.length - i; omega, le_of (by simp only [go_sem, leL, hnx, Nat.reduceBEq, Nat.reduceBNe, Nat.reduceLT, Nat.reduceLeDiff, Nat.reduceAdd, Nat.reduceSub, Nat.reduceMul, Nat.reduceEqDiff, Int.reduceNeg, Int.reduceAdd, Int.reduceLT, Int.reduceLE, Int.reduceToNat, ↓reduceIte]; try omega)⟩) | assumption)
        · have hit : (((i : Nat) : Int) < ((a.d.length : Nat) : Int)) = False := eq_false (by omega)
          have ei : i = a.d.length := by omega
          subst ei
          simp only [go_sem, d_law2_big, d_rat_Norm, d_rat_Add, d_rat_Mul, d_rat_Div, d_rat_Floor, d_law2_one, d_ref2_Norm, d_ref2_Add, d_law2_known, int0, int1, decide_true, decide_false, Bool.not_true, Bool.not_false, beq_self_eq_true, eq_self, decide_not, fz_RatOwn, List.replicate_zero, hbd, Int.lt_irrefl, Nat.reduceBEq, Nat.reduceBNe, Nat.reduceLT, Nat.reduceLeDiff, Nat.reduceAdd, Nat.reduceSub, Nat.reduceMul, Nat.reduceEqDiff, Int.reduceNeg, Int.reduceAdd, Int.reduceLT, Int.reduceLE, Int.reduceToNat, ↓reduceIte]
          subst hC
          simp only [go_sem, d_law2_big, d_rat_Norm, d_rat_Add, d_rat_Mul, d_rat_Div, d_rat_Floor, d_law2_one, d_ref2_Norm, d_ref2_Add, d_law2_known, int0, int1, decide_true, decide_false, Bool.not_true, Bool.not_false, beq_self_eq_true, eq_self, decide_not, fz_RatOwn, List.replicate_zero, hbd, Nat.reduceBEq, Nat.reduceBNe, Nat.reduceLT, Nat.reduceLeDiff, Nat.reduceAdd, Nat.reduceSub, Nat.reduceMul, Nat.reduceEqDiff, Int.reduceNeg, Int.reduceAdd, Int.reduceLT, Int.reduceLE, Int.reduceToNat, ↓reduceIte]
          ((try and_intros) <;> first | exact trivial | omega | (show okDraw _ _ = true; kernel_rfl) | exact hall | assumption)

end Go.Proofs.Ytpppgmgdcpaffaa
