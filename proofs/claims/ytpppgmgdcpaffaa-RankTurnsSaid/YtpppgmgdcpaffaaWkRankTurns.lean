/- The law RankTurns. Condition: rows shorter than 10^14. -/
import Derived.Test.YtpppgmgdcpaffaaDe
import Derived.Test.YtpppgmgdcpaffaaBj
namespace Go.Proofs.Ytpppgmgdcpaffaa
open Go.RowKit
set_option linter.unusedSimpArgs false
set_option linter.unusedVariables false
/-- the code behind a block is laid aside, before the block's loop begins -/
theorem cut_bs {E : Env} {Q : AEx → AS → Prop} {k : List It} {s : AS} {id : Nat} {c c2 : Code} (h : ∀ C, C = c2 → codeK E Q (.block id :: .seq C :: k) c s) : codeK E Q (.block id :: .seq c2 :: k) c s := h c2 rfl
def fz_RankTurns : Nat → List Nat
  | 18 => [1005]
  | _ => []
def d_law18_RankTurns : Den := den2 aRats aRats (fun a b => (a.length ≤ 100000000000000 ∧ ∀ r ∈ a, r.sz ≤ 100000000000000) ∧ (b.length ≤ 100000000000000 ∧ ∀ r ∈ b, r.sz ≤ 100000000000000)) fun a b => boolV true
set_option maxRecDepth 100000 in
set_option maxHeartbeats 8000000 in
theorem s_law18_RankTurns : Sound Try.prog 8 d_law18_RankTurns := by
  refine sound2 (fz := fz_RankTurns) (l := [(32, d_law18_much), (40, d_ref2_Neg), (47, d_rank_Pairs), (37, d_law18_known)]) TT_ok ⟨s_law18_much, s_ref2_Neg, s_rank_Pairs, s_law18_known, trivial⟩ mixed Try.func8 Try.ntmps8 Try.results8 Try.call8 rfl (by omega) (fun _ _ => rfl) ?_
  intro a b hp ha hb
  rw [codeK_start]
  have za := hp.1
  have zb := hp.2
  have hallb : ∀ r ∈ [a, b], r.length ≤ 100000000000000 ∧ ∀ x ∈ r, x.sz ≤ 100000000000000 := by
    intro r hr
    simp only [List.mem_cons, List.not_mem_nil, or_false] at hr
    rcases hr with rfl | rfl <;> assumption
  by_cases hw : [a, b].any muchL = true
  · skip
    simp only [go_sem, d_law18_much, d_ref2_Neg, d_rank_Pairs, d_law18_known, fz_RankTurns, hw, Nat.reduceBEq, Nat.reduceBNe, Nat.reduceLT, Nat.reduceLeDiff, Nat.reduceAdd, Nat.reduceSub, Nat.reduceMul, Nat.reduceEqDiff, Int.reduceNeg, Int.reduceAdd, Int.reduceLT, Int.reduceLE, Int.reduceToNat, ↓reduceIte]
    first | exact hallb | (and_intros <;> first | exact hallb | assumption | trivial | (show okDraw _ _ = true; kernel_rfl))
  rw [Bool.not_eq_true] at hw
  obtain ⟨ua, va⟩ := much_facts (any_false hw a (by simp))
  have pa : a.length ≤ 1000 ∧ ∀ r ∈ a, r.sz ≤ 1000 := ⟨by omega, fun r hr => Nat.le_trans (va r hr) (by omega)⟩
  have pa1 := pa.1
  have pa2 := pa.2
  have oa := offs_bound ha pa
  have qa := rs_atQ ha pa.2 (by omega)
  have sa : rs (sumTo (atQ a) a.length) ≤ 1000 * (1000 + 1) + 1 := sumQ_bound qa pa.1
  have ma := rs_meanQ qa pa.1
  obtain ⟨ub, vb⟩ := much_facts (any_false hw b (by simp))
  have pb : b.length ≤ 1000 ∧ ∀ r ∈ b, r.sz ≤ 1000 := ⟨by omega, fun r hr => Nat.le_trans (vb r hr) (by omega)⟩
  have pb1 := pb.1
  have pb2 := pb.2
  have ob := offs_bound hb pb
  have qb := rs_atQ hb pb.2 (by omega)
  have sb : rs (sumTo (atQ b) b.length) ≤ 1000 * (1000 + 1) + 1 := sumQ_bound qb pb.1
  have mb := rs_meanQ qb pb.1
  by_cases g1 : a.length = b.length
  rotate_left
  · skip
    have x1 : (((a.length : Nat) : Int) = b.length) = False := eq_false (by omega)
    simp only [go_sem, d_law18_much, d_ref2_Neg, d_rank_Pairs, d_law18_known, fz_RankTurns, hw, beq_self_eq_true, eq_self, decide_true, decide_false, Bool.not_true, Bool.not_false, int0, int1, x1, Nat.reduceBEq, Nat.reduceBNe, Nat.reduceLT, Nat.reduceLeDiff, Nat.reduceAdd, Nat.reduceSub, Nat.reduceMul, Nat.reduceEqDiff, Int.reduceNeg, Int.reduceAdd, Int.reduceLT, Int.reduceLE, Int.reduceToNat, ↓reduceIte]
    first | exact hallb | (and_intros <;> first | exact hallb | assumption | trivial | (show okDraw _ _ = true; kernel_rfl))
  have x1 : (((a.length : Nat) : Int) = b.length) = True := eq_true (by omega)
  simp only [go_sem, d_law18_much, d_ref2_Neg, d_rank_Pairs, d_law18_known, fz_RankTurns, hw, beq_self_eq_true, eq_self, decide_true, decide_false, Bool.not_true, Bool.not_false, int0, int1, x1, Nat.reduceBEq, Nat.reduceBNe, Nat.reduceLT, Nat.reduceLeDiff, Nat.reduceAdd, Nat.reduceSub, Nat.reduceMul, Nat.reduceEqDiff, Int.reduceNeg, Int.reduceAdd, Int.reduceLT, Int.reduceLE, Int.reduceToNat, ↓reduceIte]
  refine ⟨hallb, ?_⟩
  refine cut_bs fun C hC => ?_
  refine codeK_loop (fun i : { i : Nat // i ≤ b.length } => [(6, 0, .av (intV (i.1 : Nat))), (5, 0, .av (.one (.cel (.rf 1005 i.1)))), (1005, 1, .row (.gen 3 ((mkL (fun i => - atQ b i) i.1).map ratCells))), (0, 0, .av (ratsV a)), (1, 0, .av (ratsV b))]) (fun i => b.length - i.1) ⟨0, by omega⟩ ?_ ?_
  · refine le_nil 5 1005 (.gen 3 []) (by rfl) (by kernel_rfl) ⟨by omega, trivial⟩ rfl (le_of ?_)
    simp only [go_sem, leL, Nat.reduceBEq, Nat.reduceBNe, Nat.reduceLT, Nat.reduceLeDiff, Nat.reduceAdd, Nat.reduceSub, Nat.reduceMul, Nat.reduceEqDiff, Int.reduceNeg, Int.reduceAdd, Int.reduceLT, Int.reduceLE, Int.reduceToNat, ↓reduceIte, mkL_zero, Int.ofNat_zero, Int.natCast_zero, Int.cast_ofNat_Int]
  · rintro ⟨i, hi0⟩
    have hi0 : i ≤ b.length := hi0
    by_cases hi : i < b.length
    · have hm := pb.2 _ (getD_mem (d := rr0) hi)
      have hln := mkL_len (fun i => - atQ b i) i
      have hln2 := mkL_len (fun i => - atQ b i) (i + 1)
      have hrow : (mkL (fun i => - atQ b i) i).map ratCells ++ [[.bool (cr (-(b.getD i rr0).q)).s, .lim none (cr (-(b.getD i rr0).q)).n, .lim none (cr (-(b.getD i rr0).q)).d]] = (mkL (fun i => - atQ b i) (i + 1)).map ratCells := mkL_cells _ i
      simp only [go_sem, d_law18_much, d_ref2_Neg, d_rank_Pairs, d_law18_known, fz_RankTurns, hw, beq_self_eq_true, eq_self, decide_true, decide_false, Bool.not_true, Bool.not_false, int0, int1, getD_rats hi, getD_ratsI hi, Int.ofNat_lt, hi, Nat.reduceBEq, Nat.reduceBNe, Nat.reduceLT, Nat.reduceLeDiff, Nat.reduceAdd, Nat.reduceSub, Nat.reduceMul, Nat.reduceEqDiff, Int.reduceNeg, Int.reduceAdd, Int.reduceLT, Int.reduceLE, Int.reduceToNat, ↓reduceIte]
      and_intros
      all_goals try (first | assumption | omega | exact hln.symm | (show okDraw _ _ = true; kernel_rfl))
      refine ⟨⟨i + 1, by omega⟩, by show b.length - (i + 1) < b.length - i; omega, Le.trans (b := [(6, 0, .av (intV ((i + 1) : Nat))), (5, 0, .av (.one (.cel (.rf 43 (i + 1))))), (43, 1, .row (.gen 3 ((mkL (fun i => - atQ b i) (i + 1)).map ratCells))), (0, 0, .av (ratsV a)), (1, 0, .av (ratsV b))]) (le_of ?_) (le_ren 43 1005 (c := .gen 3 ((mkL (fun i => - atQ b i) (i + 1)).map ratCells)) (by rfl) (by kernel_rfl) (le_of ?_))⟩
      · simp only [go_sem, leL, hrow, hln2, Nat.reduceBEq, Nat.reduceBNe, Nat.reduceLT, Nat.reduceLeDiff, Nat.reduceAdd, Nat.reduceSub, Nat.reduceMul, Nat.reduceEqDiff, Int.reduceNeg, Int.reduceAdd, Int.reduceLT, Int.reduceLE, Int.reduceToNat, ↓reduceIte]
        omega
      · simp only [go_sem, leL, Nat.reduceBEq, Nat.reduceBNe, Nat.reduceLT, Nat.reduceLeDiff, Nat.reduceAdd, Nat.reduceSub, Nat.reduceMul, Nat.reduceEqDiff, Int.reduceNeg, Int.reduceAdd, Int.reduceLT, Int.reduceLE, Int.reduceToNat, ↓reduceIte]
    · have e : i = b.length := by omega
      subst e
      have hln := mkL_len (fun i => - atQ b i) b.length
      have htake : List.take b.length ((mkL (fun i => - atQ b i) b.length).map ratCells) = (negL b b.length).map ratCells := List.take_of_length_le (by rw [List.length_map]; omega)
      have nl : (negL b b.length).length = b.length := mkL_len _ _
      have np : (negL b b.length).length ≤ 1000 ∧ ∀ r ∈ negL b b.length, r.sz ≤ 1000 := ⟨by omega, mkL_sz fun i hi => by rw [rs_neg]; exact qb i⟩
      have np1 := np.1
      have np2 := np.2
      have t1 := pc_neg v12_neg a b g1
      have t2 := pc_neg v21_neg a b g1
      have t3 := pc_neg v3_neg a b g1
      have t4 := pc_self (atQ a) a.length
      have ts := pc_sum (atQ a) (atQ b) a.length
      have x1 := pc_bound v1_bd (atQ a) (atQ b) pa.1
      have x2 := pc_bound v2_bd (atQ a) (atQ b) pa.1
      have x3 := pc_bound v3_bd (atQ a) (atQ b) pa.1
      have y1 : (((a.length : Nat) : Int) = b.length) = True := eq_true (by omega)
      have hl1 : (a.length = b.length) = True := eq_true g1
      have hl2 : (a.length = (negL b b.length).length) = True := eq_true (by omega)
      simp only [go_sem, d_law18_much, d_ref2_Neg, d_rank_Pairs, d_law18_known, fz_RankTurns, hw, beq_self_eq_true, eq_self, decide_true, decide_false, Bool.not_true, Bool.not_false, int0, int1, Int.lt_irrefl, Nat.reduceBEq, Nat.reduceBNe, Nat.reduceLT, Nat.reduceLeDiff, Nat.reduceAdd, Nat.reduceSub, Nat.reduceMul, Nat.reduceEqDiff, Int.reduceNeg, Int.reduceAdd, Int.reduceLT, Int.reduceLE, Int.reduceToNat, ↓reduceIte]
      subst hC
      have hdv : (((a.length : Nat) : Int) * (((a.length : Nat) : Int) - 1)).tdiv 2 = pc v1 (atQ a) (atQ b) a.length + pc v2 (atQ a) (atQ b) a.length + pc v3 (atQ a) (atQ b) a.length := by rw [← ts]; exact Int.mul_tdiv_cancel _ (by omega)
      refine cut_seq fun C hC => ?_
      simp only [go_sem, d_law18_much, d_ref2_Neg, d_rank_Pairs, d_law18_known, fz_RankTurns, hw, beq_self_eq_true, eq_self, decide_true, decide_false, Bool.not_true, Bool.not_false, int0, int1, Nat.lt_irrefl, htake, nl, np, hl1, hl2, t1, t2, t3, t4, if_true, Nat.reduceBEq, Nat.reduceBNe, Nat.reduceLT, Nat.reduceLeDiff, Nat.reduceAdd, Nat.reduceSub, Nat.reduceMul, Nat.reduceEqDiff, Int.reduceNeg, Int.reduceAdd, Int.reduceLT, Int.reduceLE, Int.reduceToNat, ↓reduceIte]
      try and_intros
      all_goals try (first | assumption | omega | (show okDraw _ _ = true; kernel_rfl) | exact hallb)
      subst hC
      refine cut_seq fun C hC => ?_
      simp only [go_sem, d_law18_much, d_ref2_Neg, d_rank_Pairs, d_law18_known, fz_RankTurns, hw, beq_self_eq_true, eq_self, decide_true, decide_false, Bool.not_true, Bool.not_false, int0, int1, Nat.lt_irrefl, htake, nl, np, hl1, hl2, t1, t2, t3, t4, if_true, Nat.reduceBEq, Nat.reduceBNe, Nat.reduceLT, Nat.reduceLeDiff, Nat.reduceAdd, Nat.reduceSub, Nat.reduceMul, Nat.reduceEqDiff, Int.reduceNeg, Int.reduceAdd, Int.reduceLT, Int.reduceLE, Int.reduceToNat, ↓reduceIte]
      try and_intros
      all_goals try (first | assumption | omega | (show okDraw _ _ = true; kernel_rfl) | exact hallb)
      subst hC
      refine cut_seq fun C hC => ?_
      simp only [go_sem, d_law18_much, d_ref2_Neg, d_rank_Pairs, d_law18_known, fz_RankTurns, hw, beq_self_eq_true, eq_self, decide_true, decide_false, Bool.not_true, Bool.not_false, int0, int1, Nat.lt_irrefl, htake, nl, np, hl1, hl2, t1, t2, t3, t4, if_true, Nat.reduceBEq, Nat.reduceBNe, Nat.reduceLT, Nat.reduceLeDiff, Nat.reduceAdd, Nat.reduceSub, Nat.reduceMul, Nat.reduceEqDiff, Int.reduceNeg, Int.reduceAdd, Int.reduceLT, Int.reduceLE, Int.reduceToNat, ↓reduceIte]
      try and_intros
      all_goals try (first | assumption | omega | (show okDraw _ _ = true; kernel_rfl) | exact hallb)
      subst hC
      simp only [go_sem, d_law18_much, d_ref2_Neg, d_rank_Pairs, d_law18_known, fz_RankTurns, hw, beq_self_eq_true, eq_self, decide_true, decide_false, Bool.not_true, Bool.not_false, int0, int1, Nat.lt_irrefl, htake, nl, np, hl1, hl2, t1, t2, t3, t4, if_true, hdv, Nat.reduceBEq, Nat.reduceBNe, Nat.reduceLT, Nat.reduceLeDiff, Nat.reduceAdd, Nat.reduceSub, Nat.reduceMul, Nat.reduceEqDiff, Int.reduceNeg, Int.reduceAdd, Int.reduceLT, Int.reduceLE, Int.reduceToNat, ↓reduceIte]
      and_intros
      all_goals first
        | assumption
        | exact hallb
        | omega
        | exact Nat.max_le.2 ⟨by rw [cr_sz]; omega, by rw [cr_sz]; omega⟩
        | (show okDraw _ _ = true; kernel_rfl)

end Go.Proofs.Ytpppgmgdcpaffaa
