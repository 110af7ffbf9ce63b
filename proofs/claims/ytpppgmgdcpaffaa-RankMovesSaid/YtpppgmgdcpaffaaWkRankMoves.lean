/- The law RankMoves. Condition: rows shorter than 10^14. -/
import Derived.Test.YtpppgmgdcpaffaaDe
import Derived.Test.YtpppgmgdcpaffaaBj
namespace Go.Proofs.Ytpppgmgdcpaffaa
open Go.RowKit
set_option linter.unusedSimpArgs false
set_option linter.unusedVariables false
/-- the code behind a block is laid aside, before the block's loop begins -/
theorem cut_bs {E : Env} {Q : AEx → AS → Prop} {k : List It} {s : AS} {id : Nat} {c c2 : Code} (h : ∀ C, C = c2 → codeK E Q (.block id :: .seq C :: k) c s) : codeK E Q (.block id :: .seq c2 :: k) c s := h c2 rfl
/-- a region, behind what is given up before it: a name, so that nothing is reckoned under it -/
def goK0 (E : Env) (Q : AEx → AS → Prop) (k : List It) (ops : Array Oper) (draw : Bool) (s : AS) : Prop := goK E Q k ops draw s []
theorem goK0_eq {E : Env} {Q : AEx → AS → Prop} {k : List It} {ops : Array Oper} {draw : Bool} {s : AS} : goK0 E Q k ops draw s = goK E Q k ops draw s [] := rfl
theorem goK_frz0 {E : Env} {Q : AEx → AS → Prop} {k : List It} {ops : Array Oper} {draw : Bool} {s : AS} {id : Nat} {l : List Nat} : goK E Q k ops draw s (id :: l) = frzM id l s (goK0 E Q k ops draw) (s.get id 1) := goK_frz
def fz_RankMoves : Nat → List Nat
  | 24 => [1007, 1008, 1009]
  | _ => []
def d_law18_RankMoves : Den := den3 aRats aRat aRat (fun l x y => (l.length ≤ 100000000000000 ∧ ∀ r ∈ l, r.sz ≤ 100000000000000) ∧ x.sz ≤ 100000000000000 ∧ y.sz ≤ 100000000000000) fun l x y => boolV true
set_option maxRecDepth 100000 in
set_option maxHeartbeats 8000000 in
theorem s_law18_RankMoves : Sound Try.prog 6 d_law18_RankMoves := by
  refine sound3 (fz := fz_RankMoves) (l := [(32, d_law18_much), (39, d_ref2_Int), (38, d_ref2_Cmp), (33, d_rank_Ranks), (30, d_ref2_Mul), (28, d_ref2_Add), (40, d_ref2_Neg), (41, d_ref2_Sub), (42, d_ref2_Rats), (37, d_law18_known)]) TT_ok ⟨s_law18_much, s_ref2_Int, s_ref2_Cmp, s_rank_Ranks, s_ref2_Mul, s_ref2_Add, s_ref2_Neg, s_ref2_Sub, s_ref2_Rats, s_law18_known, trivial⟩ mixed Try.func6 Try.ntmps6 Try.results6 Try.call6 rfl (by omega) (fun _ _ _ => rfl) ?_
  intro l x y hp hl hx hy
  rw [codeK_start]
  have zl := hp.1
  have zx := hp.2.1
  have zy := hp.2.2
  have z2 : ([x, y] : List RR).length ≤ 100000000000000 ∧ ∀ r ∈ [x, y], r.sz ≤ 100000000000000 := ⟨by simp, all2 zx zy⟩
  have hallb : ∀ r ∈ [l, [x, y]], r.length ≤ 100000000000000 ∧ ∀ x ∈ r, x.sz ≤ 100000000000000 := by
    intro r hr
    simp only [List.mem_cons, List.not_mem_nil, or_false] at hr
    rcases hr with rfl | rfl <;> assumption
  by_cases hw : [l, [x, y]].any muchL = true
  · skip
    simp only [go_sem, d_law18_much, d_ref2_Int, d_ref2_Cmp, d_rank_Ranks, d_ref2_Mul, d_ref2_Add, d_ref2_Neg, d_ref2_Sub, d_ref2_Rats, d_law18_known, goK_frz0, goK0_eq, fz_RankMoves, hw, Nat.reduceBEq, Nat.reduceBNe, Nat.reduceLT, Nat.reduceLeDiff, Nat.reduceAdd, Nat.reduceSub, Nat.reduceMul, Nat.reduceEqDiff, Int.reduceNeg, Int.reduceAdd, Int.reduceLT, Int.reduceLE, Int.reduceToNat, ↓reduceIte]
    first | exact hallb | (and_intros <;> first | exact hallb | assumption | trivial | (show okDraw _ _ = true; kernel_rfl))
  rw [Bool.not_eq_true] at hw
  obtain ⟨ul, vl⟩ := much_facts (any_false hw l (by simp))
  obtain ⟨_, v2⟩ := much_facts (any_false hw [x, y] (by simp))
  have sx : x.sz ≤ 1 := v2 x (by simp)
  have sy : y.sz ≤ 1 := v2 y (by simp)
  have rx : rs x.q ≤ 1 := rs_ok hx sx (by omega)
  have ry : rs y.q ≤ 1 := rs_ok hy sy (by omega)
  have pl : l.length ≤ 1000 ∧ ∀ r ∈ l, r.sz ≤ 1000 := ⟨by omega, fun r hr => Nat.le_trans (vl r hr) (by omega)⟩
  have pl1 := pl.1
  have pl2 := pl.2
  have ql := rs_atQ hl vl (by omega)
  have rll := ranksL_len l
  have rpl : (ranksL l).length ≤ 1000 ∧ ∀ r ∈ ranksL l, r.sz ≤ 1000 := ⟨by omega, ranksL_sz pl.1⟩
  have rql := rpl.1
  have rzl := rpl.2
  have rtl : ∀ r ∈ ranksL l, r.sz ≤ 10000000 := fun r hr => Nat.le_trans (rzl r hr) (by omega)
  have t0 : rs (0 : Rat) ≤ 1 := rs0 (by omega)
  by_cases g1 : x.q ≤ 0
  · skip
    simp only [go_sem, d_law18_much, d_ref2_Int, d_ref2_Cmp, d_rank_Ranks, d_ref2_Mul, d_ref2_Add, d_ref2_Neg, d_ref2_Sub, d_ref2_Rats, d_law18_known, goK_frz0, goK0_eq, fz_RankMoves, hw, beq_self_eq_true, eq_self, decide_true, decide_false, Bool.not_true, Bool.not_false, int0, int1, g1, Nat.reduceBEq, Nat.reduceBNe, Nat.reduceLT, Nat.reduceLeDiff, Nat.reduceAdd, Nat.reduceSub, Nat.reduceMul, Nat.reduceEqDiff, Int.reduceNeg, Int.reduceAdd, Int.reduceLT, Int.reduceLE, Int.reduceToNat, ↓reduceIte]
    and_intros
    all_goals first
      | assumption
      | exact hallb
      | omega
      | exact Nat.max_le.2 ⟨by rw [cr_sz]; omega, by rw [cr_sz]; omega⟩
      | (show okDraw _ _ = true; kernel_rfl)
  have hpos : 0 < x.q := Rat.not_le.1 g1
  simp only [go_sem, d_law18_much, d_ref2_Int, d_ref2_Cmp, d_rank_Ranks, d_ref2_Mul, d_ref2_Add, d_ref2_Neg, d_ref2_Sub, d_ref2_Rats, d_law18_known, goK_frz0, goK0_eq, fz_RankMoves, hw, beq_self_eq_true, eq_self, decide_true, decide_false, Bool.not_true, Bool.not_false, int0, int1, g1, Nat.reduceBEq, Nat.reduceBNe, Nat.reduceLT, Nat.reduceLeDiff, Nat.reduceAdd, Nat.reduceSub, Nat.reduceMul, Nat.reduceEqDiff, Int.reduceNeg, Int.reduceAdd, Int.reduceLT, Int.reduceLE, Int.reduceToNat, ↓reduceIte]
  refine ⟨hallb, ⟨by omega, by omega⟩, (by show okDraw _ _ = true; kernel_rfl), pl, ?_⟩
  refine cut_bs fun C0 hC0 => ?_
  refine codeK_loop (fun i : { i : Nat // i ≤ l.length } => [(11, 0, .av (intV (i.1 : Nat))), (7, 0, .av (.one (.cel (.rf 1007 i.1)))), (1007, 1, .row (.gen 3 ((mkL (fun i => atQ l i * x.q + y.q) i.1).map ratCells))), (8, 0, .av (.one (.cel (.rf 1008 i.1)))), (1008, 1, .row (.gen 3 ((mkL (fun i => - atQ l i) i.1).map ratCells))), (9, 0, .av (.one (.cel (.rf 1009 i.1)))), (1009, 1, .row (.gen 3 ((mkL (fun i => (((l.length : Int) + 1 : Int) : Rat) - rankQ (atQ l) l.length i) i.1).map ratCells))), (10, 0, .av (ratsV (ranksL l))), (0, 0, .av (ratsV l)), (4, 0, .av (.one (.cel (.ptr 4 0)))), (4, 1, .cv (.bool (x).s)), (4, 2, .cv (.lim none (x).n)), (4, 3, .cv (.lim none (x).d)), (5, 0, .av (.one (.cel (.ptr 5 0)))), (5, 1, .cv (.bool (y).s)), (5, 2, .cv (.lim none (y).n)), (5, 3, .cv (.lim none (y).d))]) (fun i => l.length - i.1) ⟨0, by omega⟩ ?_ ?_
  · refine le_nil 7 1007 (.gen 3 []) (by rfl) (by kernel_rfl) ⟨by omega, trivial⟩ rfl ?_
    refine le_nil 8 1008 (.gen 3 []) (by rfl) (by kernel_rfl) ⟨by omega, trivial⟩ rfl ?_
    refine le_nil 9 1009 (.gen 3 []) (by rfl) (by kernel_rfl) ⟨by omega, trivial⟩ rfl (le_of ?_)
    simp only [go_sem, leL, Nat.reduceBEq, Nat.reduceBNe, Nat.reduceLT, Nat.reduceLeDiff, Nat.reduceAdd, Nat.reduceSub, Nat.reduceMul, Nat.reduceEqDiff, Int.reduceNeg, Int.reduceAdd, Int.reduceLT, Int.reduceLE, Int.reduceToNat, ↓reduceIte, mkL_zero, Int.ofNat_zero, Int.natCast_zero, Int.cast_ofNat_Int]
  · rintro ⟨i, hi0⟩
    have hi0 : i ≤ l.length := hi0
    by_cases hi : i < l.length
    · have hm := pl.2 _ (getD_mem (d := rr0) hi)
      have hir : i < (ranksL l).length := by omega
      have hrk : ((ranksL l).getD i rr0).q = rankQ (atQ l) l.length i := atQ_ranks l hi
      have hmr := rzl _ (getD_mem (d := rr0) hir)
      have wi : rs (l.getD i rr0).q ≤ 1 := ql i
      have w2 : rs ((l.getD i rr0).q * x.q) ≤ 2 := rsb_mul wi rx (by omega)
      have w3 : rs (((l.length : Int) + 1 : Int) : Rat) ≤ 2 := rsb_int (by omega) (by omega) (by omega)
      have hlm := mkL_len (fun i => atQ l i * x.q + y.q) i
      have hkm := mkL_len (fun i => atQ l i * x.q + y.q) (i + 1)
      have hrm : (mkL (fun i => atQ l i * x.q + y.q) i).map ratCells ++ [[.bool (cr ((l.getD i rr0).q * x.q + y.q)).s, .lim none (cr ((l.getD i rr0).q * x.q + y.q)).n, .lim none (cr ((l.getD i rr0).q * x.q + y.q)).d]] = (mkL (fun i => atQ l i * x.q + y.q) (i + 1)).map ratCells := mkL_cells _ i
      have hln := mkL_len (fun i => - atQ l i) i
      have hkn := mkL_len (fun i => - atQ l i) (i + 1)
      have hrn : (mkL (fun i => - atQ l i) i).map ratCells ++ [[.bool (cr (-(l.getD i rr0).q)).s, .lim none (cr (-(l.getD i rr0).q)).n, .lim none (cr (-(l.getD i rr0).q)).d]] = (mkL (fun i => - atQ l i) (i + 1)).map ratCells := mkL_cells _ i
      have hlt := mkL_len (fun i => (((l.length : Int) + 1 : Int) : Rat) - rankQ (atQ l) l.length i) i
      have hkt := mkL_len (fun i => (((l.length : Int) + 1 : Int) : Rat) - rankQ (atQ l) l.length i) (i + 1)
      have hrt : (mkL (fun i => (((l.length : Int) + 1 : Int) : Rat) - rankQ (atQ l) l.length i) i).map ratCells ++ [[.bool (cr ((((l.length : Int) + 1 : Int) : Rat) - rankQ (atQ l) l.length i)).s, .lim none (cr ((((l.length : Int) + 1 : Int) : Rat) - rankQ (atQ l) l.length i)).n, .lim none (cr ((((l.length : Int) + 1 : Int) : Rat) - rankQ (atQ l) l.length i)).d]] = (mkL (fun i => (((l.length : Int) + 1 : Int) : Rat) - rankQ (atQ l) l.length i) (i + 1)).map ratCells := mkL_cells _ i
      refine cut_seq fun C hC => ?_
      simp only [go_sem, d_law18_much, d_ref2_Int, d_ref2_Cmp, d_rank_Ranks, d_ref2_Mul, d_ref2_Add, d_ref2_Neg, d_ref2_Sub, d_ref2_Rats, d_law18_known, goK_frz0, goK0_eq, fz_RankMoves, hw, beq_self_eq_true, eq_self, decide_true, decide_false, Bool.not_true, Bool.not_false, int0, int1, getD_rats hi, getD_ratsI hi, getD_rats hir, getD_ratsI hir, Int.ofNat_lt, hi, hir, hrk, rll, Nat.reduceBEq, Nat.reduceBNe, Nat.reduceLT, Nat.reduceLeDiff, Nat.reduceAdd, Nat.reduceSub, Nat.reduceMul, Nat.reduceEqDiff, Int.reduceNeg, Int.reduceAdd, Int.reduceLT, Int.reduceLE, Int.reduceToNat, ↓reduceIte]
      subst hC
      refine cut_seq fun C hC => ?_
      rw [codeK_seq, codeK_block]
      refine cut_seq fun D hD => ?_
      simp only [go_sem, d_law18_much, d_ref2_Int, d_ref2_Cmp, d_rank_Ranks, d_ref2_Mul, d_ref2_Add, d_ref2_Neg, d_ref2_Sub, d_ref2_Rats, d_law18_known, goK_frz0, goK0_eq, fz_RankMoves, hw, beq_self_eq_true, eq_self, decide_true, decide_false, Bool.not_true, Bool.not_false, int0, int1, getD_rats hi, getD_ratsI hi, getD_rats hir, getD_ratsI hir, Int.ofNat_lt, hi, hir, hrk, rll, Nat.reduceBEq, Nat.reduceBNe, Nat.reduceLT, Nat.reduceLeDiff, Nat.reduceAdd, Nat.reduceSub, Nat.reduceMul, Nat.reduceEqDiff, Int.reduceNeg, Int.reduceAdd, Int.reduceLT, Int.reduceLE, Int.reduceToNat, ↓reduceIte]
      try and_intros
      all_goals try (first | assumption | omega | exact hlm.symm | exact hln.symm | exact hlt.symm | (show okDraw _ _ = true; kernel_rfl))
      subst hD
      refine cut_seq fun D hD => ?_
      simp only [go_sem, d_law18_much, d_ref2_Int, d_ref2_Cmp, d_rank_Ranks, d_ref2_Mul, d_ref2_Add, d_ref2_Neg, d_ref2_Sub, d_ref2_Rats, d_law18_known, goK_frz0, goK0_eq, fz_RankMoves, hw, beq_self_eq_true, eq_self, decide_true, decide_false, Bool.not_true, Bool.not_false, int0, int1, getD_rats hi, getD_ratsI hi, getD_rats hir, getD_ratsI hir, Int.ofNat_lt, hi, hir, hrk, rll, Nat.reduceBEq, Nat.reduceBNe, Nat.reduceLT, Nat.reduceLeDiff, Nat.reduceAdd, Nat.reduceSub, Nat.reduceMul, Nat.reduceEqDiff, Int.reduceNeg, Int.reduceAdd, Int.reduceLT, Int.reduceLE, Int.reduceToNat, ↓reduceIte]
      try and_intros
      all_goals try (first | assumption | omega | exact hlm.symm | exact hln.symm | exact hlt.symm | (show okDraw _ _ = true; kernel_rfl))
      subst hD
      refine cut_seq fun D hD => ?_
      simp only [go_sem, d_law18_much, d_ref2_Int, d_ref2_Cmp, d_rank_Ranks, d_ref2_Mul, d_ref2_Add, d_ref2_Neg, d_ref2_Sub, d_ref2_Rats, d_law18_known, goK_frz0, goK0_eq, fz_RankMoves, hw, beq_self_eq_true, eq_self, decide_true, decide_false, Bool.not_true, Bool.not_false, int0, int1, getD_rats hi, getD_ratsI hi, getD_rats hir, getD_ratsI hir, Int.ofNat_lt, hi, hir, hrk, rll, Nat.reduceBEq, Nat.reduceBNe, Nat.reduceLT, Nat.reduceLeDiff, Nat.reduceAdd, Nat.reduceSub, Nat.reduceMul, Nat.reduceEqDiff, Int.reduceNeg, Int.reduceAdd, Int.reduceLT, Int.reduceLE, Int.reduceToNat, ↓reduceIte]
      try and_intros
      all_goals try (first | assumption | omega | exact hlm.symm | exact hln.symm | exact hlt.symm | (show okDraw _ _ = true; kernel_rfl))
      subst hD
      simp only [go_sem, d_law18_much, d_ref2_Int, d_ref2_Cmp, d_rank_Ranks, d_ref2_Mul, d_ref2_Add, d_ref2_Neg, d_ref2_Sub, d_ref2_Rats, d_law18_known, goK_frz0, goK0_eq, fz_RankMoves, hw, beq_self_eq_true, eq_self, decide_true, decide_false, Bool.not_true, Bool.not_false, int0, int1, getD_rats hi, getD_ratsI hi, getD_rats hir, getD_ratsI hir, Int.ofNat_lt, hi, hir, hrk, rll, Nat.reduceBEq, Nat.reduceBNe, Nat.reduceLT, Nat.reduceLeDiff, Nat.reduceAdd, Nat.reduceSub, Nat.reduceMul, Nat.reduceEqDiff, Int.reduceNeg, Int.reduceAdd, Int.reduceLT, Int.reduceLE, Int.reduceToNat, ↓reduceIte]
      try and_intros
      all_goals try (first | assumption | omega | exact hlm.symm | exact hln.symm | exact hlt.symm | (show okDraw _ _ = true; kernel_rfl))
      subst hC
      simp only [go_sem, d_law18_much, d_ref2_Int, d_ref2_Cmp, d_rank_Ranks, d_ref2_Mul, d_ref2_Add, d_ref2_Neg, d_ref2_Sub, d_ref2_Rats, d_law18_known, goK_frz0, goK0_eq, fz_RankMoves, hw, beq_self_eq_true, eq_self, decide_true, decide_false, Bool.not_true, Bool.not_false, int0, int1, getD_rats hi, getD_ratsI hi, getD_rats hir, getD_ratsI hir, Int.ofNat_lt, hi, hir, hrk, rll, Nat.reduceBEq, Nat.reduceBNe, Nat.reduceLT, Nat.reduceLeDiff, Nat.reduceAdd, Nat.reduceSub, Nat.reduceMul, Nat.reduceEqDiff, Int.reduceNeg, Int.reduceAdd, Int.reduceLT, Int.reduceLE, Int.reduceToNat, ↓reduceIte]
      and_intros
      all_goals try (first | assumption | omega | exact hlm.symm | exact hln.symm | exact hlt.symm | (show okDraw _ _ = true; kernel_rfl))
      refine ⟨⟨i + 1, by omega⟩, by show l.length - (i + 1) < l.length - i; omega, Le.trans (b := [(11, 0, .av (intV ((i + 1) : Nat))), (7, 0, .av (.one (.cel (.rf 42 (i + 1))))), (42, 1, .row (.gen 3 ((mkL (fun i => atQ l i * x.q + y.q) (i + 1)).map ratCells))), (8, 0, .av (.one (.cel (.rf 50 (i + 1))))), (50, 1, .row (.gen 3 ((mkL (fun i => - atQ l i) (i + 1)).map ratCells))), (9, 0, .av (.one (.cel (.rf 66 (i + 1))))), (66, 1, .row (.gen 3 ((mkL (fun i => (((l.length : Int) + 1 : Int) : Rat) - rankQ (atQ l) l.length i) (i + 1)).map ratCells))), (10, 0, .av (ratsV (ranksL l))), (0, 0, .av (ratsV l)), (4, 0, .av (.one (.cel (.ptr 4 0)))), (4, 1, .cv (.bool (x).s)), (4, 2, .cv (.lim none (x).n)), (4, 3, .cv (.lim none (x).d)), (5, 0, .av (.one (.cel (.ptr 5 0)))), (5, 1, .cv (.bool (y).s)), (5, 2, .cv (.lim none (y).n)), (5, 3, .cv (.lim none (y).d))]) (le_of ?_) (Le.trans (b := [(11, 0, .av (intV ((i + 1) : Nat))), (7, 0, .av (.one (.cel (.rf 1007 (i + 1))))), (1007, 1, .row (.gen 3 ((mkL (fun i => atQ l i * x.q + y.q) (i + 1)).map ratCells))), (8, 0, .av (.one (.cel (.rf 50 (i + 1))))), (50, 1, .row (.gen 3 ((mkL (fun i => - atQ l i) (i + 1)).map ratCells))), (9, 0, .av (.one (.cel (.rf 66 (i + 1))))), (66, 1, .row (.gen 3 ((mkL (fun i => (((l.length : Int) + 1 : Int) : Rat) - rankQ (atQ l) l.length i) (i + 1)).map ratCells))), (10, 0, .av (ratsV (ranksL l))), (0, 0, .av (ratsV l)), (4, 0, .av (.one (.cel (.ptr 4 0)))), (4, 1, .cv (.bool (x).s)), (4, 2, .cv (.lim none (x).n)), (4, 3, .cv (.lim none (x).d)), (5, 0, .av (.one (.cel (.ptr 5 0)))), (5, 1, .cv (.bool (y).s)), (5, 2, .cv (.lim none (y).n)), (5, 3, .cv (.lim none (y).d))]) (le_ren 42 1007 (c := .gen 3 ((mkL (fun i => atQ l i * x.q + y.q) (i + 1)).map ratCells)) (by rfl) (by kernel_rfl) (le_of ?_)) (Le.trans (b := [(11, 0, .av (intV ((i + 1) : Nat))), (7, 0, .av (.one (.cel (.rf 1007 (i + 1))))), (1007, 1, .row (.gen 3 ((mkL (fun i => atQ l i * x.q + y.q) (i + 1)).map ratCells))), (8, 0, .av (.one (.cel (.rf 1008 (i + 1))))), (1008, 1, .row (.gen 3 ((mkL (fun i => - atQ l i) (i + 1)).map ratCells))), (9, 0, .av (.one (.cel (.rf 66 (i + 1))))), (66, 1, .row (.gen 3 ((mkL (fun i => (((l.length : Int) + 1 : Int) : Rat) - rankQ (atQ l) l.length i) (i + 1)).map ratCells))), (10, 0, .av (ratsV (ranksL l))), (0, 0, .av (ratsV l)), (4, 0, .av (.one (.cel (.ptr 4 0)))), (4, 1, .cv (.bool (x).s)), (4, 2, .cv (.lim none (x).n)), (4, 3, .cv (.lim none (x).d)), (5, 0, .av (.one (.cel (.ptr 5 0)))), (5, 1, .cv (.bool (y).s)), (5, 2, .cv (.lim none (y).n)), (5, 3, .cv (.lim none (y).d))]) (le_ren 50 1008 (c := .gen 3 ((mkL (fun i => - atQ l i) (i + 1)).map ratCells)) (by rfl) (by kernel_rfl) (le_of ?_)) (le_ren 66 1009 (c := .gen 3 ((mkL (fun i => (((l.length : Int) + 1 : Int) : Rat) - rankQ (atQ l) l.length i) (i + 1)).map ratCells)) (by rfl) (by kernel_rfl) (le_of ?_))))⟩
      · simp only [go_sem, leL, hrm, hkm, hrn, hkn, hrt, hkt, Nat.reduceBEq, Nat.reduceBNe, Nat.reduceLT, Nat.reduceLeDiff, Nat.reduceAdd, Nat.reduceSub, Nat.reduceMul, Nat.reduceEqDiff, Int.reduceNeg, Int.reduceAdd, Int.reduceLT, Int.reduceLE, Int.reduceToNat, ↓reduceIte]
        omega
      · simp only [go_sem, leL, Nat.reduceBEq, Nat.reduceBNe, Nat.reduceLT, Nat.reduceLeDiff, Nat.reduceAdd, Nat.reduceSub, Nat.reduceMul, Nat.reduceEqDiff, Int.reduceNeg, Int.reduceAdd, Int.reduceLT, Int.reduceLE, Int.reduceToNat, ↓reduceIte]
      · simp only [go_sem, leL, Nat.reduceBEq, Nat.reduceBNe, Nat.reduceLT, Nat.reduceLeDiff, Nat.reduceAdd, Nat.reduceSub, Nat.reduceMul, Nat.reduceEqDiff, Int.reduceNeg, Int.reduceAdd, Int.reduceLT, Int.reduceLE, Int.reduceToNat, ↓reduceIte]
      · simp only [go_sem, leL, Nat.reduceBEq, Nat.reduceBNe, Nat.reduceLT, Nat.reduceLeDiff, Nat.reduceAdd, Nat.reduceSub, Nat.reduceMul, Nat.reduceEqDiff, Int.reduceNeg, Int.reduceAdd, Int.reduceLT, Int.reduceLE, Int.reduceToNat, ↓reduceIte]
    · have e : i = l.length := by omega
      subst e
      have hlm := mkL_len (fun i => atQ l i * x.q + y.q) l.length
      have htm : List.take l.length ((mkL (fun i => atQ l i * x.q + y.q) l.length).map ratCells) = (moveL l x.q y.q l.length).map ratCells := List.take_of_length_le (by rw [List.length_map]; omega)
      have nlm : (moveL l x.q y.q l.length).length = l.length := mkL_len _ _
      have hln := mkL_len (fun i => - atQ l i) l.length
      have htn : List.take l.length ((mkL (fun i => - atQ l i) l.length).map ratCells) = (negL l l.length).map ratCells := List.take_of_length_le (by rw [List.length_map]; omega)
      have nln : (negL l l.length).length = l.length := mkL_len _ _
      have hlt := mkL_len (fun i => (((l.length : Int) + 1 : Int) : Rat) - rankQ (atQ l) l.length i) l.length
      have htt : List.take l.length ((mkL (fun i => (((l.length : Int) + 1 : Int) : Rat) - rankQ (atQ l) l.length i) l.length).map ratCells) = (turnL l l.length).map ratCells := List.take_of_length_le (by rw [List.length_map]; omega)
      have nlt : (turnL l l.length).length = l.length := mkL_len _ _
      have zm : ∀ r ∈ moveL l x.q y.q l.length, r.sz ≤ 1000 := mkL_sz fun i hi => Nat.le_trans (rsb_add (rsb_mul (ql i) rx (Nat.le_refl _)) ry (Nat.le_refl _)) (by omega)
      have zn : ∀ r ∈ negL l l.length, r.sz ≤ 1000 := mkL_sz fun i hi => by rw [rs_neg]; exact Nat.le_trans (ql i) (by omega)
      have zt : ∀ r ∈ turnL l l.length, r.sz ≤ 10000000 := mkL_sz fun i hi => Nat.le_trans (rsb_sub (rsb_int (K := 2) (by omega) (by omega) (by omega)) (rs_rank (atQ l) pl.1 i) (Nat.le_refl _)) (by omega)
      have em := ranks_move (l := l) (b := y.q) hpos
      have en := ranks_neg l
      have s1 := sameL_self (ranksL l)
      have s2 := sameL_self (turnL l l.length)
      simp only [go_sem, d_law18_much, d_ref2_Int, d_ref2_Cmp, d_rank_Ranks, d_ref2_Mul, d_ref2_Add, d_ref2_Neg, d_ref2_Sub, d_ref2_Rats, d_law18_known, goK_frz0, goK0_eq, fz_RankMoves, hw, beq_self_eq_true, eq_self, decide_true, decide_false, Bool.not_true, Bool.not_false, int0, int1, Int.lt_irrefl, Nat.reduceBEq, Nat.reduceBNe, Nat.reduceLT, Nat.reduceLeDiff, Nat.reduceAdd, Nat.reduceSub, Nat.reduceMul, Nat.reduceEqDiff, Int.reduceNeg, Int.reduceAdd, Int.reduceLT, Int.reduceLE, Int.reduceToNat, ↓reduceIte]
      subst hC0
      refine cut_seq fun C hC => ?_
      simp only [go_sem, d_law18_much, d_ref2_Int, d_ref2_Cmp, d_rank_Ranks, d_ref2_Mul, d_ref2_Add, d_ref2_Neg, d_ref2_Sub, d_ref2_Rats, d_law18_known, goK_frz0, goK0_eq, fz_RankMoves, hw, beq_self_eq_true, eq_self, decide_true, decide_false, Bool.not_true, Bool.not_false, int0, int1, rll, htm, htn, htt, nlm, nln, nlt, em, en, s1, s2, Nat.reduceBEq, Nat.reduceBNe, Nat.reduceLT, Nat.reduceLeDiff, Nat.reduceAdd, Nat.reduceSub, Nat.reduceMul, Nat.reduceEqDiff, Int.reduceNeg, Int.reduceAdd, Int.reduceLT, Int.reduceLE, Int.reduceToNat, ↓reduceIte]
      try and_intros
      all_goals try (first | omega | (show okDraw _ _ = true; kernel_rfl) | exact hallb | assumption)
      subst hC
      simp only [go_sem, d_law18_much, d_ref2_Int, d_ref2_Cmp, d_rank_Ranks, d_ref2_Mul, d_ref2_Add, d_ref2_Neg, d_ref2_Sub, d_ref2_Rats, d_law18_known, goK_frz0, goK0_eq, fz_RankMoves, hw, beq_self_eq_true, eq_self, decide_true, decide_false, Bool.not_true, Bool.not_false, int0, int1, Nat.reduceBEq, Nat.reduceBNe, Nat.reduceLT, Nat.reduceLeDiff, Nat.reduceAdd, Nat.reduceSub, Nat.reduceMul, Nat.reduceEqDiff, Int.reduceNeg, Int.reduceAdd, Int.reduceLT, Int.reduceLE, Int.reduceToNat, ↓reduceIte]
      and_intros
      all_goals first
        | assumption
        | exact hallb
        | omega
        | exact Nat.max_le.2 ⟨by rw [cr_sz]; omega, by rw [cr_sz]; omega⟩
        | (show okDraw _ _ = true; kernel_rfl)

end Go.Proofs.Ytpppgmgdcpaffaa
