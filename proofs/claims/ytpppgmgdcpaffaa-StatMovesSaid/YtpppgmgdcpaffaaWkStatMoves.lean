/- The law StatMoves. Condition: rows shorter than 10^14. -/
import Derived.Test.YtpppgmgdcpaffaaLh
import Derived.Test.YtpppgmgdcpaffaaBj
namespace Go.Proofs.Ytpppgmgdcpaffaa
open Go.RowKit
set_option linter.unusedSimpArgs false
set_option linter.unusedVariables false
/-- the code behind a block is laid aside, before the block's loop begins -/
theorem cut_bs {E : Env} {Q : AEx → AS → Prop} {k : List It} {s : AS} {id : Nat} {c c2 : Code} (h : ∀ C, C = c2 → codeK E Q (.block id :: .seq C :: k) c s) : codeK E Q (.block id :: .seq c2 :: k) c s := h c2 rfl
def fz_StatMoves : Nat → List Nat
  | 16 => [1007]
  | _ => []
def d_law17_StatMoves : Den := den3 aRats aRat aRat (fun l x y => (l.length ≤ 100000000000000 ∧ ∀ r ∈ l, r.sz ≤ 100000000000000) ∧ x.sz ≤ 100000000000000 ∧ y.sz ≤ 100000000000000) fun l x y => boolV true
set_option maxRecDepth 100000 in
set_option maxHeartbeats 8000000 in
theorem s_law17_StatMoves : Sound Try.prog 18 d_law17_StatMoves := by
  refine sound3 (fz := fz_StatMoves) (l := [(43, d_law17_much), (30, d_ref2_Mul), (28, d_ref2_Add), (44, d_stat_Mean), (63, d_stat_Variance), (68, d_stat_Median), (34, d_ref2_Same), (46, d_law17_known)]) TT_ok ⟨s_law17_much, s_ref2_Mul, s_ref2_Add, s_stat_Mean, s_stat_Variance, s_stat_Median, s_ref2_Same, s_law17_known, trivial⟩ mixed Try.func18 Try.ntmps18 Try.results18 Try.call18 rfl (by omega) (fun _ _ _ => rfl) ?_
  intro l x y hp hl hx hy
  rw [codeK_start]
  have zl := hp.1
  have zx := hp.2.1
  have zy := hp.2.2
  have z2 : ([x, y] : List RR).length ≤ 100000000000000 ∧ ∀ r ∈ [x, y], r.sz ≤ 100000000000000 := ⟨by simp, all2 zx zy⟩
  have hallb : ∀ r ∈ [l, [x, y]], r.length ≤ 100000000000000 ∧ ∀ x ∈ r, x.sz ≤ 100000000000000 := by
    intro r hr
    simp only [List.mem_cons, List.not_mem_nil, or_false] at hr
    rcases hr with rfl | rfl <;> assumption
  by_cases hw : [l, [x, y]].any muchL = true
  · skip
    simp only [go_sem, d_law17_much, d_ref2_Mul, d_ref2_Add, d_stat_Mean, d_stat_Variance, d_stat_Median, d_ref2_Same, d_law17_known, goK_frz0, goK0_eq, fz_StatMoves, hw, Nat.reduceBEq, Nat.reduceBNe, Nat.reduceLT, Nat.reduceLeDiff, Nat.reduceAdd, Nat.reduceSub, Nat.reduceMul, Nat.reduceEqDiff, Int.reduceNeg, Int.reduceAdd, Int.reduceLT, Int.reduceLE, Int.reduceToNat, ↓reduceIte]
    first | exact hallb | (and_intros <;> first | exact hallb | assumption | trivial | (show okDraw _ _ = true; kernel_rfl))
  rw [Bool.not_eq_true] at hw
  obtain ⟨ul, vl⟩ := much_facts (any_false hw l (by simp))
  obtain ⟨_, v2⟩ := much_facts (any_false hw [x, y] (by simp))
  have sx : x.sz ≤ 1 := v2 x (by simp)
  have sy : y.sz ≤ 1 := v2 y (by simp)
  have rx : rs x.q ≤ 1 := rs_ok hx sx (by omega)
  have ry : rs y.q ≤ 1 := rs_ok hy sy (by omega)
  have pl : l.length ≤ 1000 ∧ ∀ r ∈ l, r.sz ≤ 1000 := ⟨by omega, fun r hr => Nat.le_trans (vl r hr) (by omega)⟩
  have pl1 := pl.1
  have pl2 := pl.2
  have ql := rs_atQ hl vl (by omega)
  have t0 : rs (0 : Rat) ≤ 1 := rs0 (by omega)
  by_cases h2 : ((l.length : Nat) : Int) < 2
  · skip
    simp only [go_sem, d_law17_much, d_ref2_Mul, d_ref2_Add, d_stat_Mean, d_stat_Variance, d_stat_Median, d_ref2_Same, d_law17_known, goK_frz0, goK0_eq, fz_StatMoves, hw, beq_self_eq_true, eq_self, decide_true, decide_false, Bool.not_true, Bool.not_false, int0, int1, h2, Nat.reduceBEq, Nat.reduceBNe, Nat.reduceLT, Nat.reduceLeDiff, Nat.reduceAdd, Nat.reduceSub, Nat.reduceMul, Nat.reduceEqDiff, Int.reduceNeg, Int.reduceAdd, Int.reduceLT, Int.reduceLE, Int.reduceToNat, ↓reduceIte]
    first | exact hallb | (and_intros <;> first | exact hallb | assumption | trivial | (show okDraw _ _ = true; kernel_rfl))
  have h2f : (((l.length : Nat) : Int) < 2) = False := eq_false h2
  have hn : 0 < l.length := by omega
  simp only [go_sem, d_law17_much, d_ref2_Mul, d_ref2_Add, d_stat_Mean, d_stat_Variance, d_stat_Median, d_ref2_Same, d_law17_known, goK_frz0, goK0_eq, fz_StatMoves, hw, beq_self_eq_true, eq_self, decide_true, decide_false, Bool.not_true, Bool.not_false, int0, int1, h2f, Nat.reduceBEq, Nat.reduceBNe, Nat.reduceLT, Nat.reduceLeDiff, Nat.reduceAdd, Nat.reduceSub, Nat.reduceMul, Nat.reduceEqDiff, Int.reduceNeg, Int.reduceAdd, Int.reduceLT, Int.reduceLE, Int.reduceToNat, ↓reduceIte]
  refine ⟨hallb, ?_⟩
  refine cut_bs fun C0 hC0 => ?_
  refine codeK_loop (fun i : { i : Nat // i ≤ l.length } => [(8, 0, .av (intV (i.1 : Nat))), (7, 0, .av (.one (.cel (.rf 1007 i.1)))), (1007, 1, .row (.gen 3 ((mkL (fun i => atQ l i * x.q + y.q) i.1).map ratCells))), (0, 0, .av (ratsV l)), (4, 0, .av (.one (.cel (.ptr 4 0)))), (4, 1, .cv (.bool (x).s)), (4, 2, .cv (.lim none (x).n)), (4, 3, .cv (.lim none (x).d)), (5, 0, .av (.one (.cel (.ptr 5 0)))), (5, 1, .cv (.bool (y).s)), (5, 2, .cv (.lim none (y).n)), (5, 3, .cv (.lim none (y).d))]) (fun i => l.length - i.1) ⟨0, by omega⟩ ?_ ?_
  · refine le_nil 7 1007 (.gen 3 []) (by rfl) (by kernel_rfl) ⟨by omega, trivial⟩ rfl (le_of ?_)
    simp only [go_sem, leL, Nat.reduceBEq, Nat.reduceBNe, Nat.reduceLT, Nat.reduceLeDiff, Nat.reduceAdd, Nat.reduceSub, Nat.reduceMul, Nat.reduceEqDiff, Int.reduceNeg, Int.reduceAdd, Int.reduceLT, Int.reduceLE, Int.reduceToNat, ↓reduceIte, mkL_zero, Int.ofNat_zero, Int.natCast_zero, Int.cast_ofNat_Int]
  · rintro ⟨i, hi0⟩
    have hi0 : i ≤ l.length := hi0
    by_cases hi : i < l.length
    · have hm := pl.2 _ (getD_mem (d := rr0) hi)
      have wi : rs (l.getD i rr0).q ≤ 1 := ql i
      have w2 : rs ((l.getD i rr0).q * x.q) ≤ 2 := rsb_mul wi rx (by omega)
      have hlm := mkL_len (fun i => atQ l i * x.q + y.q) i
      have hkm := mkL_len (fun i => atQ l i * x.q + y.q) (i + 1)
      have hrm : (mkL (fun i => atQ l i * x.q + y.q) i).map ratCells ++ [[.bool (cr ((l.getD i rr0).q * x.q + y.q)).s, .lim none (cr ((l.getD i rr0).q * x.q + y.q)).n, .lim none (cr ((l.getD i rr0).q * x.q + y.q)).d]] = (mkL (fun i => atQ l i * x.q + y.q) (i + 1)).map ratCells := mkL_cells _ i
      simp only [go_sem, d_law17_much, d_ref2_Mul, d_ref2_Add, d_stat_Mean, d_stat_Variance, d_stat_Median, d_ref2_Same, d_law17_known, goK_frz0, goK0_eq, fz_StatMoves, hw, beq_self_eq_true, eq_self, decide_true, decide_false, Bool.not_true, Bool.not_false, int0, int1, getD_rats hi, getD_ratsI hi, Int.ofNat_lt, hi, Nat.reduceBEq, Nat.reduceBNe, Nat.reduceLT, Nat.reduceLeDiff, Nat.reduceAdd, Nat.reduceSub, Nat.reduceMul, Nat.reduceEqDiff, Int.reduceNeg, Int.reduceAdd, Int.reduceLT, Int.reduceLE, Int.reduceToNat, ↓reduceIte]
      and_intros
      all_goals try (first | assumption | omega | exact hlm.symm | (show okDraw _ _ = true; kernel_rfl))
      refine ⟨⟨i + 1, by omega⟩, by show l.length - (i + 1) < l.length - i; omega, Le.trans (b := [(8, 0, .av (intV ((i + 1) : Nat))), (7, 0, .av (.one (.cel (.rf 48 (i + 1))))), (48, 1, .row (.gen 3 ((mkL (fun i => atQ l i * x.q + y.q) (i + 1)).map ratCells))), (0, 0, .av (ratsV l)), (4, 0, .av (.one (.cel (.ptr 4 0)))), (4, 1, .cv (.bool (x).s)), (4, 2, .cv (.lim none (x).n)), (4, 3, .cv (.lim none (x).d)), (5, 0, .av (.one (.cel (.ptr 5 0)))), (5, 1, .cv (.bool (y).s)), (5, 2, .cv (.lim none (y).n)), (5, 3, .cv (.lim none (y).d))]) (le_of ?_) (le_ren 48 1007 (c := .gen 3 ((mkL (fun i => atQ l i * x.q + y.q) (i + 1)).map ratCells)) (by rfl) (by kernel_rfl) (le_of ?_))⟩
      · simp only [go_sem, leL, hrm, hkm, Nat.reduceBEq, Nat.reduceBNe, Nat.reduceLT, Nat.reduceLeDiff, Nat.reduceAdd, Nat.reduceSub, Nat.reduceMul, Nat.reduceEqDiff, Int.reduceNeg, Int.reduceAdd, Int.reduceLT, Int.reduceLE, Int.reduceToNat, ↓reduceIte]
        omega
      · simp only [go_sem, leL, Nat.reduceBEq, Nat.reduceBNe, Nat.reduceLT, Nat.reduceLeDiff, Nat.reduceAdd, Nat.reduceSub, Nat.reduceMul, Nat.reduceEqDiff, Int.reduceNeg, Int.reduceAdd, Int.reduceLT, Int.reduceLE, Int.reduceToNat, ↓reduceIte]
    · have e : i = l.length := by omega
      subst e
      have hlm := mkL_len (fun i => atQ l i * x.q + y.q) l.length
      have htm : List.take l.length ((mkL (fun i => atQ l i * x.q + y.q) l.length).map ratCells) = (movL l x.q y.q l.length).map ratCells := List.take_of_length_le (by rw [List.length_map]; omega)
      have nlm : (movL l x.q y.q l.length).length = l.length := mkL_len _ _
      have zm : ∀ r ∈ (movL l x.q y.q l.length), r.sz ≤ 1000 := mkL_sz fun i hi => Nat.le_trans (rsb_add (rsb_mul (ql i) rx (Nat.le_refl _)) ry (Nat.le_refl _)) (by omega)
      have pm : (movL l x.q y.q l.length).length ≤ 1000 ∧ ∀ r ∈ (movL l x.q y.q l.length), r.sz ≤ 1000 := ⟨by omega, zm⟩
      have pm1 := pm.1
      have pl3 : l.length < 20 := by omega
      have pm3 : (movL l x.q y.q l.length).length < 20 := by omega
      have ol := offs_bound hl pl
      have om := offs_bound (mkL_ok _ _ : ∀ r ∈ (movL l x.q y.q l.length), r.ok) pm
      have ml := rs_meanQ ql pl.1
      have c1 := rs_covQ ol ol pl.1
      have qq := quant_size (q := halfQ) (l := l) (fun i => Nat.le_trans (ql i) (by omega)) rs_half hn (by omega)
      have em := mean_mov (a := x.q) (b := y.q) hn
      have ec := cov_mov (a := x.q) (b := y.q) hn
      have ed := med_mov (a := x.q) (b := y.q) hn
      have hh0 : ¬ halfQ < 0 := by decide +kernel
      have hh1 : ¬ 1 < halfQ := by decide +kernel
      have x1 := errD_ok (l := l) hn
      have x2 := errD_ok (l := (movL l x.q y.q l.length)) (by omega)
      have x3 := errC_ok (l := l) (by omega)
      have x4 := errC_ok (l := (movL l x.q y.q l.length)) (by omega)
      have x5 := errQ_ok (l := l) hh0 hh1 hn
      have x6 := errQ_ok (l := (movL l x.q y.q l.length)) hh0 hh1 (by omega)
      have y1 := rsb_mul ml rx (Nat.le_refl _)
      have y2 := rsb_add y1 ry (Nat.le_refl _)
      have y3 := rsb_mul rx rx (Nat.le_refl _)
      have y4 := rsb_mul c1 y3 (Nat.le_refl _)
      have y5 := rsb_mul qq rx (Nat.le_refl _)
      have y6 := rsb_add y5 ry (Nat.le_refl _)
      simp only [go_sem, d_law17_much, d_ref2_Mul, d_ref2_Add, d_stat_Mean, d_stat_Variance, d_stat_Median, d_ref2_Same, d_law17_known, goK_frz0, goK0_eq, fz_StatMoves, hw, beq_self_eq_true, eq_self, decide_true, decide_false, Bool.not_true, Bool.not_false, int0, int1, htm, nlm, em, ec, ed, x1, x2, x3, x4, x5, x6, Int.add_zero, Int.lt_irrefl, Nat.reduceBEq, Nat.reduceBNe, Nat.reduceLT, Nat.reduceLeDiff, Nat.reduceAdd, Nat.reduceSub, Nat.reduceMul, Nat.reduceEqDiff, Int.reduceNeg, Int.reduceAdd, Int.reduceLT, Int.reduceLE, Int.reduceToNat, ↓reduceIte]
      subst hC0
      refine cut_seq fun C hC => ?_
      simp only [go_sem, d_law17_much, d_ref2_Mul, d_ref2_Add, d_stat_Mean, d_stat_Variance, d_stat_Median, d_ref2_Same, d_law17_known, goK_frz0, goK0_eq, fz_StatMoves, hw, beq_self_eq_true, eq_self, decide_true, decide_false, Bool.not_true, Bool.not_false, int0, int1, htm, nlm, em, ec, ed, x1, x2, x3, x4, x5, x6, Int.add_zero, Int.lt_irrefl, Nat.reduceBEq, Nat.reduceBNe, Nat.reduceLT, Nat.reduceLeDiff, Nat.reduceAdd, Nat.reduceSub, Nat.reduceMul, Nat.reduceEqDiff, Int.reduceNeg, Int.reduceAdd, Int.reduceLT, Int.reduceLE, Int.reduceToNat, ↓reduceIte]
      try and_intros
      all_goals try (first | omega | (show okDraw _ _ = true; kernel_rfl) | exact hallb | assumption)
      subst hC
      refine cut_seq fun C hC => ?_
      simp only [go_sem, d_law17_much, d_ref2_Mul, d_ref2_Add, d_stat_Mean, d_stat_Variance, d_stat_Median, d_ref2_Same, d_law17_known, goK_frz0, goK0_eq, fz_StatMoves, hw, beq_self_eq_true, eq_self, decide_true, decide_false, Bool.not_true, Bool.not_false, int0, int1, htm, nlm, em, ec, ed, x1, x2, x3, x4, x5, x6, Int.add_zero, Int.lt_irrefl, Nat.reduceBEq, Nat.reduceBNe, Nat.reduceLT, Nat.reduceLeDiff, Nat.reduceAdd, Nat.reduceSub, Nat.reduceMul, Nat.reduceEqDiff, Int.reduceNeg, Int.reduceAdd, Int.reduceLT, Int.reduceLE, Int.reduceToNat, ↓reduceIte]
      try and_intros
      all_goals try (first | omega | (show okDraw _ _ = true; kernel_rfl) | exact hallb | assumption)
      subst hC
      refine cut_seq fun C hC => ?_
      simp only [go_sem, d_law17_much, d_ref2_Mul, d_ref2_Add, d_stat_Mean, d_stat_Variance, d_stat_Median, d_ref2_Same, d_law17_known, goK_frz0, goK0_eq, fz_StatMoves, hw, beq_self_eq_true, eq_self, decide_true, decide_false, Bool.not_true, Bool.not_false, int0, int1, htm, nlm, em, ec, ed, x1, x2, x3, x4, x5, x6, Int.add_zero, Int.lt_irrefl, Nat.reduceBEq, Nat.reduceBNe, Nat.reduceLT, Nat.reduceLeDiff, Nat.reduceAdd, Nat.reduceSub, Nat.reduceMul, Nat.reduceEqDiff, Int.reduceNeg, Int.reduceAdd, Int.reduceLT, Int.reduceLE, Int.reduceToNat, ↓reduceIte]
      try and_intros
      all_goals try (first | omega | (show okDraw _ _ = true; kernel_rfl) | exact hallb | assumption)
      subst hC
      refine cut_seq fun C hC => ?_
      simp only [go_sem, d_law17_much, d_ref2_Mul, d_ref2_Add, d_stat_Mean, d_stat_Variance, d_stat_Median, d_ref2_Same, d_law17_known, goK_frz0, goK0_eq, fz_StatMoves, hw, beq_self_eq_true, eq_self, decide_true, decide_false, Bool.not_true, Bool.not_false, int0, int1, htm, nlm, em, ec, ed, x1, x2, x3, x4, x5, x6, Int.add_zero, Int.lt_irrefl, Nat.reduceBEq, Nat.reduceBNe, Nat.reduceLT, Nat.reduceLeDiff, Nat.reduceAdd, Nat.reduceSub, Nat.reduceMul, Nat.reduceEqDiff, Int.reduceNeg, Int.reduceAdd, Int.reduceLT, Int.reduceLE, Int.reduceToNat, ↓reduceIte]
      try and_intros
      all_goals try (first | omega | (show okDraw _ _ = true; kernel_rfl) | exact hallb | assumption)
      subst hC
      refine cut_seq fun C hC => ?_
      simp only [go_sem, d_law17_much, d_ref2_Mul, d_ref2_Add, d_stat_Mean, d_stat_Variance, d_stat_Median, d_ref2_Same, d_law17_known, goK_frz0, goK0_eq, fz_StatMoves, hw, beq_self_eq_true, eq_self, decide_true, decide_false, Bool.not_true, Bool.not_false, int0, int1, htm, nlm, em, ec, ed, x1, x2, x3, x4, x5, x6, Int.add_zero, Int.lt_irrefl, Nat.reduceBEq, Nat.reduceBNe, Nat.reduceLT, Nat.reduceLeDiff, Nat.reduceAdd, Nat.reduceSub, Nat.reduceMul, Nat.reduceEqDiff, Int.reduceNeg, Int.reduceAdd, Int.reduceLT, Int.reduceLE, Int.reduceToNat, ↓reduceIte]
      try and_intros
      all_goals try (first | omega | (show okDraw _ _ = true; kernel_rfl) | exact hallb | assumption)
      subst hC
      refine cut_seq fun C hC => ?_
      simp only [go_sem, d_law17_much, d_ref2_Mul, d_ref2_Add, d_stat_Mean, d_stat_Variance, d_stat_Median, d_ref2_Same, d_law17_known, goK_frz0, goK0_eq, fz_StatMoves, hw, beq_self_eq_true, eq_self, decide_true, decide_false, Bool.not_true, Bool.not_false, int0, int1, htm, nlm, em, ec, ed, x1, x2, x3, x4, x5, x6, Int.add_zero, Int.lt_irrefl, Nat.reduceBEq, Nat.reduceBNe, Nat.reduceLT, Nat.reduceLeDiff, Nat.reduceAdd, Nat.reduceSub, Nat.reduceMul, Nat.reduceEqDiff, Int.reduceNeg, Int.reduceAdd, Int.reduceLT, Int.reduceLE, Int.reduceToNat, ↓reduceIte]
      try and_intros
      all_goals try (first | omega | (show okDraw _ _ = true; kernel_rfl) | exact hallb | assumption)
      subst hC
      simp only [go_sem, d_law17_much, d_ref2_Mul, d_ref2_Add, d_stat_Mean, d_stat_Variance, d_stat_Median, d_ref2_Same, d_law17_known, goK_frz0, goK0_eq, fz_StatMoves, hw, beq_self_eq_true, eq_self, decide_true, decide_false, Bool.not_true, Bool.not_false, int0, int1, htm, nlm, em, ec, ed, x1, x2, x3, x4, x5, x6, Int.add_zero, Int.lt_irrefl, Nat.reduceBEq, Nat.reduceBNe, Nat.reduceLT, Nat.reduceLeDiff, Nat.reduceAdd, Nat.reduceSub, Nat.reduceMul, Nat.reduceEqDiff, Int.reduceNeg, Int.reduceAdd, Int.reduceLT, Int.reduceLE, Int.reduceToNat, ↓reduceIte]
      and_intros
      all_goals first
        | assumption
        | exact hallb
        | omega
        | exact Nat.max_le.2 ⟨by rw [cr_sz]; omega, by rw [cr_sz]; omega⟩
        | (show okDraw _ _ = true; kernel_rfl)

end Go.Proofs.Ytpppgmgdcpaffaa
