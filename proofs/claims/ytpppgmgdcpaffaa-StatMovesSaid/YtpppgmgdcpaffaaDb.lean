/- rank: by, Ranks, Pairs, Kendall, Spearman, by the abstract walk. Conditions: rows of at most 1000 numbers of at most 1000 limbs. -/
import Derived.Test.YtpppgmgdcpaffaaDa
import Derived.Test.YtpppgmgdcpaffaaCd
namespace Go.Proofs.Ytpppgmgdcpaffaa
open Go.RowKit
set_option linter.unusedSimpArgs false
set_option linter.unusedVariables false

theorem tw_lt {f : Nat → Rat} {x : Rat} {n : Nat} (h : f n < x) : tw f x (n + 1) = tw f x n + 2 := by
  rw [tw_next]; unfold cw; rw [if_pos (by rw [cmpQ_lt0]; exact h)]
theorem tw_eq {f : Nat → Rat} {x : Rat} {n : Nat} (h1 : ¬ f n < x) (h : f n = x) : tw f x (n + 1) = tw f x n + 1 := by
  rw [tw_next]; unfold cw; rw [if_neg (by rw [cmpQ_lt0]; exact h1), if_pos (by rw [cmpQ_eq0]; exact h)]
theorem tw_gt {f : Nat → Rat} {x : Rat} {n : Nat} (h1 : ¬ f n < x) (h : ¬ f n = x) : tw f x (n + 1) = tw f x n := by
  rw [tw_next]; unfold cw; rw [if_neg (by rw [cmpQ_lt0]; exact h1), if_neg (by rw [cmpQ_eq0]; exact h), Int.add_zero]
def ranksL (l : List RR) : List RR := mkL (rankQ (atQ l) l.length) l.length
def intsV3 (x y z e : Int) : AV := .tup [.cel (.int .i64 x), .cel (.int .i64 y), .cel (.int .i64 z), .cel (.int .i64 e)]
attribute [go_sem] intsV3

def d_rank_by : Den := den2 aRat aRat (fun a b => a.sz ≤ 10000000000 ∧ b.sz ≤ 10000000000) fun a b => ratV (cr (a.q / b.q))
set_option maxRecDepth 100000 in
set_option maxHeartbeats 1000000 in
theorem s_rank_by : Sound Try.prog 88 d_rank_by := by
  refine sound2 (fz := nofz) (l := [(24, d_rat_Div)]) TT_ok ⟨s_rat_Div, trivial⟩ mixed Try.func88 Try.ntmps88 Try.results88 Try.call88 rfl (by omega) (fun _ _ => rfl) ?_
  intro a b hp ha hb
  rw [codeK_start]
  simp only [go_sem, d_rat_Div, Nat.reduceBEq, Nat.reduceBNe, Nat.reduceLT, Nat.reduceLeDiff, Nat.reduceAdd, Nat.reduceSub, Nat.reduceMul, Nat.reduceEqDiff, Int.reduceNeg, Int.reduceAdd, Int.reduceLT, Int.reduceLE, Int.reduceToNat, ↓reduceIte]
  ((try and_intros) <;> first | exact trivial | omega | (show okDraw _ _ = true; kernel_rfl))

def fz_rank_Ranks : Nat → List Nat
  | 34 => [1003]
  | _ => []

def d_rank_Ranks : Den := den1 aRats (fun a => a.length ≤ 1000 ∧ ∀ r ∈ a, r.sz ≤ 1000) fun a => ratsV (ranksL a)
set_option maxRecDepth 100000 in
set_option maxHeartbeats 1000000 in
theorem s_rank_Ranks : Sound Try.prog 33 d_rank_Ranks := by
  refine sound1 (fz := fz_rank_Ranks) (l := [(87, d_rat_Cmp), (74, d_rat_Int), (88, d_rank_by)]) TT_ok ⟨s_rat_Cmp, s_rat_Int, s_rank_by, trivial⟩ mixed Try.func33 Try.ntmps33 Try.results33 Try.call33 rfl (by omega) (fun _ => rfl) ?_
  intro a hp ha
  rw [codeK_start]
  simp only [go_sem, d_rat_Cmp, d_rat_Int, d_rank_by, int0, fz_rank_Ranks, Nat.reduceBEq, Nat.reduceBNe, Nat.reduceLT, Nat.reduceLeDiff, Nat.reduceAdd, Nat.reduceSub, Nat.reduceMul, Nat.reduceEqDiff, Int.reduceNeg, Int.reduceAdd, Int.reduceLT, Int.reduceLE, Int.reduceToNat, ↓reduceIte]
  unfold ranksL
  refine codeK_loop (fun i : { i : Nat // i ≤ a.length } => [(12, 0, .av (intV ((i.1 : Nat)))), (11, 0, .av (intV ((a.length : Nat)))), (10, 0, .av (ratsV a)), (0, 0, .av (ratsV a)), (3, 0, .av (.one (.cel (.rf 1003 i.1)))), (1003, 1, .row (.gen 3 ((mkL (rankQ (atQ a) a.length) i.1).map ratCells)))]) (fun i => a.length - i.1) ⟨0, by omega⟩ ?_ ?_
  · refine le_nil 3 1003 (.gen 3 []) (by rfl) (by kernel_rfl) ⟨by omega, trivial⟩ rfl (le_of ?_)
    simp only [go_sem, leL, Nat.reduceBEq, Nat.reduceBNe, Nat.reduceLT, Nat.reduceLeDiff, Nat.reduceAdd, Nat.reduceSub, Nat.reduceMul, Nat.reduceEqDiff, Int.reduceNeg, Int.reduceAdd, Int.reduceLT, Int.reduceLE, Int.reduceToNat, ↓reduceIte, mkL_zero, Int.ofNat_zero, Int.natCast_zero, Int.cast_ofNat_Int]
  · rintro ⟨i, hi0⟩
    have hi0 : i ≤ a.length := hi0
    by_cases hi : i < a.length
    · have hm := hp.2 _ (getD_mem (d := rr0) hi)
      simp only [go_sem, d_rat_Cmp, d_rat_Int, d_rank_by, fz_rank_Ranks, Int.ofNat_lt, decide_true, decide_false, getD_rats hi, getD_ratsI hi, hi, Nat.reduceBEq, Nat.reduceBNe, Nat.reduceLT, Nat.reduceLeDiff, Nat.reduceAdd, Nat.reduceSub, Nat.reduceMul, Nat.reduceEqDiff, Int.reduceNeg, Int.reduceAdd, Int.reduceLT, Int.reduceLE, Int.reduceToNat, ↓reduceIte]
      refine codeK_loop (fun j : { j : Nat // j ≤ a.length } => [(18, 0, .av (intV ((j.1 : Nat)))), (17, 0, .av (intV ((a.length : Nat)))), (16, 0, .av (ratsV a)), (5, 0, .av (.one (.cel (.ptr 5 0)))), (5, 1, .cv (.bool (a.getD i rr0).s)), (5, 2, .cv (.lim none (a.getD i rr0).n)), (5, 3, .cv (.lim none (a.getD i rr0).d)), (6, 0, .av (intV (1 + tw (atQ a) (a.getD i rr0).q j.1))), (12, 0, .av (intV ((i : Nat)))), (11, 0, .av (intV ((a.length : Nat)))), (10, 0, .av (ratsV a)), (0, 0, .av (ratsV a)), (3, 0, .av (.one (.cel (.rf 1003 i)))), (1003, 1, .row (.gen 3 ((mkL (rankQ (atQ a) a.length) i).map ratCells)))]) (fun j => a.length - j.1) ⟨0, by omega⟩ (le_of ?_) ?_
      · simp only [go_sem, leL, Nat.reduceBEq, Nat.reduceBNe, Nat.reduceLT, Nat.reduceLeDiff, Nat.reduceAdd, Nat.reduceSub, Nat.reduceMul, Nat.reduceEqDiff, Int.reduceNeg, Int.reduceAdd, Int.reduceLT, Int.reduceLE, Int.reduceToNat, ↓reduceIte, tw_zero, Int.add_zero, Int.ofNat_zero, Int.natCast_zero, Int.cast_ofNat_Int]
      · rintro ⟨j, hj0⟩
        have hj0 : j ≤ a.length := hj0
        have hb := tw_bd (atQ a) (a.getD i rr0).q j
        by_cases hj : j < a.length
        · have hmj := hp.2 _ (getD_mem (d := rr0) hj)
          by_cases c1 : (a.getD j rr0).q < (a.getD i rr0).q
          · have hn : tw (atQ a) (a.getD i rr0).q (j + 1) = tw (atQ a) (a.getD i rr0).q j + 2 := tw_lt c1
            simp only [go_sem, d_rat_Cmp, d_rat_Int, d_rank_by, fz_rank_Ranks, Int.ofNat_lt, decide_true, decide_false, getD_rats hi, getD_ratsI hi, hi, getD_rats hj, getD_ratsI hj, hj, c1, Nat.reduceBEq, Nat.reduceBNe, Nat.reduceLT, Nat.reduceLeDiff, Nat.reduceAdd, Nat.reduceSub, Nat.reduceMul, Nat.reduceEqDiff, Int.reduceNeg, Int.reduceAdd, Int.reduceLT, Int.reduceLE, Int.reduceToNat, ↓reduceIte]
            ((try and_intros) <;> first | exact trivial | omega | (show okDraw _ _ = true; kernel_rfl) | (show ∃ _, _; exact ⟨⟨j + 1, by omega⟩, by show a.length - (j + 1) < a.length - j; omega, le_of (by simp only [go_sem, leL, hn, Nat.reduceBEq, Nat.reduceBNe, Nat.reduceLT, Nat.reduceLeDiff, Nat.reduceAdd, Nat.reduceSub, Nat.reduceMul, Nat.reduceEqDiff, Int.reduceNeg, Int.reduceAdd, Int.reduceLT, Int.reduceLE, Int.reduceToNat, ↓reduceIte]; omega)⟩))
          · by_cases c2 : (a.getD j rr0).q = (a.getD i rr0).q
            · have hn : tw (atQ a) (a.getD i rr0).q (j + 1) = tw (atQ a) (a.getD i rr0).q j + 1 := tw_eq c1 c2
              have c2 := eq_true c2
              simp only [go_sem, d_rat_Cmp, d_rat_Int, d_rank_by, fz_rank_Ranks, Int.ofNat_lt, decide_true, decide_false, getD_rats hi, getD_ratsI hi, hi, getD_rats hj, getD_ratsI hj, hj, c1, c2, Nat.reduceBEq, Nat.reduceBNe, Nat.reduceLT, Nat.reduceLeDiff, Nat.reduceAdd, Nat.reduceSub, Nat.reduceMul, Nat.reduceEqDiff, Int.reduceNeg, Int.reduceAdd, Int.reduceLT, Int.reduceLE, Int.reduceToNat, ↓reduceIte]
              ((try and_intros) <;> first | exact trivial | omega | (show okDraw _ _ = true; kernel_rfl) | (show ∃ _, _; exact ⟨⟨j + 1, by omega⟩, by show a.length - (j + 1) < a.length - j; omega, le_of (by simp only [go_sem, leL, hn, Nat.reduceBEq, Nat.reduceBNe, Nat.reduceLT, Nat.reduceLeDiff, Nat.reduceAdd, Nat.reduceSub, Nat.reduceMul, Nat.reduceEqDiff, Int.reduceNeg, Int.reduceAdd, Int.reduceLT, Int.reduceLE, Int.reduceToNat, ↓reduceIte]; omega)⟩))
            · have hn : tw (atQ a) (a.getD i rr0).q (j + 1) = tw (atQ a) (a.getD i rr0).q j := tw_gt c1 c2
              simp only [go_sem, d_rat_Cmp, d_rat_Int, d_rank_by, fz_rank_Ranks, Int.ofNat_lt, decide_true, decide_false, getD_rats hi, getD_ratsI hi, hi, getD_rats hj, getD_ratsI hj, hj, c1, c2, Nat.reduceBEq, Nat.reduceBNe, Nat.reduceLT, Nat.reduceLeDiff, Nat.reduceAdd, Nat.reduceSub, Nat.reduceMul, Nat.reduceEqDiff, Int.reduceNeg, Int.reduceAdd, Int.reduceLT, Int.reduceLE, Int.reduceToNat, ↓reduceIte]
              ((try and_intros) <;> first | exact trivial | omega | (show okDraw _ _ = true; kernel_rfl) | (show ∃ _, _; exact ⟨⟨j + 1, by omega⟩, by show a.length - (j + 1) < a.length - j; omega, le_of (by simp only [go_sem, leL, hn, Nat.reduceBEq, Nat.reduceBNe, Nat.reduceLT, Nat.reduceLeDiff, Nat.reduceAdd, Nat.reduceSub, Nat.reduceMul, Nat.reduceEqDiff, Int.reduceNeg, Int.reduceAdd, Int.reduceLT, Int.reduceLE, Int.reduceToNat, ↓reduceIte]; omega)⟩))
        · have ej : j = a.length := by omega
          subst ej
          have hln := mkL_len (rankQ (atQ a) a.length) i
          have hln2 := mkL_len (rankQ (atQ a) a.length) (i + 1)
          have hq : ((1 + tw (atQ a) (a.getD i rr0).q a.length : Int) : Rat) / ((2 : Int) : Rat) = rankQ (atQ a) a.length i := rfl
          have hz : rs ((1 + tw (atQ a) (a.getD i rr0).q a.length : Int) : Rat) ≤ 2 := rsb_int (by omega) (by omega) (by omega)
          have hz2 : rs ((2 : Int) : Rat) ≤ 2 := rsb_int (by omega) (by omega) (by omega)
          have hrow : (mkL (rankQ (atQ a) a.length) i).map ratCells ++ [[.bool (cr (rankQ (atQ a) a.length i)).s, .lim none (cr (rankQ (atQ a) a.length i)).n, .lim none (cr (rankQ (atQ a) a.length i)).d]] = (mkL (rankQ (atQ a) a.length) (i + 1)).map ratCells := mkL_cells _ i
          simp only [go_sem, d_rat_Cmp, d_rat_Int, d_rank_by, fz_rank_Ranks, Int.ofNat_lt, decide_true, decide_false, getD_rats hi, getD_ratsI hi, hi, Nat.lt_irrefl, hq, Nat.reduceBEq, Nat.reduceBNe, Nat.reduceLT, Nat.reduceLeDiff, Nat.reduceAdd, Nat.reduceSub, Nat.reduceMul, Nat.reduceEqDiff, Int.reduceNeg, Int.reduceAdd, Int.reduceLT, Int.reduceLE, Int.reduceToNat, ↓reduceIte]
          refine ⟨⟨by omega, by omega⟩, ⟨by omega, by omega⟩, ⟨hln.symm, by omega⟩, ⟨by omega, by omega⟩, ⟨i + 1, by omega⟩, by show a.length - (i + 1) < a.length - i; omega, ?_⟩
          refine Le.trans (b := [(12, 0, .av (intV (((i + 1) : Nat)))), (11, 0, .av (intV ((a.length : Nat)))), (10, 0, .av (ratsV a)), (0, 0, .av (ratsV a)), (3, 0, .av (.one (.cel (.rf 42 (i + 1))))), (42, 1, .row (.gen 3 ((mkL (rankQ (atQ a) a.length) (i + 1)).map ratCells)))]) (le_of ?_) (le_ren 42 1003 (c := .gen 3 ((mkL (rankQ (atQ a) a.length) (i + 1)).map ratCells)) (by rfl) (by kernel_rfl) (le_of ?_))
          · simp only [go_sem, leL, hrow, hln2, Nat.reduceBEq, Nat.reduceBNe, Nat.reduceLT, Nat.reduceLeDiff, Nat.reduceAdd, Nat.reduceSub, Nat.reduceMul, Nat.reduceEqDiff, Int.reduceNeg, Int.reduceAdd, Int.reduceLT, Int.reduceLE, Int.reduceToNat, ↓reduceIte]
            omega
          · simp only [go_sem, leL, Nat.reduceBEq, Nat.reduceBNe, Nat.reduceLT, Nat.reduceLeDiff, Nat.reduceAdd, Nat.reduceSub, Nat.reduceMul, Nat.reduceEqDiff, Int.reduceNeg, Int.reduceAdd, Int.reduceLT, Int.reduceLE, Int.reduceToNat, ↓reduceIte]
    · simp only [go_sem, d_rat_Cmp, d_rat_Int, d_rank_by, fz_rank_Ranks, Int.ofNat_lt, decide_true, decide_false, hi, Nat.reduceBEq, Nat.reduceBNe, Nat.reduceLT, Nat.reduceLeDiff, Nat.reduceAdd, Nat.reduceSub, Nat.reduceMul, Nat.reduceEqDiff, Int.reduceNeg, Int.reduceAdd, Int.reduceLT, Int.reduceLE, Int.reduceToNat, ↓reduceIte]
      have e : i = a.length := by omega
      subst e
      have hln := mkL_len (rankQ (atQ a) a.length) a.length
      exact ⟨by omega, by rw [List.take_of_length_le (by rw [List.length_map]; omega)]⟩

theorem pr_bd (a b : Nat → Rat) (i k : Nat) : -1 ≤ pr a b i k ∧ pr a b i k ≤ 1 := by
  have h1 := cmpQ_bd (a i) (a k)
  have h2 := cmpQ_bd (b i) (b k)
  unfold pr
  have c1 : cmpQ (a i) (a k) = -1 ∨ cmpQ (a i) (a k) = 0 ∨ cmpQ (a i) (a k) = 1 := by omega
  rcases c1 with h | h | h <;> rw [h] <;> omega

def d_rank_Pairs : Den := den2 aRats aRats (fun a b => (a.length ≤ 1000 ∧ ∀ r ∈ a, r.sz ≤ 1000) ∧ b.length ≤ 1000 ∧ ∀ r ∈ b, r.sz ≤ 1000) fun a b => intsV3 (if a.length = b.length then pc v1 (atQ a) (atQ b) a.length else 0) (if a.length = b.length then pc v2 (atQ a) (atQ b) a.length else 0) (if a.length = b.length then pc v3 (atQ a) (atQ b) a.length else 0) (if a.length = b.length then 0 else 1)
set_option maxRecDepth 100000 in
set_option maxHeartbeats 1000000 in
theorem s_rank_Pairs : Sound Try.prog 47 d_rank_Pairs := by
  refine sound2 (fz := nofz) (l := [(87, d_rat_Cmp)]) TT_ok ⟨s_rat_Cmp, trivial⟩ mixed Try.func47 Try.ntmps47 Try.results47 Try.call47 rfl (by omega) (fun _ _ => rfl) ?_
  intro a b hp ha hb
  rw [codeK_start]
  have pb := fun (v : Int → Int) (h : ∀ c, 0 ≤ v c ∧ v c ≤ 1) (n : Nat) (hn : n ≤ 1000) => pc_bound h (atQ a) (atQ b) hn
  by_cases hl : a.length = b.length
  · have hlt : (((a.length : Nat) : Int) = b.length) = True := eq_true (by omega)
    have hla := hp.1.1
    simp only [go_sem, d_rat_Cmp, Int.ofNat_lt, decide_true, decide_false, Bool.not_true, Bool.not_false, hlt, Nat.reduceBEq, Nat.reduceBNe, Nat.reduceLT, Nat.reduceLeDiff, Nat.reduceAdd, Nat.reduceSub, Nat.reduceMul, Nat.reduceEqDiff, Int.reduceNeg, Int.reduceAdd, Int.reduceLT, Int.reduceLE, Int.reduceToNat, ↓reduceIte]
    refine codeK_loop (fun i : { i : Nat // i ≤ a.length } => [(17, 0, .av (intV ((i.1 : Nat)))), (16, 0, .av (intV ((a.length : Nat)))), (0, 0, .av (ratsV a)), (1, 0, .av (ratsV b)), (4, 0, .av (intV (pc v1 (atQ a) (atQ b) i.1))), (5, 0, .av (intV (pc v2 (atQ a) (atQ b) i.1))), (6, 0, .av (intV (pc v3 (atQ a) (atQ b) i.1)))]) (fun i => a.length - i.1) ⟨0, by omega⟩ (le_of ?_) ?_
    · simp only [go_sem, leL, Nat.reduceBEq, Nat.reduceBNe, Nat.reduceLT, Nat.reduceLeDiff, Nat.reduceAdd, Nat.reduceSub, Nat.reduceMul, Nat.reduceEqDiff, Int.reduceNeg, Int.reduceAdd, Int.reduceLT, Int.reduceLE, Int.reduceToNat, ↓reduceIte, pc_zero, Int.ofNat_zero, Int.natCast_zero, Int.cast_ofNat_Int]
    · rintro ⟨i, hi0⟩
      have hi0 : i ≤ a.length := hi0
      by_cases hi : i < a.length
      · have hi2 : i < b.length := by omega
        have hm := hp.1.2 _ (getD_mem (d := rr0) hi)
        have hm2 := hp.2.2 _ (getD_mem (d := rr0) hi2)
        simp only [go_sem, d_rat_Cmp, Int.ofNat_lt, decide_true, decide_false, Bool.not_true, Bool.not_false, hlt, getD_rats hi, getD_ratsI hi, hi, getD_rats hi2, getD_ratsI hi2, hi2, Nat.reduceBEq, Nat.reduceBNe, Nat.reduceLT, Nat.reduceLeDiff, Nat.reduceAdd, Nat.reduceSub, Nat.reduceMul, Nat.reduceEqDiff, Int.reduceNeg, Int.reduceAdd, Int.reduceLT, Int.reduceLE, Int.reduceToNat, ↓reduceIte]
        refine codeK_loop (fun j : { j : Nat // j ≤ i } => [(21, 0, .av (intV ((j.1 : Nat)))), (20, 0, .av (intV ((i : Nat)))), (8, 0, .av (intV ((i : Nat)))), (17, 0, .av (intV ((i : Nat)))), (16, 0, .av (intV ((a.length : Nat)))), (0, 0, .av (ratsV a)), (1, 0, .av (ratsV b)), (4, 0, .av (intV (pc v1 (atQ a) (atQ b) i + pcRow v1 (atQ a) (atQ b) i j.1))), (5, 0, .av (intV (pc v2 (atQ a) (atQ b) i + pcRow v2 (atQ a) (atQ b) i j.1))), (6, 0, .av (intV (pc v3 (atQ a) (atQ b) i + pcRow v3 (atQ a) (atQ b) i j.1)))]) (fun j => i - j.1) ⟨0, by omega⟩ (le_of ?_) ?_
        · simp only [go_sem, leL, Nat.reduceBEq, Nat.reduceBNe, Nat.reduceLT, Nat.reduceLeDiff, Nat.reduceAdd, Nat.reduceSub, Nat.reduceMul, Nat.reduceEqDiff, Int.reduceNeg, Int.reduceAdd, Int.reduceLT, Int.reduceLE, Int.reduceToNat, ↓reduceIte, pcRow_zero, Int.add_zero, Int.ofNat_zero, Int.natCast_zero, Int.cast_ofNat_Int]
        · rintro ⟨j, hj0⟩
          have hj0 : j ≤ i := hj0
          have x1 := pb v1 v1_bd i (by omega)
          have x2 := pb v2 v2_bd i (by omega)
          have x3 := pb v3 v3_bd i (by omega)
          have y1 := pcRow_bd v1_bd (atQ a) (atQ b) i j
          have y2 := pcRow_bd v2_bd (atQ a) (atQ b) i j
          have y3 := pcRow_bd v3_bd (atQ a) (atQ b) i j
          have w1 := pcRow_next v1 (atQ a) (atQ b) i j
          have w2 := pcRow_next v2 (atQ a) (atQ b) i j
          have w3 := pcRow_next v3 (atQ a) (atQ b) i j
          by_cases hj : j < i
          · have hja : j < a.length := by omega
            have hjb : j < b.length := by omega
            have km := hp.1.2 _ (getD_mem (d := rr0) hja)
            have km2 := hp.2.2 _ (getD_mem (d := rr0) hjb)
            have hpr : cmpQ (a.getD i rr0).q (a.getD j rr0).q * cmpQ (b.getD i rr0).q (b.getD j rr0).q = pr (atQ a) (atQ b) i j := rfl
            have hbd := pr_bd (atQ a) (atQ b) i j
            generalize hg : pr (atQ a) (atQ b) i j = t at *
            by_cases c1 : t = 1
            · have u1 : v1 t = 1 := by unfold v1; rw [if_pos c1]
              have u2 : v2 t = 0 := by unfold v2; rw [if_neg (by omega)]
              have u3 : v3 t = 0 := by unfold v3; rw [if_pos c1]
              rw [u1] at w1; rw [u2] at w2; rw [u3] at w3
              simp only [go_sem, d_rat_Cmp, Int.ofNat_lt, decide_true, decide_false, Bool.not_true, Bool.not_false, hlt, getD_rats hi, getD_ratsI hi, hi, getD_rats hi2, getD_ratsI hi2, hi2, getD_rats hja, getD_ratsI hja, getD_rats hjb, getD_ratsI hjb, hj, hja, hjb, hpr, c1, Nat.reduceBEq, Nat.reduceBNe, Nat.reduceLT, Nat.reduceLeDiff, Nat.reduceAdd, Nat.reduceSub, Nat.reduceMul, Nat.reduceEqDiff, Int.reduceNeg, Int.reduceAdd, Int.reduceLT, Int.reduceLE, Int.reduceToNat, ↓reduceIte]
              ((try and_intros) <;> first | exact trivial | omega | (show okDraw _ _ = true; kernel_rfl) | (show ∃ _, _; exact ⟨⟨j + 1, by omega⟩, by show i - (j + 1) < i - j; omega, le_of (by simp only [go_sem, leL, w1, w2, w3, Nat.reduceBEq, Nat.reduceBNe, Nat.reduceLT, Nat.reduceLeDiff, Nat.reduceAdd, Nat.reduceSub, Nat.reduceMul, Nat.reduceEqDiff, Int.reduceNeg, Int.reduceAdd, Int.reduceLT, Int.reduceLE, Int.reduceToNat, ↓reduceIte]; omega)⟩))
            · by_cases c2 : t = -1
              · have u1 : v1 t = 0 := by unfold v1; rw [if_neg c1]
                have u2 : v2 t = 1 := by unfold v2; rw [if_pos c2]
                have u3 : v3 t = 0 := by unfold v3; rw [if_neg c1, if_pos c2]
                rw [u1] at w1; rw [u2] at w2; rw [u3] at w3
                simp only [go_sem, d_rat_Cmp, Int.ofNat_lt, decide_true, decide_false, Bool.not_true, Bool.not_false, hlt, getD_rats hi, getD_ratsI hi, hi, getD_rats hi2, getD_ratsI hi2, hi2, getD_rats hja, getD_ratsI hja, getD_rats hjb, getD_ratsI hjb, hj, hja, hjb, hpr, c1, c2, Nat.reduceBEq, Nat.reduceBNe, Nat.reduceLT, Nat.reduceLeDiff, Nat.reduceAdd, Nat.reduceSub, Nat.reduceMul, Nat.reduceEqDiff, Int.reduceNeg, Int.reduceAdd, Int.reduceLT, Int.reduceLE, Int.reduceToNat, ↓reduceIte]
                ((try and_intros) <;> first | exact trivial | omega | (show okDraw _ _ = true; kernel_rfl) | (show ∃ _, _; exact ⟨⟨j + 1, by omega⟩, by show i - (j + 1) < i - j; omega, le_of (by simp only [go_sem, leL, w1, w2, w3, Nat.reduceBEq, Nat.reduceBNe, Nat.reduceLT, Nat.reduceLeDiff, Nat.reduceAdd, Nat.reduceSub, Nat.reduceMul, Nat.reduceEqDiff, Int.reduceNeg, Int.reduceAdd, Int.reduceLT, Int.reduceLE, Int.reduceToNat, ↓reduceIte]; omega)⟩))
              · have u1 : v1 t = 0 := by unfold v1; rw [if_neg c1]
                have u2 : v2 t = 0 := by unfold v2; rw [if_neg c2]
                have u3 : v3 t = 1 := by unfold v3; rw [if_neg c1, if_neg c2]
                rw [u1] at w1; rw [u2] at w2; rw [u3] at w3
                simp only [go_sem, d_rat_Cmp, Int.ofNat_lt, decide_true, decide_false, Bool.not_true, Bool.not_false, hlt, getD_rats hi, getD_ratsI hi, hi, getD_rats hi2, getD_ratsI hi2, hi2, getD_rats hja, getD_ratsI hja, getD_rats hjb, getD_ratsI hjb, hj, hja, hjb, hpr, c1, c2, Nat.reduceBEq, Nat.reduceBNe, Nat.reduceLT, Nat.reduceLeDiff, Nat.reduceAdd, Nat.reduceSub, Nat.reduceMul, Nat.reduceEqDiff, Int.reduceNeg, Int.reduceAdd, Int.reduceLT, Int.reduceLE, Int.reduceToNat, ↓reduceIte]
                ((try and_intros) <;> first | exact trivial | omega | (show okDraw _ _ = true; kernel_rfl) | (show ∃ _, _; exact ⟨⟨j + 1, by omega⟩, by show i - (j + 1) < i - j; omega, le_of (by simp only [go_sem, leL, w1, w2, w3, Nat.reduceBEq, Nat.reduceBNe, Nat.reduceLT, Nat.reduceLeDiff, Nat.reduceAdd, Nat.reduceSub, Nat.reduceMul, Nat.reduceEqDiff, Int.reduceNeg, Int.reduceAdd, Int.reduceLT, Int.reduceLE, Int.reduceToNat, ↓reduceIte]; omega)⟩))
          · have ej : j = i := by omega
            subst ej
            have e1 := pc_next v1 (atQ a) (atQ b) j
            have e2 := pc_next v2 (atQ a) (atQ b) j
            have e3 := pc_next v3 (atQ a) (atQ b) j
            simp only [go_sem, d_rat_Cmp, Int.ofNat_lt, decide_true, decide_false, Bool.not_true, Bool.not_false, hlt, getD_rats hi, getD_ratsI hi, hi, getD_rats hi2, getD_ratsI hi2, hi2, Nat.lt_irrefl, Nat.reduceBEq, Nat.reduceBNe, Nat.reduceLT, Nat.reduceLeDiff, Nat.reduceAdd, Nat.reduceSub, Nat.reduceMul, Nat.reduceEqDiff, Int.reduceNeg, Int.reduceAdd, Int.reduceLT, Int.reduceLE, Int.reduceToNat, ↓reduceIte]
            exact ⟨⟨by omega, by omega⟩, ⟨j + 1, by omega⟩, by show a.length - (j + 1) < a.length - j; omega, le_of (by simp only [go_sem, leL, e1, e2, e3, Nat.reduceBEq, Nat.reduceBNe, Nat.reduceLT, Nat.reduceLeDiff, Nat.reduceAdd, Nat.reduceSub, Nat.reduceMul, Nat.reduceEqDiff, Int.reduceNeg, Int.reduceAdd, Int.reduceLT, Int.reduceLE, Int.reduceToNat, ↓reduceIte]; omega)⟩
      · simp only [go_sem, d_rat_Cmp, Int.ofNat_lt, decide_true, decide_false, Bool.not_true, Bool.not_false, hlt, hi, Nat.reduceBEq, Nat.reduceBNe, Nat.reduceLT, Nat.reduceLeDiff, Nat.reduceAdd, Nat.reduceSub, Nat.reduceMul, Nat.reduceEqDiff, Int.reduceNeg, Int.reduceAdd, Int.reduceLT, Int.reduceLE, Int.reduceToNat, ↓reduceIte]
        have e : i = a.length := by omega
        subst e
        rw [if_pos hl, if_pos hl, if_pos hl, if_pos hl]
        first | exact ⟨rfl, rfl, rfl, rfl⟩ | trivial
  · have hlt : (((a.length : Nat) : Int) = b.length) = False := eq_false (by omega)
    simp only [go_sem, d_rat_Cmp, Int.ofNat_lt, decide_true, decide_false, Bool.not_true, Bool.not_false, hlt, Nat.reduceBEq, Nat.reduceBNe, Nat.reduceLT, Nat.reduceLeDiff, Nat.reduceAdd, Nat.reduceSub, Nat.reduceMul, Nat.reduceEqDiff, Int.reduceNeg, Int.reduceAdd, Int.reduceLT, Int.reduceLE, Int.reduceToNat, ↓reduceIte]
    rw [if_neg hl, if_neg hl, if_neg hl, if_neg hl]
    first | exact ⟨rfl, rfl, rfl, rfl⟩ | trivial

def errP (a b : List RR) : Int := if a.length = b.length then (if a.length < 2 then 5 else 0) else 1

def d_rank_Kendall : Den := den2 aRats aRats (fun a b => (a.length ≤ 1000 ∧ ∀ r ∈ a, r.sz ≤ 1000) ∧ b.length ≤ 1000 ∧ ∀ r ∈ b, r.sz ≤ 1000) fun a b => ratIntV (cr (kenQ a b)) (errP a b)
set_option maxRecDepth 100000 in
set_option maxHeartbeats 1000000 in
theorem s_rank_Kendall : Sound Try.prog 57 d_rank_Kendall := by
  refine sound2 (fz := nofz) (l := [(47, d_rank_Pairs), (74, d_rat_Int), (88, d_rank_by)]) TT_ok ⟨s_rank_Pairs, s_rat_Int, s_rank_by, trivial⟩ mixed Try.func57 Try.ntmps57 Try.results57 Try.call57 rfl (by omega) (fun _ _ => rfl) ?_
  intro a b hp ha hb
  rw [codeK_start]
  have hla := hp.1.1
  have x1 := pc_bound v1_bd (atQ a) (atQ b) hla
  have x2 := pc_bound v2_bd (atQ a) (atQ b) hla
  have x3 := pc_bound v3_bd (atQ a) (atQ b) hla
  have z1 : rs ((pc v1 (atQ a) (atQ b) a.length - pc v2 (atQ a) (atQ b) a.length : Int) : Rat) ≤ 2 := rsb_int (by omega) (by omega) (by omega)
  have z2 : rs ((pc v1 (atQ a) (atQ b) a.length + pc v2 (atQ a) (atQ b) a.length + pc v3 (atQ a) (atQ b) a.length : Int) : Rat) ≤ 2 := rsb_int (by omega) (by omega) (by omega)
  unfold kenQ errP
  by_cases hl0 : a.length = b.length
  · have hl : (a.length = b.length) = True := eq_true hl0
    by_cases h2 : a.length < 2
    · have h3 : (((a.length : Nat) : Int) < 2) = True := eq_true (by omega)
      simp only [go_sem, d_rank_Pairs, d_rat_Int, d_rank_by, int0, decide_true, decide_false, Bool.not_true, Bool.not_false, if_true, if_false, hl, h2, h3, Nat.reduceBEq, Nat.reduceBNe, Nat.reduceLT, Nat.reduceLeDiff, Nat.reduceAdd, Nat.reduceSub, Nat.reduceMul, Nat.reduceEqDiff, Int.reduceNeg, Int.reduceAdd, Int.reduceLT, Int.reduceLE, Int.reduceToNat, ↓reduceIte]
      ((try and_intros) <;> first | exact trivial | assumption | exact hp.1.2 | exact hp.2.2 | omega | (show okDraw _ _ = true; kernel_rfl) | rfl)
    · have h3 : (((a.length : Nat) : Int) < 2) = False := eq_false (by omega)
      simp only [go_sem, d_rank_Pairs, d_rat_Int, d_rank_by, int0, decide_true, decide_false, Bool.not_true, Bool.not_false, if_true, if_false, hl, h2, h3, Nat.reduceBEq, Nat.reduceBNe, Nat.reduceLT, Nat.reduceLeDiff, Nat.reduceAdd, Nat.reduceSub, Nat.reduceMul, Nat.reduceEqDiff, Int.reduceNeg, Int.reduceAdd, Int.reduceLT, Int.reduceLE, Int.reduceToNat, ↓reduceIte]
      ((try and_intros) <;> first | exact trivial | assumption | exact hp.1.2 | exact hp.2.2 | omega | (show okDraw _ _ = true; kernel_rfl) | rfl)
  · have hl : (a.length = b.length) = False := eq_false hl0
    simp only [go_sem, d_rank_Pairs, d_rat_Int, d_rank_by, int0, decide_true, decide_false, Bool.not_true, Bool.not_false, if_true, if_false, hl, Nat.reduceBEq, Nat.reduceBNe, Nat.reduceLT, Nat.reduceLeDiff, Nat.reduceAdd, Nat.reduceSub, Nat.reduceMul, Nat.reduceEqDiff, Int.reduceNeg, Int.reduceAdd, Int.reduceLT, Int.reduceLE, Int.reduceToNat, ↓reduceIte]
    ((try and_intros) <;> first | exact trivial | assumption | exact hp.1.2 | exact hp.2.2 | omega | (show okDraw _ _ = true; kernel_rfl) | rfl)

theorem ranksL_len (l : List RR) : (ranksL l).length = l.length := mkL_len _ _
theorem ranksL_ok (l : List RR) : ∀ r ∈ ranksL l, r.ok := mkL_ok _ _
theorem ranksL_sz {l : List RR} (h : l.length ≤ 1000) : ∀ r ∈ ranksL l, r.sz ≤ 1000 := mkL_sz fun i _ => Nat.le_trans (rs_rank _ h i) (by omega)
def rkC (a b : List RR) : Rat := covQ (ranksL a) (ranksL b)
theorem errC_ranks (a b : List RR) : errC (ranksL a) (ranksL b) = errP a b := by unfold errC errP; rw [ranksL_len, ranksL_len]
theorem rs_rkC {a b : List RR} (ha : a.length ≤ 1000) (hb : b.length ≤ 1000) : rs (rkC a b) ≤ 2200002000 :=
  rs_covQ (offs_bound (ranksL_ok a) ⟨by rw [ranksL_len]; exact ha, ranksL_sz ha⟩) (offs_bound (ranksL_ok b) ⟨by rw [ranksL_len]; exact hb, ranksL_sz hb⟩) (by rw [ranksL_len]; exact ha)
def speQ (a b : List RR) : Rat := if errP a b = 0 then rkC a b * rkC a b / (rkC a a * rkC b b) else 0
def speS (a b : List RR) : Int := if errP a b = 0 then (if rkC a a * rkC b b = 0 then 0 else cmpQ (rkC a b) 0) else 0
def speE (a b : List RR) : Int := if errP a b = 0 then (if rkC a a * rkC b b = 0 then 5 else 0) else errP a b
def ratIntsV (r : RR) (m n : Int) : AV := .tup [.agg (ratCells r), .cel (.int .i64 m), .cel (.int .i64 n)]
attribute [go_sem] ratIntsV
theorem div_zero' (x : Rat) : x / 0 = 0 := by rw [Rat.div_def, Rat.inv_zero, Rat.mul_zero]

def d_rank_Spearman : Den := den2 aRats aRats (fun a b => (a.length ≤ 1000 ∧ ∀ r ∈ a, r.sz ≤ 1000) ∧ b.length ≤ 1000 ∧ ∀ r ∈ b, r.sz ≤ 1000) fun a b => ratIntsV (cr (speQ a b)) (speS a b) (speE a b)
set_option maxRecDepth 100000 in
set_option maxHeartbeats 1000000 in
theorem s_rank_Spearman : Sound Try.prog 59 d_rank_Spearman := by
  refine sound2 (fz := nofz) (l := [(33, d_rank_Ranks), (64, d_stat_Covariance), (74, d_rat_Int), (63, d_stat_Variance), (23, d_rat_Mul), (99, d_rat_Zero), (88, d_rank_by), (87, d_rat_Cmp)]) TT_ok ⟨s_rank_Ranks, s_stat_Covariance, s_rat_Int, s_stat_Variance, s_rat_Mul, s_rat_Zero, s_rank_by, s_rat_Cmp, trivial⟩ mixed Try.func59 Try.ntmps59 Try.results59 Try.call59 rfl (by omega) (fun _ _ => rfl) ?_
  intro a b hp ha hb
  rw [codeK_start]
  have hla := hp.1.1
  have hlb := hp.2.1
  have la := ranksL_len a
  have lb := ranksL_len b
  have xa := ranksL_sz hla
  have xb := ranksL_sz hlb
  have c1 := rs_rkC hla hlb
  have c2 := rs_rkC hla hla
  have c3 := rs_rkC hlb hlb
  have m1 : rs (rkC a b * rkC a b) ≤ 4400004000 := rsb_mul c1 c1 (by omega)
  have m2 : rs (rkC a a * rkC b b) ≤ 4400004000 := rsb_mul c2 c3 (by omega)
  have e0 := errC_ranks a b
  have r1 : covQ (ranksL a) (ranksL b) = rkC a b := rfl
  have r2 : covQ (ranksL a) (ranksL a) = rkC a a := rfl
  have r3 : covQ (ranksL b) (ranksL b) = rkC b b := rfl
  have hpa : (ranksL a).length ≤ 1000 ∧ ∀ r ∈ ranksL a, r.sz ≤ 1000 := ⟨by omega, xa⟩
  have hpb : (ranksL b).length ≤ 1000 ∧ ∀ r ∈ ranksL b, r.sz ≤ 1000 := ⟨by omega, xb⟩
  have t0 : rs (0 : Rat) ≤ 1 := rs0 (by omega)
  unfold speQ speS speE
  by_cases he : errP a b = 0
  · have e1 : (errP a b = 0) = True := eq_true he
    by_cases hz : rkC a a * rkC b b = 0
    · have e2 : (rkC a a * rkC b b = 0) = True := eq_true hz
      simp only [go_sem, d_rank_Ranks, d_stat_Covariance, d_rat_Int, d_stat_Variance, d_rat_Mul, d_rat_Zero, d_rank_by, d_rat_Cmp, int0, decide_true, decide_false, Bool.not_true, Bool.not_false, if_true, if_false, e0, r1, r2, r3, e1, e2, Nat.reduceBEq, Nat.reduceBNe, Nat.reduceLT, Nat.reduceLeDiff, Nat.reduceAdd, Nat.reduceSub, Nat.reduceMul, Nat.reduceEqDiff, Int.reduceNeg, Int.reduceAdd, Int.reduceLT, Int.reduceLE, Int.reduceToNat, ↓reduceIte]
      rw [hz, div_zero']
      ((try and_intros) <;> first | exact trivial | assumption | exact hp.1.2 | exact hp.2.2 | exact hp.1 | exact hp.2 | exact ⟨hpa, hpb⟩ | omega | (show okDraw _ _ = true; kernel_rfl) | rfl)
    · have e2 : (rkC a a * rkC b b = 0) = False := eq_false hz
      simp only [go_sem, d_rank_Ranks, d_stat_Covariance, d_rat_Int, d_stat_Variance, d_rat_Mul, d_rat_Zero, d_rank_by, d_rat_Cmp, int0, decide_true, decide_false, Bool.not_true, Bool.not_false, if_true, if_false, e0, r1, r2, r3, e1, e2, Nat.reduceBEq, Nat.reduceBNe, Nat.reduceLT, Nat.reduceLeDiff, Nat.reduceAdd, Nat.reduceSub, Nat.reduceMul, Nat.reduceEqDiff, Int.reduceNeg, Int.reduceAdd, Int.reduceLT, Int.reduceLE, Int.reduceToNat, ↓reduceIte]
      ((try and_intros) <;> first | exact trivial | assumption | exact hp.1.2 | exact hp.2.2 | exact hp.1 | exact hp.2 | exact ⟨hpa, hpb⟩ | omega | (show okDraw _ _ = true; kernel_rfl) | rfl)
  · have e1 : (errP a b = 0) = False := eq_false he
    simp only [go_sem, d_rank_Ranks, d_stat_Covariance, d_rat_Int, d_stat_Variance, d_rat_Mul, d_rat_Zero, d_rank_by, d_rat_Cmp, int0, decide_true, decide_false, Bool.not_true, Bool.not_false, if_true, if_false, e0, r1, r2, r3, e1, Nat.reduceBEq, Nat.reduceBNe, Nat.reduceLT, Nat.reduceLeDiff, Nat.reduceAdd, Nat.reduceSub, Nat.reduceMul, Nat.reduceEqDiff, Int.reduceNeg, Int.reduceAdd, Int.reduceLT, Int.reduceLE, Int.reduceToNat, ↓reduceIte]
    ((try and_intros) <;> first | exact trivial | assumption | exact hp.1.2 | exact hp.2.2 | exact hp.1 | exact hp.2 | exact ⟨hpa, hpb⟩ | omega | (show okDraw _ _ = true; kernel_rfl) | rfl)


end Go.Proofs.Ytpppgmgdcpaffaa
