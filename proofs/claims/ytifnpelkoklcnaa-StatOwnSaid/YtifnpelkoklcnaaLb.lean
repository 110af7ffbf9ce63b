/- slices.insertionSortCmpFunc, stableCmpFunc, SortStableFunc over a row of rationals of one's own, with rat.Cmp, by the abstract walk. Condition: rows of fewer than 20 numbers of at most 1000 limbs. slices.stableCmpFunc and SortStableFunc over a row of rationals of one's own, by the abstract walk. Condition: rows of fewer than 20 numbers of at most 1000 limbs: they are one block. -/
import Derived.Test.YtifnpelkoklcnaaKa
import Derived.Test.YtifnpelkoklcnaaCd
namespace Go.Proofs.Ytifnpelkoklcnaa
open Go.RowKit
set_option linter.unusedSimpArgs false
set_option linter.unusedVariables false

/-- a row is sorted -/
def denSort (k : List AV → List RR → Prop) : Den := fun avs => match avs with
  | .one (.cel (.sl none t rows)) :: rest => if (t == 3) = true then match rowsRats rows with
      | some l => (rows = l.map ratCells ∧ k rest l, .one (.cel (.sl none 3 ((isort l).map ratCells))))
      | none => no
    else no
  | _ => no
theorem denSort_inv {k : List AV → List RR → Prop} {r : RC} {rest : List AV} (h : (denSort k (.one (.cel (cvRow (some r))) :: rest)).1) :
    ∃ l, r = .gen 3 (l.map ratCells) ∧ k rest l ∧ (denSort k (.one (.cel (cvRow (some r))) :: rest)).2 = .one (.cel (.sl none 3 ((isort l).map ratCells))) := by
  cases r with
  | u32 xs => simp [denSort, cvRow, no] at h
  | gen t rows =>
    simp only [denSort, cvRow] at h ⊢
    split at h
    · rename_i ht
      rw [if_pos ht]
      rw [beq_iff_eq] at ht
      split at h
      · rename_i l hl
        exact ⟨l, by rw [ht, h.1], h.2, rfl⟩
      · exact h.elim
    · exact h.elim
def insPre (rest : List AV) (l : List RR) : Prop := match rest with
  | [.one (.cel (.int .i64 x)), .one (.cel (.int .i64 y)), .one (.cel (.fn f))] => x = 0 ∧ y = (l.length : Nat) ∧ f = 83 ∧ l.length < 20 ∧ ∀ r ∈ l, r.sz ≤ 1000
  | _ => False
def staPre (rest : List AV) (l : List RR) : Prop := match rest with
  | [.one (.cel (.int .i64 y)), .one (.cel (.fn f))] => y = (l.length : Nat) ∧ f = 83 ∧ l.length < 20 ∧ ∀ r ∈ l, r.sz ≤ 1000
  | _ => False
def srtPre (rest : List AV) (l : List RR) : Prop := match rest with
  | [.one (.cel (.fn f))] => f = 83 ∧ l.length < 20 ∧ ∀ r ∈ l, r.sz ≤ 1000
  | _ => False
def fz_chg : Nat → List Nat
  | 1000011 => [1]
  | _ => []
theorem srt_mem {l : List RR} {m : Nat} (h : m ≤ l.length) {r : RR} (hr : r ∈ srt l m) : r ∈ l := (srt_perm l m h).mem_iff.1 hr
theorem swapL_mem {l : List RR} {i j : Nat} (hi : i < l.length) (hj : j < l.length) {r : RR} (hr : r ∈ swapL l i j) : r ∈ l := (swapL_perm hi hj).mem_iff.1 hr
@[go_sem] theorem load_rp3 {id i : Nat} {rows : List (List CV)} : loadAV (some ti_api_Rat) [.one (.cel (.rp id 3 i))] [some (.row (.gen 3 rows))] = (3 = (RC.gen 3 rows).t ∧ 3 = (RC.gen 3 rows).t ∧ i < (RC.gen 3 rows).len, ofCells true ((rows.getD i []).map CV.strip)) := rfl
@[go_sem] theorem cells_rat (r : RR) : ofCells true ((ratCells r).map CV.strip) = .one (.agg [.bool r.s, .lim none r.n, .lim none r.d]) := rfl
theorem swap_cells2 (L : List RR) (i j : Nat) : ((L.map ratCells).set i [.bool (L.getD j rr0).s, .lim none (L.getD j rr0).n, .lim none (L.getD j rr0).d]).set j [.bool (L.getD i rr0).s, .lim none (L.getD i rr0).n, .lim none (L.getD i rr0).d] = (swapL L i j).map ratCells := swapL_cells L i j

set_option maxRecDepth 100000 in
set_option maxHeartbeats 4000000 in
theorem sm_slices_ins : SoundM Try.prog 158 (denSort insPre) := by
  refine soundM_of_awp (envOk (fz := nofz) TT_ok (l := [(83, d_rat_Cmp)]) ⟨s_rat_Cmp, trivial⟩) mixed Try.func158 rfl Try.ntmps158 Try.results158 Try.call158 ?_
  intro r avs hd hok X w vs hvs
  obtain ⟨l, rfl, hk, hr⟩ := denSort_inv hd
  unfold insPre at hk
  split at hk
  · rename_i x y f
    obtain ⟨rfl, rfl, rfl, h2, h5⟩ := hk
    refine ⟨_, .gen 3 ((isort l).map ratCells), by rw [hr]; rfl, by simp [RC.len, isort_len], rfl, fun X w vs h => h, by show _ ≤ _; simp; try omega, rfl, fun p => ?_⟩
    have hlen := h2
    have hil := isort_len l
    rw [codeK_start]
    simp only [go_sem, endsM, d_rat_Cmp, denSort, insPre, staPre, srtPre, fz_chg, chgOut, chgAV, chgEff, valEff, chgB, chgK, rowOf, cvRow, rowsRats_map, startOf, Int.ofNat_lt, decide_true, decide_false, Int.toNat_natCast, Nat.reduceBEq, Nat.reduceBNe, Nat.reduceLT, Nat.reduceLeDiff, Nat.reduceAdd, Nat.reduceSub, Nat.reduceMul, Nat.reduceEqDiff, Int.reduceNeg, Int.reduceAdd, Int.reduceLT, Int.reduceLE, Int.reduceToNat, ↓reduceIte]
    refine codeK_loop (fun i : { i : Nat // 1 ≤ i ∧ (i ≤ l.length ∨ i = 1) } => [(8, 0, .av (intV ((i.1 : Nat)))), (0, 0, .av (.one (.cel (.rf 0 l.length)))), (0, 1, .row (.gen 3 ((srt l i.1).map ratCells))), (0, 2, .ext p), (1, 0, .av (intV (0))), (2, 0, .av (intV ((l.length : Nat)))), (3, 0, .av (.one (.cel (.fn 83))))]) (fun i => l.length - i.1) ⟨1, by omega, .inr rfl⟩ (le_of ?_) ?_
    · have hs1 : srt l 1 = l := rfl
      simp only [go_sem, leL, hs1, Int.natCast_one, Nat.reduceBEq, Nat.reduceBNe, Nat.reduceLT, Nat.reduceLeDiff, Nat.reduceAdd, Nat.reduceSub, Nat.reduceMul, Nat.reduceEqDiff, Int.reduceNeg, Int.reduceAdd, Int.reduceLT, Int.reduceLE, Int.reduceToNat, ↓reduceIte]
      try and_intros
      all_goals try rfl
    · rintro ⟨i, hi1, hi2⟩
      by_cases hi : i < l.length
      · have hit : (((i : Nat) : Int) < ((l.length : Nat) : Int)) = True := eq_true (by omega)
        have hsl := srt_len l i
        simp only [go_sem, endsM, d_rat_Cmp, denSort, insPre, staPre, srtPre, fz_chg, chgOut, chgAV, chgEff, valEff, chgB, chgK, rowOf, cvRow, rowsRats_map, startOf, Int.ofNat_lt, decide_true, decide_false, Int.toNat_natCast, hit, Nat.reduceBEq, Nat.reduceBNe, Nat.reduceLT, Nat.reduceLeDiff, Nat.reduceAdd, Nat.reduceSub, Nat.reduceMul, Nat.reduceEqDiff, Int.reduceNeg, Int.reduceAdd, Int.reduceLT, Int.reduceLE, Int.reduceToNat, ↓reduceIte]
        refine codeK_loop (fun x : { x : Nat × List RR // x.1 ≤ i ∧ x.2.length = l.length ∧ insAt x.2 x.1 = srt l (i + 1) ∧ ∀ r ∈ x.2, r.sz ≤ 1000 } => [(9, 0, .av (intV ((x.1.1 : Nat)))), (8, 0, .av (intV ((i : Nat)))), (0, 0, .av (.one (.cel (.rf 0 l.length)))), (0, 1, .row (.gen 3 ((x.1.2).map ratCells))), (0, 2, .ext p), (1, 0, .av (intV (0))), (2, 0, .av (intV ((l.length : Nat)))), (3, 0, .av (.one (.cel (.fn 83))))]) (fun x => x.1.1) ⟨(i, srt l i), Nat.le_refl _, hsl, rfl, fun r hr => h5 r (srt_mem (by omega) hr)⟩ (le_of ?_) ?_
        · simp only [go_sem, leL, Nat.reduceBEq, Nat.reduceBNe, Nat.reduceLT, Nat.reduceLeDiff, Nat.reduceAdd, Nat.reduceSub, Nat.reduceMul, Nat.reduceEqDiff, Int.reduceNeg, Int.reduceAdd, Int.reduceLT, Int.reduceLE, Int.reduceToNat, ↓reduceIte]
        · rintro ⟨⟨j, L⟩, hj, hL, hins, hsz⟩
          have hj : j ≤ i := hj
          have hL : L.length = l.length := hL
          have hins : insAt L j = srt l (i + 1) := hins
          have hsz : ∀ r ∈ L, r.sz ≤ 1000 := hsz
          have hmapl : (L.map ratCells).length = l.length := by rw [List.length_map]; exact hL
          by_cases hj0 : 0 < j
          · have hjt : ((0 : Int) < ((j : Nat) : Int)) = True := eq_true (by omega)
            have hti : (((j : Nat) : Int) - 1).toNat = j - 1 := by omega
            have g1 : (L.map ratCells).getD j [] = ratCells (L.getD j rr0) := getD_rats (by omega)
            have g2 : (L.map ratCells).getD (j - 1) [] = ratCells (L.getD (j - 1) rr0) := getD_rats (by omega)
            have m1 := hsz _ (getD_mem (d := rr0) (l := L) (i := j) (by omega))
            have m2 := hsz _ (getD_mem (d := rr0) (l := L) (i := j - 1) (by omega))
            obtain ⟨jj, rfl⟩ : ∃ jj, j = jj + 1 := ⟨j - 1, by omega⟩
            rw [show jj + 1 - 1 = jj by omega] at *
            by_cases c : (L.getD (jj + 1) rr0).q < (L.getD jj rr0).q
            · have ct := eq_true c
              have hy := insAt_yes c
              have hsw := swap_cells2 L (jj + 1) jj
              have hsl2 := swapL_len L (jj + 1) jj
              simp only [go_sem, endsM, d_rat_Cmp, denSort, insPre, staPre, srtPre, fz_chg, chgOut, chgAV, chgEff, valEff, chgB, chgK, rowOf, cvRow, rowsRats_map, startOf, Int.ofNat_lt, decide_true, decide_false, Int.toNat_natCast, hjt, hti, hmapl, g1, g2, ct, hsw, Nat.reduceBEq, Nat.reduceBNe, Nat.reduceLT, Nat.reduceLeDiff, Nat.reduceAdd, Nat.reduceSub, Nat.reduceMul, Nat.reduceEqDiff, Int.reduceNeg, Int.reduceAdd, Int.reduceLT, Int.reduceLE, Int.reduceToNat, ↓reduceIte]
              and_intros
              all_goals try (first | exact trivial | omega | rfl | (simp only [RC.len, RC.t, List.length_map, List.length_set]; omega) | (simp only [RC.len, RC.t, List.length_map, List.length_set]) | (show okDraw _ _ = true; kernel_rfl))
              refine ⟨⟨(jj, swapL L (jj + 1) jj), by show jj ≤ i; omega, by show (swapL L (jj + 1) jj).length = l.length; omega, by show insAt (swapL L (jj + 1) jj) jj = _; rw [← hy]; exact hins, fun r hr => hsz r (swapL_mem (by omega) (by omega) hr)⟩, by show jj < jj + 1; omega, le_of ?_⟩
              simp only [go_sem, leL, hsw, Nat.reduceBEq, Nat.reduceBNe, Nat.reduceLT, Nat.reduceLeDiff, Nat.reduceAdd, Nat.reduceSub, Nat.reduceMul, Nat.reduceEqDiff, Int.reduceNeg, Int.reduceAdd, Int.reduceLT, Int.reduceLE, Int.reduceToNat, ↓reduceIte]
              try omega
            · have ct := eq_false c
              have hy := insAt_no c
              rw [hy] at hins
              subst hins
              simp only [go_sem, endsM, d_rat_Cmp, denSort, insPre, staPre, srtPre, fz_chg, chgOut, chgAV, chgEff, valEff, chgB, chgK, rowOf, cvRow, rowsRats_map, startOf, Int.ofNat_lt, decide_true, decide_false, Int.toNat_natCast, hjt, hti, hmapl, g1, g2, ct, Nat.reduceBEq, Nat.reduceBNe, Nat.reduceLT, Nat.reduceLeDiff, Nat.reduceAdd, Nat.reduceSub, Nat.reduceMul, Nat.reduceEqDiff, Int.reduceNeg, Int.reduceAdd, Int.reduceLT, Int.reduceLE, Int.reduceToNat, ↓reduceIte]
              and_intros
              all_goals try (first | exact trivial | omega | rfl | (simp only [RC.len, RC.t, List.length_map, List.length_set]; omega) | (simp only [RC.len, RC.t, List.length_map, List.length_set]) | (show okDraw _ _ = true; kernel_rfl))
              refine ⟨⟨i + 1, by omega, .inl (by omega)⟩, by show l.length - (i + 1) < l.length - i; omega, le_of ?_⟩
              simp only [go_sem, leL, Nat.reduceBEq, Nat.reduceBNe, Nat.reduceLT, Nat.reduceLeDiff, Nat.reduceAdd, Nat.reduceSub, Nat.reduceMul, Nat.reduceEqDiff, Int.reduceNeg, Int.reduceAdd, Int.reduceLT, Int.reduceLE, Int.reduceToNat, ↓reduceIte]
              try omega
          · have hjt : ((0 : Int) < ((j : Nat) : Int)) = False := eq_false (by omega)
            have ej : j = 0 := by omega
            subst ej
            rw [insAt_zero] at hins
            subst hins
            simp only [go_sem, endsM, d_rat_Cmp, denSort, insPre, staPre, srtPre, fz_chg, chgOut, chgAV, chgEff, valEff, chgB, chgK, rowOf, cvRow, rowsRats_map, startOf, Int.ofNat_lt, decide_true, decide_false, Int.toNat_natCast, hjt, hmapl, Nat.reduceBEq, Nat.reduceBNe, Nat.reduceLT, Nat.reduceLeDiff, Nat.reduceAdd, Nat.reduceSub, Nat.reduceMul, Nat.reduceEqDiff, Int.reduceNeg, Int.reduceAdd, Int.reduceLT, Int.reduceLE, Int.reduceToNat, ↓reduceIte]
            and_intros
            all_goals try (first | exact trivial | omega | rfl | (simp only [RC.len, RC.t, List.length_map, List.length_set]; omega) | (simp only [RC.len, RC.t, List.length_map, List.length_set]) | (show okDraw _ _ = true; kernel_rfl))
            refine ⟨⟨i + 1, by omega, .inl (by omega)⟩, by show l.length - (i + 1) < l.length - i; omega, le_of ?_⟩
            simp only [go_sem, leL, Nat.reduceBEq, Nat.reduceBNe, Nat.reduceLT, Nat.reduceLeDiff, Nat.reduceAdd, Nat.reduceSub, Nat.reduceMul, Nat.reduceEqDiff, Int.reduceNeg, Int.reduceAdd, Int.reduceLT, Int.reduceLE, Int.reduceToNat, ↓reduceIte]
            try omega
      · have hit : (((i : Nat) : Int) < ((l.length : Nat) : Int)) = False := eq_false (by omega)
        have hend : srt l i = isort l := by
          rcases Nat.eq_or_lt_of_le (show l.length ≤ i by omega) with e | e
          · rw [← e]; rfl
          · have hl0 : l.length = 0 := by omega
            have h1 : i = 1 := by omega
            subst h1
            unfold isort
            rw [hl0]
            rfl
        simp only [go_sem, endsM, d_rat_Cmp, denSort, insPre, staPre, srtPre, fz_chg, chgOut, chgAV, chgEff, valEff, chgB, chgK, rowOf, cvRow, rowsRats_map, startOf, Int.ofNat_lt, decide_true, decide_false, Int.toNat_natCast, hit, hend, Nat.reduceBEq, Nat.reduceBNe, Nat.reduceLT, Nat.reduceLeDiff, Nat.reduceAdd, Nat.reduceSub, Nat.reduceMul, Nat.reduceEqDiff, Int.reduceNeg, Int.reduceAdd, Int.reduceLT, Int.reduceLE, Int.reduceToNat, ↓reduceIte]
        try exact ⟨rfl, rfl⟩
  · exact hk.elim


end Go.Proofs.Ytifnpelkoklcnaa

namespace Go.Proofs.Ytifnpelkoklcnaa
open Go.RowKit
set_option linter.unusedSimpArgs false
set_option linter.unusedVariables false

set_option maxRecDepth 100000 in
set_option maxHeartbeats 4000000 in
theorem sm_slices_stable : SoundM Try.prog 143 (denSort staPre) := by
  refine soundM_of_awp (envOk (fz := fz_chg) TT_ok (l := [(83, d_rat_Cmp), (2000000 + 158, denSort insPre)]) ⟨s_rat_Cmp, sm_slices_ins, trivial⟩) mixed Try.func143 rfl Try.ntmps143 Try.results143 Try.call143 ?_
  intro r avs hd hok X w vs hvs
  obtain ⟨l, rfl, hk, hr⟩ := denSort_inv hd
  unfold staPre at hk
  split at hk
  · rename_i y f
    obtain ⟨rfl, rfl, h2, h5⟩ := hk
    refine ⟨_, .gen 3 ((isort l).map ratCells), by rw [hr]; rfl, by simp [RC.len, isort_len], rfl, fun X w vs h => h, by show _ ≤ _; simp; try omega, rfl, fun p => ?_⟩
    have hlen := h2
    have hil := isort_len l
    rw [codeK_start]
    have hle : (20 ≤ ((l.length : Nat) : Int)) = False := eq_false (by omega)
    have hlt : (20 < ((l.length : Nat) : Int)) = False := eq_false (by omega)
    have hil2 : ((isort l).map ratCells).length = l.length := by rw [List.length_map]; exact hil
    simp only [go_sem, endsM, d_rat_Cmp, denSort, insPre, staPre, srtPre, fz_chg, chgOut, chgAV, chgEff, valEff, chgB, chgK, rowOf, cvRow, rowsRats_map, startOf, Int.ofNat_lt, decide_true, decide_false, Int.toNat_natCast, hle, hlt, hil, Nat.reduceBEq, Nat.reduceBNe, Nat.reduceLT, Nat.reduceLeDiff, Nat.reduceAdd, Nat.reduceSub, Nat.reduceMul, Nat.reduceEqDiff, Int.reduceNeg, Int.reduceAdd, Int.reduceLT, Int.reduceLE, Int.reduceToNat, ↓reduceIte]
    refine codeK_loop (fun _ : Unit => [(0, 0, .av (.one (.cel (.rf 0 l.length)))), (0, 1, .row (.gen 3 ((l).map ratCells))), (0, 2, .ext p), (1, 0, .av (intV ((l.length : Nat)))), (2, 0, .av (.one (.cel (.fn 83)))), (6, 0, .av (intV (20))), (7, 0, .av (intV (0))), (8, 0, .av (intV (20)))]) (fun _ => 0) () (le_of ?_) ?_
    · simp only [go_sem, leL, Nat.reduceBEq, Nat.reduceBNe, Nat.reduceLT, Nat.reduceLeDiff, Nat.reduceAdd, Nat.reduceSub, Nat.reduceMul, Nat.reduceEqDiff, Int.reduceNeg, Int.reduceAdd, Int.reduceLT, Int.reduceLE, Int.reduceToNat, ↓reduceIte]
    · rintro ⟨⟩
      simp only [go_sem, endsM, d_rat_Cmp, denSort, insPre, staPre, srtPre, fz_chg, chgOut, chgAV, chgEff, valEff, chgB, chgK, rowOf, cvRow, rowsRats_map, startOf, Int.ofNat_lt, decide_true, decide_false, Int.toNat_natCast, hle, hlt, hil, Nat.reduceBEq, Nat.reduceBNe, Nat.reduceLT, Nat.reduceLeDiff, Nat.reduceAdd, Nat.reduceSub, Nat.reduceMul, Nat.reduceEqDiff, Int.reduceNeg, Int.reduceAdd, Int.reduceLT, Int.reduceLE, Int.reduceToNat, ↓reduceIte]
      and_intros
      all_goals try (first | exact trivial | omega | rfl | assumption | (simp only [RC.len, RC.t, List.length_map, List.length_set]; omega) | (simp only [RC.len, RC.t, List.length_map, List.length_set]) | (show okDraw _ _ = true; kernel_rfl))
      refine codeK_loop (fun _ : Unit => [(0, 0, .av (.one (.cel (.rf 0 l.length)))), (0, 1, .row (.gen 3 ((isort l).map ratCells))), (0, 2, .ext p), (1, 0, .av (intV ((l.length : Nat)))), (2, 0, .av (.one (.cel (.fn 83)))), (6, 0, .av (intV (20)))]) (fun _ => 0) () (le_of ?_) ?_
      · simp only [go_sem, leL, Nat.reduceBEq, Nat.reduceBNe, Nat.reduceLT, Nat.reduceLeDiff, Nat.reduceAdd, Nat.reduceSub, Nat.reduceMul, Nat.reduceEqDiff, Int.reduceNeg, Int.reduceAdd, Int.reduceLT, Int.reduceLE, Int.reduceToNat, ↓reduceIte]
      · rintro ⟨⟩
        simp only [go_sem, endsM, d_rat_Cmp, denSort, insPre, staPre, srtPre, fz_chg, chgOut, chgAV, chgEff, valEff, chgB, chgK, rowOf, cvRow, rowsRats_map, startOf, Int.ofNat_lt, decide_true, decide_false, Int.toNat_natCast, hle, hlt, hil, Nat.reduceBEq, Nat.reduceBNe, Nat.reduceLT, Nat.reduceLeDiff, Nat.reduceAdd, Nat.reduceSub, Nat.reduceMul, Nat.reduceEqDiff, Int.reduceNeg, Int.reduceAdd, Int.reduceLT, Int.reduceLE, Int.reduceToNat, ↓reduceIte]
        try exact ⟨rfl, rfl⟩
  · exact hk.elim

set_option maxRecDepth 100000 in
set_option maxHeartbeats 4000000 in
theorem sm_slices_SortStable : SoundM Try.prog 106 (denSort srtPre) := by
  refine soundM_of_awp (envOk (fz := fz_chg) TT_ok (l := [(83, d_rat_Cmp), (2000000 + 143, denSort staPre)]) ⟨s_rat_Cmp, sm_slices_stable, trivial⟩) mixed Try.func106 rfl Try.ntmps106 Try.results106 Try.call106 ?_
  intro r avs hd hok X w vs hvs
  obtain ⟨l, rfl, hk, hr⟩ := denSort_inv hd
  unfold srtPre at hk
  split at hk
  · rename_i f
    obtain ⟨rfl, h2, h5⟩ := hk
    refine ⟨_, .gen 3 ((isort l).map ratCells), by rw [hr]; rfl, by simp [RC.len, isort_len], rfl, fun X w vs h => h, by show _ ≤ _; simp; try omega, rfl, fun p => ?_⟩
    have hlen := h2
    have hil := isort_len l
    rw [codeK_start]
    have hil2 : ((isort l).map ratCells).length = l.length := by rw [List.length_map]; exact hil
    simp only [go_sem, endsM, d_rat_Cmp, denSort, insPre, staPre, srtPre, fz_chg, chgOut, chgAV, chgEff, valEff, chgB, chgK, rowOf, cvRow, rowsRats_map, startOf, Int.ofNat_lt, decide_true, decide_false, Int.toNat_natCast, hil, Nat.reduceBEq, Nat.reduceBNe, Nat.reduceLT, Nat.reduceLeDiff, Nat.reduceAdd, Nat.reduceSub, Nat.reduceMul, Nat.reduceEqDiff, Int.reduceNeg, Int.reduceAdd, Int.reduceLT, Int.reduceLE, Int.reduceToNat, ↓reduceIte]
    and_intros
    all_goals try (first | exact trivial | omega | rfl | assumption | (simp only [RC.len, RC.t, List.length_map, List.length_set]; omega) | (simp only [RC.len, RC.t, List.length_map, List.length_set]) | (show okDraw _ _ = true; kernel_rfl))
  · exact hk.elim


end Go.Proofs.Ytifnpelkoklcnaa
