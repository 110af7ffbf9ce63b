/- slices.stableCmpFunc and SortStableFunc over a row of rationals of one's own, by the abstract walk. Condition: rows of fewer than 20 numbers of at most 1000 limbs: they are one block. -/
import Derived.Test.YtpppgmgdcpaffaaLb
namespace Go.Proofs.Ytpppgmgdcpaffaa
open Go.RowKit
set_option linter.unusedSimpArgs false
set_option linter.unusedVariables false

set_option maxRecDepth 100000 in
set_option maxHeartbeats 4000000 in
theorem sm_slices_stable : SoundM Try.prog 126 (denSort staPre) := by
  refine soundM_of_awp (envOk (fz := fz_chg) TT_ok (l := [(87, d_rat_Cmp), (2000000 + 137, denSort insPre)]) ⟨s_rat_Cmp, sm_slices_ins, trivial⟩) mixed Try.func126 rfl Try.ntmps126 Try.results126 Try.call126 ?_
  intro r avs hd hok X w vs hvs
  obtain ⟨l, rfl, hk, hr⟩ := denSort_inv hd
  unfold staPre at hk
  split at hk
  · rename_i y f
    obtain ⟨rfl, rfl, h2, h5⟩ := hk
    refine ⟨_, .gen 3 ((isort l).map ratCells), by rw [hr]; rfl, by simp [RC.len, isort_len], rfl, fun X w vs h => h, by show _ ≤ _; simp; try omega, rfl, fun p => ?_⟩
    have hlen := h2
    have hil := isort_len l
    rw [codeK_start]
    have hle : (20 ≤ ((l.length : Nat) : Int)) = False := eq_false (by omega)
    have hlt : (20 < ((l.length : Nat) : Int)) = False := eq_false (by omega)
    have hil2 : ((isort l).map ratCells).length = l.length := by rw [List.length_map]; exact hil
    simp only [go_sem, endsM, d_rat_Cmp, denSort, insPre, staPre, srtPre, fz_chg, chgOut, chgAV, chgEff, valEff, chgB, chgK, rowOf, cvRow, rowsRats_map, startOf, Int.ofNat_lt, decide_true, decide_false, Int.toNat_natCast, hle, hlt, hil, Nat.reduceBEq, Nat.reduceBNe, Nat.reduceLT, Nat.reduceLeDiff, Nat.reduceAdd, Nat.reduceSub, Nat.reduceMul, Nat.reduceEqDiff, Int.reduceNeg, Int.reduceAdd, Int.reduceLT, Int.reduceLE, Int.reduceToNat, ↓reduceIte]
    refine codeK_loop (fun _ : Unit => [(0, 0, .av (.one (.cel (.rf 0 l.length)))), (0, 1, .row (.gen 3 ((l).map ratCells))), (0, 2, .ext p), (1, 0, .av (intV ((l.length : Nat)))), (2, 0, .av (.one (.cel (.fn 87)))), (6, 0, .av (intV (20))), (7, 0, .av (intV (0))), (8, 0, .av (intV (20)))]) (fun _ => 0) () (le_of ?_) ?_
    · simp only [go_sem, leL, Nat.reduceBEq, Nat.reduceBNe, Nat.reduceLT, Nat.reduceLeDiff, Nat.reduceAdd, Nat.reduceSub, Nat.reduceMul, Nat.reduceEqDiff, Int.reduceNeg, Int.reduceAdd, Int.reduceLT, Int.reduceLE, Int.reduceToNat, ↓reduceIte]
    · rintro ⟨⟩
      simp only [go_sem, endsM, d_rat_Cmp, denSort, insPre, staPre, srtPre, fz_chg, chgOut, chgAV, chgEff, valEff, chgB, chgK, rowOf, cvRow, rowsRats_map, startOf, Int.ofNat_lt, decide_true, decide_false, Int.toNat_natCast, hle, hlt, hil, Nat.reduceBEq, Nat.reduceBNe, Nat.reduceLT, Nat.reduceLeDiff, Nat.reduceAdd, Nat.reduceSub, Nat.reduceMul, Nat.reduceEqDiff, Int.reduceNeg, Int.reduceAdd, Int.reduceLT, Int.reduceLE, Int.reduceToNat, ↓reduceIte]
      and_intros
      all_goals try (first | exact trivial | omega | rfl | assumption | (simp only [RC.len, RC.t, List.length_map, List.length_set]; omega) | (simp only [RC.len, RC.t, List.length_map, List.length_set]) | (show okDraw _ _ = true; kernel_rfl))
      refine codeK_loop (fun _ : Unit => [(0, 0, .av (.one (.cel (.rf 0 l.length)))), (0, 1, .row (.gen 3 ((isort l).map ratCells))), (0, 2, .ext p), (1, 0, .av (intV ((l.length : Nat)))), (2, 0, .av (.one (.cel (.fn 87)))), (6, 0, .av (intV (20)))]) (fun _ => 0) () (le_of ?_) ?_
      · simp only [go_sem, leL, Nat.reduceBEq, Nat.reduceBNe, Nat.reduceLT, Nat.reduceLeDiff, Nat.reduceAdd, Nat.reduceSub, Nat.reduceMul, Nat.reduceEqDiff, Int.reduceNeg, Int.reduceAdd, Int.reduceLT, Int.reduceLE, Int.reduceToNat, ↓reduceIte]
      · rintro ⟨⟩
        simp only [go_sem, endsM, d_rat_Cmp, denSort, insPre, staPre, srtPre, fz_chg, chgOut, chgAV, chgEff, valEff, chgB, chgK, rowOf, cvRow, rowsRats_map, startOf, Int.ofNat_lt, decide_true, decide_false, Int.toNat_natCast, hle, hlt, hil, Nat.reduceBEq, Nat.reduceBNe, Nat.reduceLT, Nat.reduceLeDiff, Nat.reduceAdd, Nat.reduceSub, Nat.reduceMul, Nat.reduceEqDiff, Int.reduceNeg, Int.reduceAdd, Int.reduceLT, Int.reduceLE, Int.reduceToNat, ↓reduceIte]
        try exact ⟨rfl, rfl⟩
  · exact hk.elim

set_option maxRecDepth 100000 in
set_option maxHeartbeats 4000000 in
theorem sm_slices_SortStable : SoundM Try.prog 104 (denSort srtPre) := by
  refine soundM_of_awp (envOk (fz := fz_chg) TT_ok (l := [(87, d_rat_Cmp), (2000000 + 126, denSort staPre)]) ⟨s_rat_Cmp, sm_slices_stable, trivial⟩) mixed Try.func104 rfl Try.ntmps104 Try.results104 Try.call104 ?_
  intro r avs hd hok X w vs hvs
  obtain ⟨l, rfl, hk, hr⟩ := denSort_inv hd
  unfold srtPre at hk
  split at hk
  · rename_i f
    obtain ⟨rfl, h2, h5⟩ := hk
    refine ⟨_, .gen 3 ((isort l).map ratCells), by rw [hr]; rfl, by simp [RC.len, isort_len], rfl, fun X w vs h => h, by show _ ≤ _; simp; try omega, rfl, fun p => ?_⟩
    have hlen := h2
    have hil := isort_len l
    rw [codeK_start]
    have hil2 : ((isort l).map ratCells).length = l.length := by rw [List.length_map]; exact hil
    simp only [go_sem, endsM, d_rat_Cmp, denSort, insPre, staPre, srtPre, fz_chg, chgOut, chgAV, chgEff, valEff, chgB, chgK, rowOf, cvRow, rowsRats_map, startOf, Int.ofNat_lt, decide_true, decide_false, Int.toNat_natCast, hil, Nat.reduceBEq, Nat.reduceBNe, Nat.reduceLT, Nat.reduceLeDiff, Nat.reduceAdd, Nat.reduceSub, Nat.reduceMul, Nat.reduceEqDiff, Int.reduceNeg, Int.reduceAdd, Int.reduceLT, Int.reduceLE, Int.reduceToNat, ↓reduceIte]
    and_intros
    all_goals try (first | exact trivial | omega | rfl | assumption | (simp only [RC.len, RC.t, List.length_map, List.length_set]; omega) | (simp only [RC.len, RC.t, List.length_map, List.length_set]) | (show okDraw _ _ = true; kernel_rfl))
  · exact hk.elim


end Go.Proofs.Ytpppgmgdcpaffaa
