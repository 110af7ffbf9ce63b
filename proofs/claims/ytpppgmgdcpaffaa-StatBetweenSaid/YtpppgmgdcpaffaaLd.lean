/- stat.Sorted by the abstract walk. Condition: rows of fewer than 20 numbers of at most 1000 limbs. -/
import Derived.Test.YtpppgmgdcpaffaaLc
import Derived.Test.YtpppgmgdcpaffaaDa
namespace Go.Proofs.Ytpppgmgdcpaffaa
open Go.RowKit
set_option linter.unusedSimpArgs false
set_option linter.unusedVariables false

def fz_stat_Sorted : Nat → List Nat
  | 16 => [1003]
  | 1000011 => [1]
  | _ => []
def sortR (a : List RR) : List RR := isort (mkL (atQ a) a.length)

def d_stat_Sorted : Den := den1 aRats (fun a => a.length < 20 ∧ ∀ r ∈ a, r.sz ≤ 1000) fun a => ratsV (sortR a)
set_option maxRecDepth 100000 in
set_option maxHeartbeats 4000000 in
theorem s_stat_Sorted : Sound Try.prog 65 d_stat_Sorted := by
  refine sound1 (fz := fz_stat_Sorted) (l := [(21, d_rat_Norm), (2000000 + 104, denSort srtPre)]) TT_ok ⟨s_rat_Norm, sm_slices_SortStable, trivial⟩ mixed Try.func65 Try.ntmps65 Try.results65 Try.call65 rfl (by omega) (fun _ => rfl) ?_
  intro a hp ha
  rw [codeK_start]
  have hq := rs_atQ ha hp.2 (by omega)
  simp only [go_sem, d_rat_Norm, fz_stat_Sorted, chgOut, chgAV, chgEff, valEff, chgB, chgK, rowOf, cvRow, denSort, srtPre, rowsRats_map, Nat.reduceBEq, Nat.reduceBNe, Nat.reduceLT, Nat.reduceLeDiff, Nat.reduceAdd, Nat.reduceSub, Nat.reduceMul, Nat.reduceEqDiff, Int.reduceNeg, Int.reduceAdd, Int.reduceLT, Int.reduceLE, Int.reduceToNat, ↓reduceIte]
  refine codeK_loop (fun i : { i : Nat // i ≤ a.length } => [(8, 0, .av (intV ((i.1 : Nat)))), (7, 0, .av (intV ((a.length : Nat)))), (6, 0, .av (ratsV a)), (3, 0, .av (.one (.cel (.rf 1003 i.1)))), (1003, 1, .row (.gen 3 ((mkL (atQ a) i.1).map ratCells)))]) (fun i => a.length - i.1) ⟨0, by omega⟩ ?_ ?_
  · refine le_nil 3 1003 (.gen 3 []) (by rfl) (by kernel_rfl) ⟨by omega, trivial⟩ rfl (le_of ?_)
    simp only [go_sem, leL, Nat.reduceBEq, Nat.reduceBNe, Nat.reduceLT, Nat.reduceLeDiff, Nat.reduceAdd, Nat.reduceSub, Nat.reduceMul, Nat.reduceEqDiff, Int.reduceNeg, Int.reduceAdd, Int.reduceLT, Int.reduceLE, Int.reduceToNat, ↓reduceIte, mkL_zero, Int.ofNat_zero, Int.natCast_zero, Int.cast_ofNat_Int]
  · rintro ⟨i, hi0⟩
    have hi0 : i ≤ a.length := hi0
    by_cases hi : i < a.length
    · have hm := hp.2 _ (getD_mem (d := rr0) hi)
      have hln := mkL_len (atQ a) i
      have hrow : (mkL (atQ a) i).map ratCells ++ [[.bool (cr (a.getD i rr0).q).s, .lim none (cr (a.getD i rr0).q).n, .lim none (cr (a.getD i rr0).q).d]] = (mkL (atQ a) (i + 1)).map ratCells := mkL_cells (atQ a) i
      have hln2 := mkL_len (atQ a) (i + 1)
      simp only [go_sem, d_rat_Norm, fz_stat_Sorted, chgOut, chgAV, chgEff, valEff, chgB, chgK, rowOf, cvRow, denSort, srtPre, rowsRats_map, getD_rats hi, getD_ratsI hi, Int.ofNat_lt, hi, Nat.reduceBEq, Nat.reduceBNe, Nat.reduceLT, Nat.reduceLeDiff, Nat.reduceAdd, Nat.reduceSub, Nat.reduceMul, Nat.reduceEqDiff, Int.reduceNeg, Int.reduceAdd, Int.reduceLT, Int.reduceLE, Int.reduceToNat, ↓reduceIte]
      and_intros
      all_goals try (first | exact trivial | omega | rfl | assumption | (simp only [RC.len, RC.t, List.length_map, List.length_set]; omega) | (simp only [RC.len, RC.t, List.length_map, List.length_set]) | (show okDraw _ _ = true; kernel_rfl))
      refine ⟨⟨i + 1, by omega⟩, by show a.length - (i + 1) < a.length - i; omega, ?_⟩
      refine Le.trans (b := [(8, 0, .av (intV (((i + 1) : Nat)))), (7, 0, .av (intV ((a.length : Nat)))), (6, 0, .av (ratsV a)), (3, 0, .av (.one (.cel (.rf 16 (i + 1))))), (16, 1, .row (.gen 3 ((mkL (atQ a) (i + 1)).map ratCells)))]) (le_of ?_) (le_ren 16 1003 (c := .gen 3 ((mkL (atQ a) (i + 1)).map ratCells)) (by rfl) (by kernel_rfl) (le_of ?_))
      · simp only [go_sem, leL, hrow, hln2, Nat.reduceBEq, Nat.reduceBNe, Nat.reduceLT, Nat.reduceLeDiff, Nat.reduceAdd, Nat.reduceSub, Nat.reduceMul, Nat.reduceEqDiff, Int.reduceNeg, Int.reduceAdd, Int.reduceLT, Int.reduceLE, Int.reduceToNat, ↓reduceIte]
        omega
      · simp only [go_sem, leL, Nat.reduceBEq, Nat.reduceBNe, Nat.reduceLT, Nat.reduceLeDiff, Nat.reduceAdd, Nat.reduceSub, Nat.reduceMul, Nat.reduceEqDiff, Int.reduceNeg, Int.reduceAdd, Int.reduceLT, Int.reduceLE, Int.reduceToNat, ↓reduceIte]
    · simp only [go_sem, d_rat_Norm, fz_stat_Sorted, chgOut, chgAV, chgEff, valEff, chgB, chgK, rowOf, cvRow, denSort, srtPre, rowsRats_map, Int.ofNat_lt, hi, Nat.reduceBEq, Nat.reduceBNe, Nat.reduceLT, Nat.reduceLeDiff, Nat.reduceAdd, Nat.reduceSub, Nat.reduceMul, Nat.reduceEqDiff, Int.reduceNeg, Int.reduceAdd, Int.reduceLT, Int.reduceLE, Int.reduceToNat, ↓reduceIte]
      have e : i = a.length := by omega
      subst e
      have hln := mkL_len (atQ a) a.length
      have hil := isort_len (mkL (atQ a) a.length)
      exact ⟨⟨hln.symm, by omega, mkL_sz (fun i _ => hq i)⟩, by omega, by rw [List.take_of_length_le (by rw [List.length_map]; omega)]; rfl⟩


end Go.Proofs.Ytpppgmgdcpaffaa
