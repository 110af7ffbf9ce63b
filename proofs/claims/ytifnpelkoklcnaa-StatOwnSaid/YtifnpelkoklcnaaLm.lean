/- stat.Sorted handed a row of the caller's own, by the abstract walk. Condition: rows of fewer than 20 numbers of at most 1000 limbs. -/
import Derived.Test.YtifnpelkoklcnaaLd
namespace Go.Proofs.Ytifnpelkoklcnaa
open Go.RowKit
set_option linter.unusedSimpArgs false
set_option linter.unusedVariables false

def denSorted : Den := fun avs => match avs with
  | [.one (.cel (.sl none t rows))] => if (t == 3) = true then match rowsRats rows with
      | some l => (rows = l.map ratCells ∧ (∀ r ∈ l, r.ok) ∧ l.length < 20 ∧ ∀ r ∈ l, r.sz ≤ 1000, .tup [.cel (.sl none 3 rows), .cel (.sl none 3 ((sortR l).map ratCells))])
      | none => no
    else no
  | _ => no
theorem denSorted_inv {r : RC} {rest : List AV} (h : (denSorted (.one (.cel (cvRow (some r))) :: rest)).1) :
    ∃ l, rest = [] ∧ r = .gen 3 (l.map ratCells) ∧ (∀ r ∈ l, r.ok) ∧ l.length < 20 ∧ (∀ r ∈ l, r.sz ≤ 1000) ∧ (denSorted (.one (.cel (cvRow (some r))) :: rest)).2 = .tup [.cel (.sl none 3 (l.map ratCells)), .cel (.sl none 3 ((sortR l).map ratCells))] := by
  cases rest with
  | cons x y => simp [denSorted, cvRow, no] at h
  | nil =>
    cases r with
    | u32 xs => simp [denSorted, cvRow, no] at h
    | gen t rows =>
      simp only [denSorted, cvRow] at h ⊢
      split at h
      · rename_i ht
        rw [if_pos ht]
        rw [beq_iff_eq] at ht
        split at h
        · rename_i l hl
          exact ⟨l, trivial, by rw [ht, h.1], h.2.1, h.2.2.1, h.2.2.2, by rw [h.1]⟩
        · exact h.elim
      · exact h.elim
/-- of a function that is handed a row of the caller's own: it leaves the row -/
def denAny (d : Den) : Den := fun avs => match avs with
  | .one (.cel (.sl none t rows)) :: rest => ((d (.one (.cel (.sl none t rows)) :: rest)).1, .tup [.cel (.sl none t rows)])
  | _ => no
theorem soundM_any {P : Program} {f : Nat} {d : Den} (h : Sound P f d) : SoundM P f (denAny d) := by
  refine ⟨h.call, fun c avs X w vs b cap ao hd hok hX hat hvs => ?_⟩
  cases c with
  | u32 xs => exact hd.elim
  | gen t rows =>
    obtain ⟨a1, a2, a3, a4⟩ := hat
    have hd : (d (.one (.cel (.sl none t rows)) :: avs)).1 := hd
    have hevo : Evo X w (fun k o => X k o ∧ ¬ (0 < cap ∧ k = b)) w := ⟨Nat.le_refl _, fun k o _ hx => ⟨rfl, fun h => hx h.1⟩⟩
    have hP : CV.P (fun k o => X k o ∧ ¬ (0 < cap ∧ k = b)) w (.sl none t rows) (.slice ao rows.length cap) := by
      simp only [CV.P]
      refine ⟨ao, cap, rfl, a1, fun h => ?_, fun hp => ?_⟩
      · rcases a2 with ⟨_, _, h'⟩ | h'
        · exact h'
        · rw [h] at h'; cases h'
      · have hcp : 0 < cap := Nat.lt_of_lt_of_le hp a1
        have hao : ao = some ⟨b, 0, none⟩ := by
          rcases a2 with ⟨_, _, h'⟩ | h'
          · omega
          · exact h'
        refine ⟨b, 0, hao, rowsP_flat' _ 0 hok.2 fun j x hx => ?_⟩
        obtain ⟨u, hu, hP⟩ := a4 j x hx
        exact ⟨u, ⟨(a3 hcp).1, fun h => h.2 ⟨hcp, rfl⟩, by rw [Nat.zero_add]; exact hu⟩, CV.P.evo hevo x hP⟩
    refine (h.runs _ _ w _ hd (fun k o hx => hX k o hx.1) (.cons hP (hvs.imp fun a v h => AV.P.evo' hevo h))).mono ?_
    rintro e w' ⟨v, rfl, _, hb⟩
    refine ⟨v, rfl, trivial, .gen t rows, rfl, hok, rfl, rfl, ⟨a1, a2, fun hp => ?_, fun j x hx => ?_⟩, hb.os, hb.tape, hb.output, hb.size, fun k hk _ => hb.block k hk⟩
    · obtain ⟨q1, q2, q3⟩ := a3 hp
      exact ⟨Nat.lt_of_lt_of_le q1 hb.size, q2, fun j hj => by rw [hb.frozen (p := ⟨b, j, none⟩) q1, hb.cell (p := ⟨b, j, none⟩) q1]; exact q3 j hj⟩
    · obtain ⟨u, hu, hP⟩ := a4 j x hx
      rcases Nat.eq_zero_or_pos cap with e | hp
      · have hl : rows.length = 0 := by
          have : rows.length ≤ cap := a1
          omega
        have hn : rows = [] := List.eq_nil_of_length_eq_zero hl
        subst hn
        exact absurd hx (by simp [RC.flat])
      · exact ⟨u, by rw [hb.cell (p := ⟨b, j, none⟩) (a3 hp).1]; exact hu, CV.P.evo ⟨hb.size, fun k o hk hx => ⟨hb.cell (p := ⟨k, o, none⟩) hk, hx⟩⟩ x hP⟩
def fz_stat_SortedM : Nat → List Nat
  | 16 => [1003]
  | 1000011 => [1]
  | _ => []

set_option maxRecDepth 100000 in
set_option maxHeartbeats 4000000 in
theorem sm_stat_Sorted : SoundM Try.prog 58 denSorted := by
  refine soundMr_of_awp (envOk (fz := fz_stat_SortedM) TT_ok (l := [(64, d_rat_Norm), (2000000 + 106, denSort srtPre)]) ⟨s_rat_Norm, sm_slices_SortStable, trivial⟩) mixed Try.func58 rfl Try.ntmps58 Try.results58 Try.call58 ?_
  intro r avs hd hok X w vs hvs
  obtain ⟨a, rfl, rfl, ha, hp1, hp2, hr⟩ := denSorted_inv hd
  refine ⟨[], .gen 3 (a.map ratCells), _, _, hr, rfl, rfl, rfl, rfl, fun X w vs h => h, by show _ ≤ _; simp; try omega, rfl, fun p => ?_⟩
  rw [codeK_start]
  have hq := rs_atQ ha hp2 (by omega)
  simp only [go_sem, endsMR, startOf, d_rat_Norm, fz_stat_SortedM, chgOut, chgAV, chgEff, valEff, chgB, chgK, rowOf, cvRow, denSort, srtPre, rowsRats_map, Nat.reduceBEq, Nat.reduceBNe, Nat.reduceLT, Nat.reduceLeDiff, Nat.reduceAdd, Nat.reduceSub, Nat.reduceMul, Nat.reduceEqDiff, Int.reduceNeg, Int.reduceAdd, Int.reduceLT, Int.reduceLE, Int.reduceToNat, ↓reduceIte]
  refine codeK_loop (fun i : { i : Nat // i ≤ a.length } => [(8, 0, .av (intV ((i.1 : Nat)))), (7, 0, .av (intV ((a.length : Nat)))), (6, 0, .av (.one (.cel (.rf 0 a.length)))), (0, 1, .row (.gen 3 (a.map ratCells))), (0, 2, .ext p), (3, 0, .av (.one (.cel (.rf 1003 i.1)))), (1003, 1, .row (.gen 3 ((mkL (atQ a) i.1).map ratCells)))]) (fun i => a.length - i.1) ⟨0, by omega⟩ ?_ ?_
  · refine le_nil 3 1003 (.gen 3 []) (by rfl) (by kernel_rfl) ⟨by omega, trivial⟩ rfl (le_of ?_)
    simp only [go_sem, leL, Nat.reduceBEq, Nat.reduceBNe, Nat.reduceLT, Nat.reduceLeDiff, Nat.reduceAdd, Nat.reduceSub, Nat.reduceMul, Nat.reduceEqDiff, Int.reduceNeg, Int.reduceAdd, Int.reduceLT, Int.reduceLE, Int.reduceToNat, ↓reduceIte, mkL_zero, Int.ofNat_zero, Int.natCast_zero, Int.cast_ofNat_Int]
  · rintro ⟨i, hi0⟩
    have hi0 : i ≤ a.length := hi0
    by_cases hi : i < a.length
    · have hm := hp2 _ (getD_mem (d := rr0) hi)
      have hln := mkL_len (atQ a) i
      have hrow : (mkL (atQ a) i).map ratCells ++ [[.bool (cr (a.getD i rr0).q).s, .lim none (cr (a.getD i rr0).q).n, .lim none (cr (a.getD i rr0).q).d]] = (mkL (atQ a) (i + 1)).map ratCells := mkL_cells (atQ a) i
      have hln2 := mkL_len (atQ a) (i + 1)
      simp only [go_sem, endsMR, startOf, d_rat_Norm, fz_stat_SortedM, chgOut, chgAV, chgEff, valEff, chgB, chgK, rowOf, cvRow, denSort, srtPre, rowsRats_map, getD_rats hi, getD_ratsI hi, Int.ofNat_lt, hi, Nat.reduceBEq, Nat.reduceBNe, Nat.reduceLT, Nat.reduceLeDiff, Nat.reduceAdd, Nat.reduceSub, Nat.reduceMul, Nat.reduceEqDiff, Int.reduceNeg, Int.reduceAdd, Int.reduceLT, Int.reduceLE, Int.reduceToNat, ↓reduceIte]
      and_intros
      all_goals try (first | exact trivial | omega | rfl | assumption | (simp only [RC.len, RC.t, List.length_map, List.length_set]; omega) | (simp only [RC.len, RC.t, List.length_map, List.length_set]) | (show okDraw _ _ = true; kernel_rfl))
      refine ⟨⟨i + 1, by omega⟩, by show a.length - (i + 1) < a.length - i; omega, ?_⟩
      refine Le.trans (b := [(8, 0, .av (intV (((i + 1) : Nat)))), (7, 0, .av (intV ((a.length : Nat)))), (6, 0, .av (.one (.cel (.rf 0 a.length)))), (0, 1, .row (.gen 3 (a.map ratCells))), (0, 2, .ext p), (3, 0, .av (.one (.cel (.rf 16 (i + 1))))), (16, 1, .row (.gen 3 ((mkL (atQ a) (i + 1)).map ratCells)))]) (le_of ?_) (le_ren 16 1003 (c := .gen 3 ((mkL (atQ a) (i + 1)).map ratCells)) (by rfl) (by kernel_rfl) (le_of ?_))
      · simp only [go_sem, leL, hrow, hln2, Nat.reduceBEq, Nat.reduceBNe, Nat.reduceLT, Nat.reduceLeDiff, Nat.reduceAdd, Nat.reduceSub, Nat.reduceMul, Nat.reduceEqDiff, Int.reduceNeg, Int.reduceAdd, Int.reduceLT, Int.reduceLE, Int.reduceToNat, ↓reduceIte]
        omega
      · simp only [go_sem, leL, Nat.reduceBEq, Nat.reduceBNe, Nat.reduceLT, Nat.reduceLeDiff, Nat.reduceAdd, Nat.reduceSub, Nat.reduceMul, Nat.reduceEqDiff, Int.reduceNeg, Int.reduceAdd, Int.reduceLT, Int.reduceLE, Int.reduceToNat, ↓reduceIte]
    · simp only [go_sem, endsMR, startOf, d_rat_Norm, fz_stat_SortedM, chgOut, chgAV, chgEff, valEff, chgB, chgK, rowOf, cvRow, denSort, srtPre, rowsRats_map, Int.ofNat_lt, hi, Nat.reduceBEq, Nat.reduceBNe, Nat.reduceLT, Nat.reduceLeDiff, Nat.reduceAdd, Nat.reduceSub, Nat.reduceMul, Nat.reduceEqDiff, Int.reduceNeg, Int.reduceAdd, Int.reduceLT, Int.reduceLE, Int.reduceToNat, ↓reduceIte]
      have e : i = a.length := by omega
      subst e
      have hln := mkL_len (atQ a) a.length
      have hil := isort_len (mkL (atQ a) a.length)
      exact ⟨⟨hln.symm, by omega, mkL_sz (fun i _ => hq i)⟩, by omega, by rw [List.take_of_length_le (by rw [List.length_map]; omega)]; rfl⟩

end Go.Proofs.Ytifnpelkoklcnaa
