/- vernierref9.Choose; vernierref13: bad, powers, parts, Binom, BinomCdf, BinomTwo, by the abstract walk. Conditions: numbers of at most 1000 limbs. vernierref13: parts, Binom, BinomCdf, BinomTwo, by the abstract walk. Conditions: numbers of at most 1000 limbs. -/
import Derived.Test.YtocpmekblkfdiaaGreatDoorHc
namespace Go.Proofs.YtocpmekblkfdiaaGreatDoor
open Go.RowKit
set_option linter.unusedSimpArgs false
set_option linter.unusedVariables false
theorem nm_qv_one (m : Nat) : nm (qv false m 1) = m := by
  obtain ⟨p1, _⟩ := qv_parts false m 1 (by omega)
  unfold nm
  rw [p1, Nat.gcd_one_right, Nat.div_one]
  unfold sg
  simp
theorem choose_next (m j : Nat) : ch (m + j) j * (m + j + 1) / (j + 1) = ch (m + (j + 1)) (j + 1) := by
  have h := ch_mul (m + j) j
  rw [Nat.mul_comm] at h
  rw [h]
  exact Nat.mul_div_cancel _ (by omega)
theorem ll_ch {n k : Nat} (hn : n ≤ 256) : (limbs (ch n k)).length ≤ 257 := Nat.le_trans (ll_mono (ch_le n k)) (Nat.le_trans (ll_pow_le (K := 1) (M := 256) (by rw [ll_two]; omega) hn) (by omega))
def partsV (l : List (List Nat)) (m : Nat) : AV := .tup [.cel (.sl none 1 (l.map celLim.uc)), .cel (.lim none (limbs m))]
attribute [go_sem] partsV
def d_ref9_Choose : Den := den2 aInt aInt (fun n k => 0 ≤ k ∧ k ≤ n ∧ n ≤ 256) fun n k => ratV (cr (qv false (ch n.toNat k.toNat) 1))
set_option maxRecDepth 100000 in
set_option maxHeartbeats 1000000 in
theorem s_ref9_Choose : Sound Tryz.prog 60 d_ref9_Choose := by
  refine sound2 (fz := nofz) (l := [(5, d_ref2_Int), (14, d_ref1_Of), (59, d_ref1_Mul), (88, d_ref1_DivMod), (13, d_ref2_Of)]) TT_ok ⟨s_ref2_Int, s_ref1_Of, s_ref1_Mul, s_ref1_DivMod, s_ref2_Of, trivial⟩ mixed Tryz.func60 Tryz.ntmps60 Tryz.results60 Tryz.call60 rfl (by omega) (fun _ _ => rfl) ?_
  intro a b hp ha hb
  rw [codeK_start]
  obtain ⟨hk0, hkn, hn⟩ := hp
  obtain ⟨n, rfl⟩ := Int.eq_ofNat_of_zero_le (show 0 ≤ a by omega)
  obtain ⟨k, rfl⟩ := Int.eq_ofNat_of_zero_le hk0
  have d1 : ((n : Int) < 0) = False := eq_false (by omega)
  have d2 : ((512 : Int) < (n : Nat)) = False := eq_false (by omega)
  have d3 : ((k : Int) < 0) = False := eq_false (by omega)
  have d4 : ((n : Int) < (k : Nat)) = False := eq_false (by omega)
  have hone : limbs (ch (n - k + 0) 0) = [1] := by rw [ch_zero]; exact limbs_one'
  simp only [go_sem, d_ref2_Int, d_ref1_Of, d_ref1_Mul, d_ref1_DivMod, d_ref2_Of, int0, int1, decide_true, decide_false, val_limbs, Int.toNat_natCast, d1, d2, d3, d4, Nat.reduceBEq, Nat.reduceBNe, Nat.reduceLT, Nat.reduceLeDiff, Nat.reduceAdd, Nat.reduceSub, Nat.reduceMul, Nat.reduceEqDiff, Int.reduceNeg, Int.reduceAdd, Int.reduceLT, Int.reduceLE, Int.reduceToNat, ↓reduceIte]
  refine codeK_loop (fun j : { j : Nat // j ≤ k } => [(6, 0, .av (intV ((j.1 : Nat) + 1))), (5, 0, .av (natV (ch (n - k + j.1) j.1))), (0, 0, .av (intV ((n : Nat)))), (1, 0, .av (intV ((k : Nat)))), (4, 0, .av (.one (.cel (.ptr 4 0)))), (4, 1, .cv (.bool false)), (4, 2, .cv .nil), (4, 3, .cv .nil)]) (fun j => k - j.1) ⟨0, by omega⟩ (le_of ?_) ?_
  · simp only [go_sem, leL, hone, Nat.reduceBEq, Nat.reduceBNe, Nat.reduceLT, Nat.reduceLeDiff, Nat.reduceAdd, Nat.reduceSub, Nat.reduceMul, Nat.reduceEqDiff, Int.reduceNeg, Int.reduceAdd, Int.reduceLT, Int.reduceLE, Int.reduceToNat, ↓reduceIte, Int.ofNat_zero, Int.natCast_zero, Int.cast_ofNat_Int, Int.zero_add]
  · rintro ⟨j, hj0⟩
    have hj0 : j ≤ k := hj0
    by_cases hj : j < k
    · have hjt : (((j : Nat) : Int) + 1 ≤ ((k : Nat) : Int)) = True := eq_true (by omega)
      have hw1 := wrap_u64 (x := ((n : Nat) : Int) - ((k : Nat) : Int) + (((j : Nat) : Int) + 1)) (by omega) (by omega)
      have hw2 := wrap_u64 (x := ((j : Nat) : Int) + 1) (by omega) (by omega)
      have ht1 : (((n : Nat) : Int) - ((k : Nat) : Int) + (((j : Nat) : Int) + 1)).toNat = n - k + j + 1 := by omega
      have ht2 : (((j : Nat) : Int) + 1).toNat = j + 1 := by omega
      have hnx := choose_next (n - k) j
      have hl1 := ll_ch (n := n - k + j) (k := j) (by omega)
      have hl2 : (limbs (n - k + j + 1)).length ≤ 2 := limbs_len_le (by omega)
      have hl3 : (limbs (j + 1)).length ≤ 2 := limbs_len_le (by omega)
      have hl4 : (limbs (ch (n - k + j) j * (n - k + j + 1))).length ≤ 300 := Nat.le_trans (ll_mul _ _) (by show (limbs _).length + (limbs _).length ≤ _; omega)
      simp only [go_sem, d_ref2_Int, d_ref1_Of, d_ref1_Mul, d_ref1_DivMod, d_ref2_Of, int0, int1, decide_true, decide_false, val_limbs, Int.toNat_natCast, hjt, hw1, hw2, ht1, ht2, hnx, Nat.reduceBEq, Nat.reduceBNe, Nat.reduceLT, Nat.reduceLeDiff, Nat.reduceAdd, Nat.reduceSub, Nat.reduceMul, Nat.reduceEqDiff, Int.reduceNeg, Int.reduceAdd, Int.reduceLT, Int.reduceLE, Int.reduceToNat, ↓reduceIte]
      ((try and_intros) <;> first | exact trivial | omega | (show okDraw _ _ = true; kernel_rfl) | (show ∃ _, _; exact ⟨⟨j + 1, by omega⟩, by show k - (j + 1) < k - j; omega, le_of (by simp only [go_sem, leL, hnx, Nat.reduceBEq, Nat.reduceBNe, Nat.reduceLT, Nat.reduceLeDiff, Nat.reduceAdd, Nat.reduceSub, Nat.reduceMul, Nat.reduceEqDiff, Int.reduceNeg, Int.reduceAdd, Int.reduceLT, Int.reduceLE, Int.reduceToNat, ↓reduceIte]; try omega)⟩) | assumption)
    · have hjt : (((j : Nat) : Int) + 1 ≤ ((k : Nat) : Int)) = False := eq_false (by omega)
      have ej : j = k := by omega
      subst ej
      have hl1 := ll_ch (n := n - j + j) (k := j) (by omega)
      have hnj : n - j + j = n := by omega
      have hv1 : val [1] = 1 := rfl
      rw [hnj] at hl1
      simp only [go_sem, d_ref2_Int, d_ref1_Of, d_ref1_Mul, d_ref1_DivMod, d_ref2_Of, int0, int1, decide_true, decide_false, val_limbs, Int.toNat_natCast, hjt, hnj, hv1, Nat.reduceBEq, Nat.reduceBNe, Nat.reduceLT, Nat.reduceLeDiff, Nat.reduceAdd, Nat.reduceSub, Nat.reduceMul, Nat.reduceEqDiff, Int.reduceNeg, Int.reduceAdd, Int.reduceLT, Int.reduceLE, Int.reduceToNat, ↓reduceIte]
      ((try and_intros) <;> first | exact trivial | omega | (show okDraw _ _ = true; kernel_rfl) | assumption)
def d_ref13_bad : Den := den2 aInt aRat (fun _ x => x.sz ≤ 1000000000) fun n x => boolV (!tryB n x.q)
set_option maxRecDepth 100000 in
set_option maxHeartbeats 1000000 in
theorem s_ref13_bad : Sound Tryz.prog 17 d_ref13_bad := by
  refine sound2 (fz := nofz) (l := [(5, d_ref2_Int), (4, d_ref2_Cmp)]) TT_ok ⟨s_ref2_Int, s_ref2_Cmp, trivial⟩ mixed Tryz.func17 Tryz.ntmps17 Tryz.results17 Tryz.call17 rfl (by omega) (fun _ _ => rfl) ?_
  intro a b hp ha hb
  rw [codeK_start]
  have t0 : rs (0 : Rat) ≤ 1 := rs0 (by omega)
  have t1 : rs (1 : Rat) ≤ 1 := rs1 (by omega)
  unfold tryB
  by_cases c1 : a < 0
  · have e1 : (0 ≤ a) = False := eq_false (by omega)
    simp only [go_sem, d_ref2_Int, d_ref2_Cmp, int0, int1, decide_true, decide_false, c1, e1, Nat.reduceBEq, Nat.reduceBNe, Nat.reduceLT, Nat.reduceLeDiff, Nat.reduceAdd, Nat.reduceSub, Nat.reduceMul, Nat.reduceEqDiff, Int.reduceNeg, Int.reduceAdd, Int.reduceLT, Int.reduceLE, Int.reduceToNat, ↓reduceIte]
    ((try and_intros) <;> first | exact trivial | omega | (show okDraw _ _ = true; kernel_rfl) | assumption)
  have e1 : (0 ≤ a) = True := eq_true (by omega)
  by_cases c2 : (256 : Int) < a
  · have e2 : (a ≤ 256) = False := eq_false (by omega)
    simp only [go_sem, d_ref2_Int, d_ref2_Cmp, int0, int1, decide_true, decide_false, c1, e1, c2, e2, Nat.reduceBEq, Nat.reduceBNe, Nat.reduceLT, Nat.reduceLeDiff, Nat.reduceAdd, Nat.reduceSub, Nat.reduceMul, Nat.reduceEqDiff, Int.reduceNeg, Int.reduceAdd, Int.reduceLT, Int.reduceLE, Int.reduceToNat, ↓reduceIte]
    ((try and_intros) <;> first | exact trivial | omega | (show okDraw _ _ = true; kernel_rfl) | assumption)
  have e2 : (a ≤ 256) = True := eq_true (by omega)
  by_cases c3 : b.q < 0
  · have e3 : (0 ≤ b.q) = False := eq_false (Rat.not_le.2 c3)
    simp only [go_sem, d_ref2_Int, d_ref2_Cmp, int0, int1, decide_true, decide_false, c1, e1, c2, e2, c3, e3, Nat.reduceBEq, Nat.reduceBNe, Nat.reduceLT, Nat.reduceLeDiff, Nat.reduceAdd, Nat.reduceSub, Nat.reduceMul, Nat.reduceEqDiff, Int.reduceNeg, Int.reduceAdd, Int.reduceLT, Int.reduceLE, Int.reduceToNat, ↓reduceIte]
    ((try and_intros) <;> first | exact trivial | omega | (show okDraw _ _ = true; kernel_rfl) | assumption)
  have e3 : (0 ≤ b.q) = True := eq_true (Rat.not_lt.1 c3)
  by_cases c4 : 1 < b.q
  · have e4 : (b.q ≤ 1) = False := eq_false (Rat.not_le.2 c4)
    simp only [go_sem, d_ref2_Int, d_ref2_Cmp, int0, int1, decide_true, decide_false, c1, e1, c2, e2, c3, e3, c4, e4, Nat.reduceBEq, Nat.reduceBNe, Nat.reduceLT, Nat.reduceLeDiff, Nat.reduceAdd, Nat.reduceSub, Nat.reduceMul, Nat.reduceEqDiff, Int.reduceNeg, Int.reduceAdd, Int.reduceLT, Int.reduceLE, Int.reduceToNat, ↓reduceIte]
    ((try and_intros) <;> first | exact trivial | omega | (show okDraw _ _ = true; kernel_rfl) | assumption)
  have e4 : (b.q ≤ 1) = True := eq_true (Rat.not_lt.1 c4)
  simp only [go_sem, d_ref2_Int, d_ref2_Cmp, int0, int1, decide_true, decide_false, c1, e1, c2, e2, c3, e3, c4, e4, Nat.reduceBEq, Nat.reduceBNe, Nat.reduceLT, Nat.reduceLeDiff, Nat.reduceAdd, Nat.reduceSub, Nat.reduceMul, Nat.reduceEqDiff, Int.reduceNeg, Int.reduceAdd, Int.reduceLT, Int.reduceLE, Int.reduceToNat, ↓reduceIte]
  ((try and_intros) <;> first | exact trivial | omega | (show okDraw _ _ = true; kernel_rfl) | assumption)
def fz_ref13_powers : Nat → List Nat
  | 12 => [1005]
  | 1000003 => [8]
  | _ => []
def d_ref13_powers : Den := den2 aLim aInt (fun x n => x.length ≤ 1000 ∧ 0 ≤ n ∧ n ≤ 256) fun x n => rowV celLim (natRow (fun i => val x ^ i) (n.toNat + 1))
set_option maxRecDepth 100000 in
set_option maxHeartbeats 1000000 in
theorem s_ref13_powers : Sound Tryz.prog 58 d_ref13_powers := by
  refine sound2 (fz := fz_ref13_powers) (l := [(59, d_ref1_Mul)]) TT_ok ⟨s_ref1_Mul, trivial⟩ mixed Tryz.func58 Tryz.ntmps58 Tryz.results58 Tryz.call58 rfl (by omega) (fun _ _ => rfl) ?_
  intro a b hp ha hb
  rw [codeK_start]
  obtain ⟨hl, hn0, hn⟩ := hp
  obtain ⟨n, rfl⟩ := Int.eq_ofNat_of_zero_le hn0
  have hok : limOk a := ha
  have hpw : ∀ m, m ≤ 256 → (limbs (val a ^ m)).length ≤ 256 * 1000 + 1 := fun m hm => ll_pow_le (Nat.le_trans (ll_val hok) hl) hm
  simp only [go_sem, d_ref1_Mul, int0, int1, decide_true, decide_false, val_limbs, Int.toNat_natCast, fz_ref13_powers, beq_self_eq_true, Nat.reduceBEq, Nat.reduceBNe, Nat.reduceLT, Nat.reduceLeDiff, Nat.reduceAdd, Nat.reduceSub, Nat.reduceMul, Nat.reduceEqDiff, Int.reduceNeg, Int.reduceAdd, Int.reduceLT, Int.reduceLE, Int.reduceToNat, ↓reduceIte]
  refine codeK_loop (fun m : { m : Nat // m ≤ n } => [(6, 0, .av (intV ((m.1 : Nat)))), (5, 0, .av (.one (.cel (.rf 1005 (m.1 + 1))))), (1005, 1, .row (.gen 1 ((natRow ((fun i => val a ^ i)) (m.1 + 1)).map celLim.uc))), (0, 0, .av (limV a)), (1, 0, .av (intV ((n : Nat))))]) (fun m => n - m.1) ⟨0, by omega⟩ ?_ ?_
  · refine le_ren 8 1005 (c := .gen 1 [[.lim none [1]]]) (by rfl) (by kernel_rfl) (le_of ?_)
    have hr1 : (natRow (fun i => val a ^ i) (0 + 1)).map celLim.uc = [[.lim none [1]]] := by
      show [[CV.lim none (limbs (val a ^ 0))]] = _
      rw [Nat.pow_zero, limbs_one']
    simp only [go_sem, leL, hr1, Nat.reduceBEq, Nat.reduceBNe, Nat.reduceLT, Nat.reduceLeDiff, Nat.reduceAdd, Nat.reduceSub, Nat.reduceMul, Nat.reduceEqDiff, Int.reduceNeg, Int.reduceAdd, Int.reduceLT, Int.reduceLE, Int.reduceToNat, ↓reduceIte, Int.ofNat_zero, Int.natCast_zero, Int.cast_ofNat_Int]
  · rintro ⟨m, hm0⟩
    have hm0 : m ≤ n := hm0
    have hln := natRow_len (fun i => val a ^ i) (m + 1)
    have hln2 := natRow_len (fun i => val a ^ i) (m + 1 + 1)
    by_cases hm : m < n
    · have hmt : (((m : Nat) : Int) < ((n : Nat) : Int)) = True := eq_true (by omega)
      have hgd : ((natRow (fun i => val a ^ i) (m + 1)).map celLim.uc).getD m [] = [.lim none (limbs (val a ^ m))] := by rw [getD_lims (by omega), natRow_get _ (by omega)]; rfl
      have hmul : val a ^ m * val a = val a ^ (m + 1) := (Nat.pow_succ ..).symm
      have hrow : (natRow (fun i => val a ^ i) (m + 1)).map celLim.uc ++ [[.lim none (limbs (val a ^ (m + 1)))]] = (natRow (fun i => val a ^ i) (m + 1 + 1)).map celLim.uc := natRow_cells (fun i => val a ^ i) (m + 1)
      have hp1 := hpw m (by omega)
      simp only [go_sem, d_ref1_Mul, int0, int1, decide_true, decide_false, val_limbs, Int.toNat_natCast, fz_ref13_powers, beq_self_eq_true, hmt, hgd, hmul, Nat.reduceBEq, Nat.reduceBNe, Nat.reduceLT, Nat.reduceLeDiff, Nat.reduceAdd, Nat.reduceSub, Nat.reduceMul, Nat.reduceEqDiff, Int.reduceNeg, Int.reduceAdd, Int.reduceLT, Int.reduceLE, Int.reduceToNat, ↓reduceIte]
      and_intros
      all_goals try (first | omega | exact hln.symm | (show okDraw _ _ = true; kernel_rfl))
      refine ⟨⟨m + 1, by omega⟩, by show n - (m + 1) < n - m; omega, Le.trans (b := [(6, 0, .av (intV ((m + 1 : Nat)))), (5, 0, .av (.one (.cel (.rf 22 (m + 1 + 1))))), (22, 1, .row (.gen 1 ((natRow ((fun i => val a ^ i)) (m + 1 + 1)).map celLim.uc))), (0, 0, .av (limV a)), (1, 0, .av (intV ((n : Nat))))]) (le_of ?_) (le_ren 22 1005 (c := .gen 1 ((natRow (fun i => val a ^ i) (m + 1 + 1)).map celLim.uc)) (by rfl) (by kernel_rfl) (le_of ?_))⟩
      · simp only [go_sem, leL, hrow, hln2, Nat.reduceBEq, Nat.reduceBNe, Nat.reduceLT, Nat.reduceLeDiff, Nat.reduceAdd, Nat.reduceSub, Nat.reduceMul, Nat.reduceEqDiff, Int.reduceNeg, Int.reduceAdd, Int.reduceLT, Int.reduceLE, Int.reduceToNat, ↓reduceIte]
        try omega
      · simp only [go_sem, leL, Nat.reduceBEq, Nat.reduceBNe, Nat.reduceLT, Nat.reduceLeDiff, Nat.reduceAdd, Nat.reduceSub, Nat.reduceMul, Nat.reduceEqDiff, Int.reduceNeg, Int.reduceAdd, Int.reduceLT, Int.reduceLE, Int.reduceToNat, ↓reduceIte]
    · have hmt : (((m : Nat) : Int) < ((n : Nat) : Int)) = False := eq_false (by omega)
      have em : m = n := by omega
      subst em
      have htake : List.take (m + 1) ((natRow (fun i => val a ^ i) (m + 1)).map celLim.uc) = (natRow (fun i => val a ^ i) (m + 1)).map celLim.uc := List.take_of_length_le (by rw [List.length_map]; omega)
      simp only [go_sem, d_ref1_Mul, int0, int1, decide_true, decide_false, val_limbs, Int.toNat_natCast, fz_ref13_powers, beq_self_eq_true, hmt, htake, Nat.reduceBEq, Nat.reduceBNe, Nat.reduceLT, Nat.reduceLeDiff, Nat.reduceAdd, Nat.reduceSub, Nat.reduceMul, Nat.reduceEqDiff, Int.reduceNeg, Int.reduceAdd, Int.reduceLT, Int.reduceLE, Int.reduceToNat, ↓reduceIte]
      try and_intros
      all_goals first | omega | (show okDraw _ _ = true; kernel_rfl) | rfl | (rw [hln]; exact Nat.le_refl _)
end Go.Proofs.YtocpmekblkfdiaaGreatDoor
namespace Go.Proofs.YtocpmekblkfdiaaGreatDoor
open Go.RowKit
set_option linter.unusedSimpArgs false
set_option linter.unusedVariables false
def fz_ref13_parts : Nat → List Nat
  | 18 => [1012]
  | _ => []
def d_ref13_parts : Den := den2 aInt aRat (fun n x => (0 ≤ n ∧ n ≤ 256) ∧ (0 ≤ x.q ∧ x.q ≤ 1) ∧ x.sz ≤ 1000) fun n x => partsV (natRow (binN x.q n.toNat) (n.toNat + 1)) (x.q.den ^ n.toNat)
set_option maxRecDepth 100000 in
set_option maxHeartbeats 1000000 in
theorem s_ref13_parts : Sound Tryz.prog 18 d_ref13_parts := by
  refine sound2 (fz := fz_ref13_parts) (l := [(36, d_ref2_Norm), (57, d_ref1_Sub), (58, d_ref13_powers), (60, d_ref9_Choose), (59, d_ref1_Mul)]) TT_ok ⟨s_ref2_Norm, s_ref1_Sub, s_ref13_powers, s_ref9_Choose, s_ref1_Mul, trivial⟩ mixed Tryz.func18 Tryz.ntmps18 Tryz.results18 Tryz.call18 rfl (by omega) (fun _ _ => rfl) ?_
  intro a b hp ha hb
  rw [codeK_start]
  obtain ⟨⟨hn0, hn⟩, ⟨hq0, hq1⟩, hsz⟩ := hp
  obtain ⟨n, rfl⟩ := Int.eq_ofNat_of_zero_le hn0
  obtain ⟨lu, ld⟩ := ll_den hb hsz
  have ldw : ll (b.q.den - nm b.q) ≤ 1000 := Nat.le_trans (ll_mono (Nat.sub_le _ _)) ld
  have lu' : (limbs (nm b.q)).length ≤ 1000 := lu
  have ld' : (limbs b.q.den).length ≤ 1000 := ld
  have ldw' : (limbs (b.q.den - nm b.q)).length ≤ 1000 := ldw
  have hpu : ∀ m, m ≤ 256 → (limbs (nm b.q ^ m)).length ≤ 256 * 1000 + 1 := fun m hm => ll_pow_le lu hm
  have hpd : ∀ m, m ≤ 256 → (limbs ((b.q.den - nm b.q) ^ m)).length ≤ 256 * 1000 + 1 := fun m hm => ll_pow_le ldw hm
  have gu : ∀ m, m < n + 1 → ((natRow (fun i => nm b.q ^ i) (n + 1)).map celLim.uc).getD m [] = [.lim none (limbs (nm b.q ^ m))] := fun m hm => by rw [getD_lims (by rw [natRow_len]; omega), natRow_get _ hm]; rfl
  have gd : ∀ m, m < n + 1 → ((natRow (fun i => (b.q.den - nm b.q) ^ i) (n + 1)).map celLim.uc).getD m [] = [.lim none (limbs ((b.q.den - nm b.q) ^ m))] := fun m hm => by rw [getD_lims (by rw [natRow_len]; omega), natRow_get _ hm]; rfl
  have gq : ∀ m, m < n + 1 → ((natRow (fun i => b.q.den ^ i) (n + 1)).map celLim.uc).getD m [] = [.lim none (limbs (b.q.den ^ m))] := fun m hm => by rw [getD_lims (by rw [natRow_len]; omega), natRow_get _ hm]; rfl
  have hl9 := natRow_len (fun i => nm b.q ^ i) (n + 1)
  have hl10 := natRow_len (fun i => (b.q.den - nm b.q) ^ i) (n + 1)
  have hl11 := natRow_len (fun i => b.q.den ^ i) (n + 1)
  simp only [go_sem, d_ref2_Norm, d_ref1_Sub, d_ref13_powers, d_ref9_Choose, d_ref1_Mul, int0, int1, decide_true, decide_false, val_limbs, Int.toNat_natCast, cr_n, cr_d, fz_ref13_parts, beq_self_eq_true, Nat.reduceBEq, Nat.reduceBNe, Nat.reduceLT, Nat.reduceLeDiff, Nat.reduceAdd, Nat.reduceSub, Nat.reduceMul, Nat.reduceEqDiff, Int.reduceNeg, Int.reduceAdd, Int.reduceLT, Int.reduceLE, Int.reduceToNat, ↓reduceIte]
  and_intros
  all_goals try (first | omega | (show okDraw _ _ = true; kernel_rfl))
  refine codeK_loop (fun m : { m : Nat // m ≤ n + 1 } => [(13, 0, .av (intV ((m.1 : Nat)))), (12, 0, .av (.one (.cel (.rf 1012 (m.1))))), (1012, 1, .row (.gen 1 ((natRow (binN b.q n) (m.1)).map celLim.uc))), (9, 0, .av (rowV celLim (natRow (fun i => nm b.q ^ i) (n + 1)))), (10, 0, .av (rowV celLim (natRow (fun i => (b.q.den - nm b.q) ^ i) (n + 1)))), (11, 0, .av (rowV celLim (natRow (fun i => b.q.den ^ i) (n + 1)))), (0, 0, .av (intV ((n : Nat))))]) (fun m => n + 1 - m.1) ⟨0, by omega⟩ ?_ ?_
  · refine le_nil 12 1012 (.gen 1 []) (by rfl) (by kernel_rfl) ⟨by omega, trivial⟩ rfl (le_of ?_)
    have hr0 : (natRow (binN b.q n) 0).map celLim.uc = [] := rfl
    simp only [go_sem, leL, hr0, Nat.reduceBEq, Nat.reduceBNe, Nat.reduceLT, Nat.reduceLeDiff, Nat.reduceAdd, Nat.reduceSub, Nat.reduceMul, Nat.reduceEqDiff, Int.reduceNeg, Int.reduceAdd, Int.reduceLT, Int.reduceLE, Int.reduceToNat, ↓reduceIte, Int.ofNat_zero, Int.natCast_zero, Int.cast_ofNat_Int]
  · rintro ⟨m, hm0⟩
    have hm0 : m ≤ n + 1 := hm0
    have hln := natRow_len (binN b.q n) m
    have hln2 := natRow_len (binN b.q n) (m + 1)
    by_cases hm : m ≤ n
    · have hmt : (((m : Nat) : Int) ≤ ((n : Nat) : Int)) = True := eq_true (by omega)
      have hti : (((n : Nat) : Int) - ((m : Nat) : Int)).toNat = n - m := by omega
      have g1 := gu m (by omega)
      have g2 := gd (n - m) (by omega)
      have hmul : ch n m * (nm b.q ^ m * (b.q.den - nm b.q) ^ (n - m)) = binN b.q n m := rfl
      have hch := nm_qv_one (ch n m)
      have hlc := ll_ch (n := n) (k := m) (by omega)
      have hp1 := hpu m (by omega)
      have hp2 := hpd (n - m) (by omega)
      have hp3 : (limbs (nm b.q ^ m * (b.q.den - nm b.q) ^ (n - m))).length ≤ 600000 := Nat.le_trans (ll_mul _ _) (by show (limbs _).length + (limbs _).length ≤ _; omega)
      have hrow : (natRow (binN b.q n) m).map celLim.uc ++ [[.lim none (limbs (binN b.q n m))]] = (natRow (binN b.q n) (m + 1)).map celLim.uc := natRow_cells _ m
      simp only [go_sem, d_ref2_Norm, d_ref1_Sub, d_ref13_powers, d_ref9_Choose, d_ref1_Mul, int0, int1, decide_true, decide_false, val_limbs, Int.toNat_natCast, cr_n, cr_d, fz_ref13_parts, beq_self_eq_true, hmt, hti, g1, g2, hmul, hch, hl9, hl10, Nat.reduceBEq, Nat.reduceBNe, Nat.reduceLT, Nat.reduceLeDiff, Nat.reduceAdd, Nat.reduceSub, Nat.reduceMul, Nat.reduceEqDiff, Int.reduceNeg, Int.reduceAdd, Int.reduceLT, Int.reduceLE, Int.reduceToNat, ↓reduceIte]
      and_intros
      all_goals try (first | omega | exact hln.symm | (show okDraw _ _ = true; kernel_rfl))
      refine ⟨⟨m + 1, by omega⟩, by show n + 1 - (m + 1) < n + 1 - m; omega, Le.trans (b := [(13, 0, .av (intV ((m + 1 : Nat)))), (12, 0, .av (.one (.cel (.rf 58 (m + 1))))), (58, 1, .row (.gen 1 ((natRow (binN b.q n) (m + 1)).map celLim.uc))), (9, 0, .av (rowV celLim (natRow (fun i => nm b.q ^ i) (n + 1)))), (10, 0, .av (rowV celLim (natRow (fun i => (b.q.den - nm b.q) ^ i) (n + 1)))), (11, 0, .av (rowV celLim (natRow (fun i => b.q.den ^ i) (n + 1)))), (0, 0, .av (intV ((n : Nat))))]) (le_of ?_) (le_ren 58 1012 (c := .gen 1 ((natRow (binN b.q n) (m + 1)).map celLim.uc)) (by rfl) (by kernel_rfl) (le_of ?_))⟩
      · simp only [go_sem, leL, hrow, hln2, Nat.reduceBEq, Nat.reduceBNe, Nat.reduceLT, Nat.reduceLeDiff, Nat.reduceAdd, Nat.reduceSub, Nat.reduceMul, Nat.reduceEqDiff, Int.reduceNeg, Int.reduceAdd, Int.reduceLT, Int.reduceLE, Int.reduceToNat, ↓reduceIte]
        try omega
      · simp only [go_sem, leL, Nat.reduceBEq, Nat.reduceBNe, Nat.reduceLT, Nat.reduceLeDiff, Nat.reduceAdd, Nat.reduceSub, Nat.reduceMul, Nat.reduceEqDiff, Int.reduceNeg, Int.reduceAdd, Int.reduceLT, Int.reduceLE, Int.reduceToNat, ↓reduceIte]
    · have hmt : (((m : Nat) : Int) ≤ ((n : Nat) : Int)) = False := eq_false (by omega)
      have em : m = n + 1 := by omega
      subst em
      have g3 := gq n (by omega)
      have htake : List.take (n + 1) ((natRow (binN b.q n) (n + 1)).map celLim.uc) = (natRow (binN b.q n) (n + 1)).map celLim.uc := List.take_of_length_le (by rw [List.length_map]; omega)
      simp only [go_sem, d_ref2_Norm, d_ref1_Sub, d_ref13_powers, d_ref9_Choose, d_ref1_Mul, int0, int1, decide_true, decide_false, val_limbs, Int.toNat_natCast, cr_n, cr_d, fz_ref13_parts, beq_self_eq_true, hmt, g3, htake, hl11, Nat.reduceBEq, Nat.reduceBNe, Nat.reduceLT, Nat.reduceLeDiff, Nat.reduceAdd, Nat.reduceSub, Nat.reduceMul, Nat.reduceEqDiff, Int.reduceNeg, Int.reduceAdd, Int.reduceLT, Int.reduceLE, Int.reduceToNat, ↓reduceIte]
      try and_intros
      all_goals first | omega | (show okDraw _ _ = true; kernel_rfl) | rfl | (rw [hln]; exact Nat.le_refl _)
end Go.Proofs.YtocpmekblkfdiaaGreatDoor
