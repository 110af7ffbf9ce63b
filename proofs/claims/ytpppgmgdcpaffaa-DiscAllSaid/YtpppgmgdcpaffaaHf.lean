/- vernierref13: parts, Binom, BinomCdf, BinomTwo, by the abstract walk. Conditions: numbers of at most 1000 limbs. -/
import Derived.Test.YtpppgmgdcpaffaaHe
namespace Go.Proofs.Ytpppgmgdcpaffaa
open Go.RowKit
set_option linter.unusedSimpArgs false
set_option linter.unusedVariables false

def fz_ref13_parts : Nat → List Nat
  | 18 => [1012]
  | _ => []

def d_ref13_parts : Den := den2 aInt aRat (fun n x => (0 ≤ n ∧ n ≤ 256) ∧ (0 ≤ x.q ∧ x.q ≤ 1) ∧ x.sz ≤ 1000) fun n x => partsV (natRow (binN x.q n.toNat) (n.toNat + 1)) (x.q.den ^ n.toNat)
set_option maxRecDepth 100000 in
set_option maxHeartbeats 1000000 in
theorem s_ref13_parts : Sound Try.prog 97 d_ref13_parts := by
  refine sound2 (fz := fz_ref13_parts) (l := [(27, d_ref2_Norm), (85, d_ref1_Sub), (121, d_ref13_powers), (122, d_ref9_Choose), (82, d_ref1_Mul)]) TT_ok ⟨s_ref2_Norm, s_ref1_Sub, s_ref13_powers, s_ref9_Choose, s_ref1_Mul, trivial⟩ mixed Try.func97 Try.ntmps97 Try.results97 Try.call97 rfl (by omega) (fun _ _ => rfl) ?_
  intro a b hp ha hb
  rw [codeK_start]
  obtain ⟨⟨hn0, hn⟩, ⟨hq0, hq1⟩, hsz⟩ := hp
  obtain ⟨n, rfl⟩ := Int.eq_ofNat_of_zero_le hn0
  obtain ⟨lu, ld⟩ := ll_den hb hsz
  have ldw : ll (b.q.den - nm b.q) ≤ 1000 := Nat.le_trans (ll_mono (Nat.sub_le _ _)) ld
  have lu' : (limbs (nm b.q)).length ≤ 1000 := lu
  have ld' : (limbs b.q.den).length ≤ 1000 := ld
  have ldw' : (limbs (b.q.den - nm b.q)).length ≤ 1000 := ldw
  have hpu : ∀ m, m ≤ 256 → (limbs (nm b.q ^ m)).length ≤ 256 * 1000 + 1 := fun m hm => ll_pow_le lu hm
  have hpd : ∀ m, m ≤ 256 → (limbs ((b.q.den - nm b.q) ^ m)).length ≤ 256 * 1000 + 1 := fun m hm => ll_pow_le ldw hm
  have gu : ∀ m, m < n + 1 → ((natRow (fun i => nm b.q ^ i) (n + 1)).map celLim.uc).getD m [] = [.lim none (limbs (nm b.q ^ m))] := fun m hm => by rw [getD_lims (by rw [natRow_len]; omega), natRow_get _ hm]; rfl
  have gd : ∀ m, m < n + 1 → ((natRow (fun i => (b.q.den - nm b.q) ^ i) (n + 1)).map celLim.uc).getD m [] = [.lim none (limbs ((b.q.den - nm b.q) ^ m))] := fun m hm => by rw [getD_lims (by rw [natRow_len]; omega), natRow_get _ hm]; rfl
  have gq : ∀ m, m < n + 1 → ((natRow (fun i => b.q.den ^ i) (n + 1)).map celLim.uc).getD m [] = [.lim none (limbs (b.q.den ^ m))] := fun m hm => by rw [getD_lims (by rw [natRow_len]; omega), natRow_get _ hm]; rfl
  have hl9 := natRow_len (fun i => nm b.q ^ i) (n + 1)
  have hl10 := natRow_len (fun i => (b.q.den - nm b.q) ^ i) (n + 1)
  have hl11 := natRow_len (fun i => b.q.den ^ i) (n + 1)
  simp only [go_sem, d_ref2_Norm, d_ref1_Sub, d_ref13_powers, d_ref9_Choose, d_ref1_Mul, int0, int1, decide_true, decide_false, val_limbs, Int.toNat_natCast, cr_n, cr_d, fz_ref13_parts, beq_self_eq_true, Nat.reduceBEq, Nat.reduceBNe, Nat.reduceLT, Nat.reduceLeDiff, Nat.reduceAdd, Nat.reduceSub, Nat.reduceMul, Nat.reduceEqDiff, Int.reduceNeg, Int.reduceAdd, Int.reduceLT, Int.reduceLE, Int.reduceToNat, ↓reduceIte]
  and_intros
  all_goals try (first | omega | (show okDraw _ _ = true; kernel_rfl))
  refine codeK_loop (fun m : { m : Nat // m ≤ n + 1 } => [(13, 0, .av (intV ((m.1 : Nat)))), (12, 0, .av (.one (.cel (.rf 1012 (m.1))))), (1012, 1, .row (.gen 1 ((natRow (binN b.q n) (m.1)).map celLim.uc))), (9, 0, .av (rowV celLim (natRow (fun i => nm b.q ^ i) (n + 1)))), (10, 0, .av (rowV celLim (natRow (fun i => (b.q.den - nm b.q) ^ i) (n + 1)))), (11, 0, .av (rowV celLim (natRow (fun i => b.q.den ^ i) (n + 1)))), (0, 0, .av (intV ((n : Nat))))]) (fun m => n + 1 - m.1) ⟨0, by omega⟩ ?_ ?_
  · refine le_nil 12 1012 (.gen 1 []) (by rfl) (by kernel_rfl) ⟨by omega, trivial⟩ rfl (le_of ?_)
    have hr0 : (natRow (binN b.q n) 0).map celLim.uc = [] := rfl
    simp only [go_sem, leL, hr0, Nat.reduceBEq, Nat.reduceBNe, Nat.reduceLT, Nat.reduceLeDiff, Nat.reduceAdd, Nat.reduceSub, Nat.reduceMul, Nat.reduceEqDiff, Int.reduceNeg, Int.reduceAdd, Int.reduceLT, Int.reduceLE, Int.reduceToNat, ↓reduceIte, Int.ofNat_zero, Int.natCast_zero, Int.cast_ofNat_Int]
  · rintro ⟨m, hm0⟩
    have hm0 : m ≤ n + 1 := hm0
    have hln := natRow_len (binN b.q n) m
    have hln2 := natRow_len (binN b.q n) (m + 1)
    by_cases hm : m ≤ n
    · have hmt : (((m : Nat) : Int) ≤ ((n : Nat) : Int)) = True := eq_true (by omega)
      have hti : (((n : Nat) : Int) - ((m : Nat) : Int)).toNat = n - m := by omega
      have g1 := gu m (by omega)
      have g2 := gd (n - m) (by omega)
      have hmul : ch n m * (nm b.q ^ m * (b.q.den - nm b.q) ^ (n - m)) = binN b.q n m := rfl
      have hch := nm_qv_one (ch n m)
      have hlc := ll_ch (n := n) (k := m) (by omega)
      have hp1 := hpu m (by omega)
      have hp2 := hpd (n - m) (by omega)
      have hp3 : (limbs (nm b.q ^ m * (b.q.den - nm b.q) ^ (n - m))).length ≤ 600000 := Nat.le_trans (ll_mul _ _) (by show (limbs _).length + (limbs _).length ≤ _; omega)
      have hrow : (natRow (binN b.q n) m).map celLim.uc ++ [[.lim none (limbs (binN b.q n m))]] = (natRow (binN b.q n) (m + 1)).map celLim.uc := natRow_cells _ m
      simp only [go_sem, d_ref2_Norm, d_ref1_Sub, d_ref13_powers, d_ref9_Choose, d_ref1_Mul, int0, int1, decide_true, decide_false, val_limbs, Int.toNat_natCast, cr_n, cr_d, fz_ref13_parts, beq_self_eq_true, hmt, hti, g1, g2, hmul, hch, hl9, hl10, Nat.reduceBEq, Nat.reduceBNe, Nat.reduceLT, Nat.reduceLeDiff, Nat.reduceAdd, Nat.reduceSub, Nat.reduceMul, Nat.reduceEqDiff, Int.reduceNeg, Int.reduceAdd, Int.reduceLT, Int.reduceLE, Int.reduceToNat, ↓reduceIte]
      and_intros
      all_goals try (first | omega | exact hln.symm | (show okDraw _ _ = true; kernel_rfl))
      refine ⟨⟨m + 1, by omega⟩, by show n + 1 - (m + 1) < n + 1 - m; omega, Le.trans (b := [(13, 0, .av (intV ((m + 1 : Nat)))), (12, 0, .av (.one (.cel (.rf 58 (m + 1))))), (58, 1, .row (.gen 1 ((natRow (binN b.q n) (m + 1)).map celLim.uc))), (9, 0, .av (rowV celLim (natRow (fun i => nm b.q ^ i) (n + 1)))), (10, 0, .av (rowV celLim (natRow (fun i => (b.q.den - nm b.q) ^ i) (n + 1)))), (11, 0, .av (rowV celLim (natRow (fun i => b.q.den ^ i) (n + 1)))), (0, 0, .av (intV ((n : Nat))))]) (le_of ?_) (le_ren 58 1012 (c := .gen 1 ((natRow (binN b.q n) (m + 1)).map celLim.uc)) (by rfl) (by kernel_rfl) (le_of ?_))⟩
      · simp only [go_sem, leL, hrow, hln2, Nat.reduceBEq, Nat.reduceBNe, Nat.reduceLT, Nat.reduceLeDiff, Nat.reduceAdd, Nat.reduceSub, Nat.reduceMul, Nat.reduceEqDiff, Int.reduceNeg, Int.reduceAdd, Int.reduceLT, Int.reduceLE, Int.reduceToNat, ↓reduceIte]
        try omega
      · simp only [go_sem, leL, Nat.reduceBEq, Nat.reduceBNe, Nat.reduceLT, Nat.reduceLeDiff, Nat.reduceAdd, Nat.reduceSub, Nat.reduceMul, Nat.reduceEqDiff, Int.reduceNeg, Int.reduceAdd, Int.reduceLT, Int.reduceLE, Int.reduceToNat, ↓reduceIte]
    · have hmt : (((m : Nat) : Int) ≤ ((n : Nat) : Int)) = False := eq_false (by omega)
      have em : m = n + 1 := by omega
      subst em
      have g3 := gq n (by omega)
      have htake : List.take (n + 1) ((natRow (binN b.q n) (n + 1)).map celLim.uc) = (natRow (binN b.q n) (n + 1)).map celLim.uc := List.take_of_length_le (by rw [List.length_map]; omega)
      simp only [go_sem, d_ref2_Norm, d_ref1_Sub, d_ref13_powers, d_ref9_Choose, d_ref1_Mul, int0, int1, decide_true, decide_false, val_limbs, Int.toNat_natCast, cr_n, cr_d, fz_ref13_parts, beq_self_eq_true, hmt, g3, htake, hl11, Nat.reduceBEq, Nat.reduceBNe, Nat.reduceLT, Nat.reduceLeDiff, Nat.reduceAdd, Nat.reduceSub, Nat.reduceMul, Nat.reduceEqDiff, Int.reduceNeg, Int.reduceAdd, Int.reduceLT, Int.reduceLE, Int.reduceToNat, ↓reduceIte]
      try and_intros
      all_goals first | omega | (show okDraw _ _ = true; kernel_rfl) | rfl | (rw [hln]; exact Nat.le_refl _)


end Go.Proofs.Ytpppgmgdcpaffaa
