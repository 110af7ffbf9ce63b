/- vernierref13: Binom, BinomCdf, BinomTwo; vernierlaw13: long, known, by the abstract walk. Conditions: numbers of at most 1000 limbs. -/
import Derived.Test.YtpppgmgdcpaffaaHf
namespace Go.Proofs.Ytpppgmgdcpaffaa
open Go.RowKit
set_option linter.unusedSimpArgs false
set_option linter.unusedVariables false

def d_ref13_Binom : Den := den3 aInt aInt aRat (fun _ _ x => x.sz ≤ 1000) fun n k x => ratOkV (cr (bQ n k x.q)) (tryB n x.q)
set_option maxRecDepth 100000 in
set_option maxHeartbeats 1000000 in
theorem s_ref13_Binom : Sound Try.prog 52 d_ref13_Binom := by
  refine sound3 (fz := nofz) (l := [(96, d_ref13_bad), (39, d_ref2_Int), (97, d_ref13_parts), (36, d_ref2_Of)]) TT_ok ⟨s_ref13_bad, s_ref2_Int, s_ref13_parts, s_ref2_Of, trivial⟩ mixed Try.func52 Try.ntmps52 Try.results52 Try.call52 rfl (by omega) (fun _ _ _ => rfl) ?_
  intro a b c hp ha hb hc
  rw [codeK_start]
  have hsz : c.sz ≤ 1000 := hp
  have t0 : rs (0 : Rat) ≤ 1 := rs0 (by omega)
  have t1 : rs (1 : Rat) ≤ 1 := rs1 (by omega)
  unfold bQ
  by_cases ht : tryB a c.q = true
  · by_cases h1 : b < 0
    · have e : ¬ (tryB a c.q = true ∧ 0 ≤ b ∧ b ≤ a) := fun h => by omega
      rw [if_neg e]
      simp only [go_sem, d_ref13_bad, d_ref2_Int, d_ref13_parts, d_ref2_Of, int0, int1, decide_true, decide_false, val_limbs, Int.toNat_natCast, Bool.not_true, Bool.not_false, ht, h1, Nat.reduceBEq, Nat.reduceBNe, Nat.reduceLT, Nat.reduceLeDiff, Nat.reduceAdd, Nat.reduceSub, Nat.reduceMul, Nat.reduceEqDiff, Int.reduceNeg, Int.reduceAdd, Int.reduceLT, Int.reduceLE, Int.reduceToNat, ↓reduceIte]
      ((try and_intros) <;> first | exact trivial | omega | (show okDraw _ _ = true; kernel_rfl) | rfl | assumption)
    by_cases h2 : a < b
    · have e : ¬ (tryB a c.q = true ∧ 0 ≤ b ∧ b ≤ a) := fun h => by omega
      rw [if_neg e]
      simp only [go_sem, d_ref13_bad, d_ref2_Int, d_ref13_parts, d_ref2_Of, int0, int1, decide_true, decide_false, val_limbs, Int.toNat_natCast, Bool.not_true, Bool.not_false, ht, h1, h2, Nat.reduceBEq, Nat.reduceBNe, Nat.reduceLT, Nat.reduceLeDiff, Nat.reduceAdd, Nat.reduceSub, Nat.reduceMul, Nat.reduceEqDiff, Int.reduceNeg, Int.reduceAdd, Int.reduceLT, Int.reduceLE, Int.reduceToNat, ↓reduceIte]
      ((try and_intros) <;> first | exact trivial | omega | (show okDraw _ _ = true; kernel_rfl) | rfl | assumption)
    rw [if_pos ⟨ht, by omega, by omega⟩]
    obtain ⟨hn0, hn, hq0, hq1⟩ := try_of ht
    obtain ⟨n, rfl⟩ := Int.eq_ofNat_of_zero_le hn0
    have ld' : (limbs c.q.den).length ≤ 1000 := (ll_den hc hsz).2
    have hpw : (limbs (c.q.den ^ n)).length ≤ 256 * 1000 + 1 := ll_pow_le ld' (by omega)
    have hln := natRow_len (binN c.q n) (n + 1)
    have gb : ∀ m, m < n + 1 → ((natRow (binN c.q n) (n + 1)).map celLim.uc).getD m [] = [.lim none (limbs (binN c.q n m))] := fun m hm => by rw [getD_lims (by rw [natRow_len]; omega), natRow_get _ hm]; rfl
    have hlb := fun m => ll_bin hc hsz hq0 hq1 (show n ≤ 256 by omega) m
    obtain ⟨k, rfl⟩ := Int.eq_ofNat_of_zero_le (show 0 ≤ b by omega)
    have hgk := gb k (by omega)
    have hlk := hlb k
    simp only [go_sem, d_ref13_bad, d_ref2_Int, d_ref13_parts, d_ref2_Of, int0, int1, decide_true, decide_false, val_limbs, Int.toNat_natCast, Bool.not_true, Bool.not_false, ht, h1, h2, hgk, hln, Nat.reduceBEq, Nat.reduceBNe, Nat.reduceLT, Nat.reduceLeDiff, Nat.reduceAdd, Nat.reduceSub, Nat.reduceMul, Nat.reduceEqDiff, Int.reduceNeg, Int.reduceAdd, Int.reduceLT, Int.reduceLE, Int.reduceToNat, ↓reduceIte]
    ((try and_intros) <;> first | exact trivial | omega | (show okDraw _ _ = true; kernel_rfl) | rfl | assumption)
  · have ht' : tryB a c.q = false := by simpa using ht
    have e : ¬ (tryB a c.q = true ∧ 0 ≤ b ∧ b ≤ a) := fun h => ht h.1
    rw [if_neg e]
    simp only [go_sem, d_ref13_bad, d_ref2_Int, d_ref13_parts, d_ref2_Of, int0, int1, decide_true, decide_false, val_limbs, Int.toNat_natCast, Bool.not_true, Bool.not_false, ht', Nat.reduceBEq, Nat.reduceBNe, Nat.reduceLT, Nat.reduceLeDiff, Nat.reduceAdd, Nat.reduceSub, Nat.reduceMul, Nat.reduceEqDiff, Int.reduceNeg, Int.reduceAdd, Int.reduceLT, Int.reduceLE, Int.reduceToNat, ↓reduceIte]
    ((try and_intros) <;> first | exact trivial | omega | (show okDraw _ _ = true; kernel_rfl) | rfl | assumption)

def d_ref13_BinomCdf : Den := den3 aInt aInt aRat (fun _ _ x => x.sz ≤ 1000) fun n k x => ratOkV (cr (cQ n k x.q)) (tryB n x.q)
set_option maxRecDepth 100000 in
set_option maxHeartbeats 1000000 in
theorem s_ref13_BinomCdf : Sound Try.prog 54 d_ref13_BinomCdf := by
  refine sound3 (fz := nofz) (l := [(96, d_ref13_bad), (39, d_ref2_Int), (97, d_ref13_parts), (83, d_ref1_Add), (36, d_ref2_Of)]) TT_ok ⟨s_ref13_bad, s_ref2_Int, s_ref13_parts, s_ref1_Add, s_ref2_Of, trivial⟩ mixed Try.func54 Try.ntmps54 Try.results54 Try.call54 rfl (by omega) (fun _ _ _ => rfl) ?_
  intro a b c hp ha hb hc
  rw [codeK_start]
  have hsz : c.sz ≤ 1000 := hp
  have t0 : rs (0 : Rat) ≤ 1 := rs0 (by omega)
  have t1 : rs (1 : Rat) ≤ 1 := rs1 (by omega)
  by_cases ht : tryB a c.q = true
  · by_cases h2 : a ≤ b
    · have h2' := eq_true h2
      have h3 := try_of ht
      have e : cQ a b c.q = 1 := by unfold cQ; rw [if_pos ⟨ht, by omega⟩, if_pos h2]
      simp only [go_sem, d_ref13_bad, d_ref2_Int, d_ref13_parts, d_ref1_Add, d_ref2_Of, int0, int1, decide_true, decide_false, val_limbs, Int.toNat_natCast, Bool.not_true, Bool.not_false, ht, h2', e, Nat.reduceBEq, Nat.reduceBNe, Nat.reduceLT, Nat.reduceLeDiff, Nat.reduceAdd, Nat.reduceSub, Nat.reduceMul, Nat.reduceEqDiff, Int.reduceNeg, Int.reduceAdd, Int.reduceLT, Int.reduceLE, Int.reduceToNat, ↓reduceIte]
      ((try and_intros) <;> first | exact trivial | omega | (show okDraw _ _ = true; kernel_rfl) | rfl | assumption)
    have h2' := eq_false h2
    obtain ⟨hn0, hn, hq0, hq1⟩ := try_of ht
    obtain ⟨n, rfl⟩ := Int.eq_ofNat_of_zero_le hn0
    have ld' : (limbs c.q.den).length ≤ 1000 := (ll_den hc hsz).2
    have hpw : (limbs (c.q.den ^ n)).length ≤ 256 * 1000 + 1 := ll_pow_le ld' (by omega)
    have hln := natRow_len (binN c.q n) (n + 1)
    have gb : ∀ m, m < n + 1 → ((natRow (binN c.q n) (n + 1)).map celLim.uc).getD m [] = [.lim none (limbs (binN c.q n m))] := fun m hm => by rw [getD_lims (by rw [natRow_len]; omega), natRow_get _ hm]; rfl
    have hlb := fun m => ll_bin hc hsz hq0 hq1 (show n ≤ 256 by omega) m
    have hb1 : b < (n : Nat) := by omega
    have hK : ((b + 1).toNat : Int) ≤ (n : Nat) := by omega
    have hres : qv false (sumN (binN c.q n) (b + 1).toNat) (c.q.den ^ n) = cQ ((n : Nat) : Int) b c.q := by
      unfold cQ
      by_cases hb0 : 0 ≤ b
      · rw [if_pos ⟨ht, hb0⟩, if_neg h2]
        unfold cdfQ
        rw [Int.toNat_natCast, show (b + 1).toNat = b.toNat + 1 by omega]
      · rw [if_neg (fun h => hb0 h.2), show (b + 1).toNat = 0 by omega]
        exact qv_zero_num _ _
    have hsm : ∀ m, m ≤ n + 1 → (limbs (sumN (binN c.q n) m)).length ≤ 256 * 1000 + 1 := fun m hm => Nat.le_trans (ll_mono (by rw [← binN_all hq0 hq1 n]; exact sumN_part hm)) (ll_pow_le ld' (by omega))
    have hz0 : limbs (sumN (binN c.q n) 0) = [] := limbs_zero'
    simp only [go_sem, d_ref13_bad, d_ref2_Int, d_ref13_parts, d_ref1_Add, d_ref2_Of, int0, int1, decide_true, decide_false, val_limbs, Int.toNat_natCast, Bool.not_true, Bool.not_false, ht, h2', Nat.reduceBEq, Nat.reduceBNe, Nat.reduceLT, Nat.reduceLeDiff, Nat.reduceAdd, Nat.reduceSub, Nat.reduceMul, Nat.reduceEqDiff, Int.reduceNeg, Int.reduceAdd, Int.reduceLT, Int.reduceLE, Int.reduceToNat, ↓reduceIte]
    and_intros
    all_goals try (first | omega | (show okDraw _ _ = true; kernel_rfl))
    refine codeK_loop (fun j : { j : Nat // j ≤ (b + 1).toNat } => [(11, 0, .av (intV ((j.1 : Nat)))), (10, 0, .av (natV (sumN (binN c.q n) j.1))), (8, 0, .av (rowV celLim (natRow (binN c.q n) (n + 1)))), (9, 0, .av (natV (c.q.den ^ n))), (1, 0, .av (intV (b))), (6, 0, .av (.one (.cel (.ptr 6 0)))), (6, 1, .cv (.bool false)), (6, 2, .cv .nil), (6, 3, .cv .nil)]) (fun j => (b + 1).toNat - j.1) ⟨0, by omega⟩ ?_ ?_
    · refine Le.trans (b := [(11, 0, .av (intV ((0 : Nat)))), (10, 0, .av (limV [])), (8, 0, .av (rowV celLim (natRow (binN c.q n) (n + 1)))), (9, 0, .av (natV (c.q.den ^ n))), (1, 0, .av (intV (b))), (6, 0, .av (.one (.cel (.ptr 6 0)))), (6, 1, .cv (.bool false)), (6, 2, .cv .nil), (6, 3, .cv .nil)]) (le_ofW ?_) (le_of ?_)
      · simp only [go_sem, leW, Nat.reduceBEq, Nat.reduceBNe, Nat.reduceLT, Nat.reduceLeDiff, Nat.reduceAdd, Nat.reduceSub, Nat.reduceMul, Nat.reduceEqDiff, Int.reduceNeg, Int.reduceAdd, Int.reduceLT, Int.reduceLE, Int.reduceToNat, ↓reduceIte, Option.some.injEq, exists_eq_left', and_true]
        and_intros
        all_goals first | exact RVle.refl _ | exact RVle_nil | exact ⟨_, rfl, RVle.refl _⟩ | exact ⟨_, rfl, RVle_nil⟩
      · simp only [go_sem, leL, hz0, Nat.reduceBEq, Nat.reduceBNe, Nat.reduceLT, Nat.reduceLeDiff, Nat.reduceAdd, Nat.reduceSub, Nat.reduceMul, Nat.reduceEqDiff, Int.reduceNeg, Int.reduceAdd, Int.reduceLT, Int.reduceLE, Int.reduceToNat, ↓reduceIte, Int.ofNat_zero, Int.natCast_zero, Int.cast_ofNat_Int]
    · rintro ⟨j, hj0⟩
      have hj0 : j ≤ (b + 1).toNat := hj0
      have hs1 := hsm j (by omega)
      by_cases hj : j < (b + 1).toNat
      · have hjt : (((j : Nat) : Int) ≤ b) = True := eq_true (by omega)
        have hgj := gb j (by omega)
        have hlj := hlb j
        have hnx : sumN (binN c.q n) (j + 1) = sumN (binN c.q n) j + binN c.q n j := rfl
        simp only [go_sem, d_ref13_bad, d_ref2_Int, d_ref13_parts, d_ref1_Add, d_ref2_Of, int0, int1, decide_true, decide_false, val_limbs, Int.toNat_natCast, Bool.not_true, Bool.not_false, hjt, hgj, hln, Nat.reduceBEq, Nat.reduceBNe, Nat.reduceLT, Nat.reduceLeDiff, Nat.reduceAdd, Nat.reduceSub, Nat.reduceMul, Nat.reduceEqDiff, Int.reduceNeg, Int.reduceAdd, Int.reduceLT, Int.reduceLE, Int.reduceToNat, ↓reduceIte]
        ((try and_intros) <;> first | exact trivial | omega | (show okDraw _ _ = true; kernel_rfl) | (show ∃ _, _; exact ⟨⟨j + 1, by omega⟩, by show (b + 1).toNat - (j + 1) < (b + 1).toNat - j; omega, le_of (by simp only [go_sem, leL, hnx, Nat.reduceBEq, Nat.reduceBNe, Nat.reduceLT, Nat.reduceLeDiff, Nat.reduceAdd, Nat.reduceSub, Nat.reduceMul, Nat.reduceEqDiff, Int.reduceNeg, Int.reduceAdd, Int.reduceLT, Int.reduceLE, Int.reduceToNat, ↓reduceIte]; try omega)⟩) | assumption)
      · have hjt : (((j : Nat) : Int) ≤ b) = False := eq_false (by omega)
        have ej : j = (b + 1).toNat := by omega
        subst ej
        simp only [go_sem, d_ref13_bad, d_ref2_Int, d_ref13_parts, d_ref1_Add, d_ref2_Of, int0, int1, decide_true, decide_false, val_limbs, Int.toNat_natCast, Bool.not_true, Bool.not_false, hjt, hres, ht, Nat.reduceBEq, Nat.reduceBNe, Nat.reduceLT, Nat.reduceLeDiff, Nat.reduceAdd, Nat.reduceSub, Nat.reduceMul, Nat.reduceEqDiff, Int.reduceNeg, Int.reduceAdd, Int.reduceLT, Int.reduceLE, Int.reduceToNat, ↓reduceIte]
        ((try and_intros) <;> first | exact trivial | omega | (show okDraw _ _ = true; kernel_rfl) | rfl | assumption)
  · have ht' : tryB a c.q = false := by simpa using ht
    have e : cQ a b c.q = 0 := by unfold cQ; rw [if_neg (fun h => ht h.1)]
    simp only [go_sem, d_ref13_bad, d_ref2_Int, d_ref13_parts, d_ref1_Add, d_ref2_Of, int0, int1, decide_true, decide_false, val_limbs, Int.toNat_natCast, Bool.not_true, Bool.not_false, ht', e, Nat.reduceBEq, Nat.reduceBNe, Nat.reduceLT, Nat.reduceLeDiff, Nat.reduceAdd, Nat.reduceSub, Nat.reduceMul, Nat.reduceEqDiff, Int.reduceNeg, Int.reduceAdd, Int.reduceLT, Int.reduceLE, Int.reduceToNat, ↓reduceIte]
    ((try and_intros) <;> first | exact trivial | omega | (show okDraw _ _ = true; kernel_rfl) | rfl | assumption)

def d_ref13_BinomTwo : Den := den3 aInt aInt aRat (fun _ _ x => x.sz ≤ 1000) fun n k x => ratOkV (cr (tQ n k x.q)) (twoB n k x.q)
set_option maxRecDepth 100000 in
set_option maxHeartbeats 1000000 in
theorem s_ref13_BinomTwo : Sound Try.prog 55 d_ref13_BinomTwo := by
  refine sound3 (fz := nofz) (l := [(96, d_ref13_bad), (39, d_ref2_Int), (97, d_ref13_parts), (84, d_ref1_Cmp), (83, d_ref1_Add), (36, d_ref2_Of)]) TT_ok ⟨s_ref13_bad, s_ref2_Int, s_ref13_parts, s_ref1_Cmp, s_ref1_Add, s_ref2_Of, trivial⟩ mixed Try.func55 Try.ntmps55 Try.results55 Try.call55 rfl (by omega) (fun _ _ _ => rfl) ?_
  intro a b c hp ha hb hc
  rw [codeK_start]
  have hsz : c.sz ≤ 1000 := hp
  have t0 : rs (0 : Rat) ≤ 1 := rs0 (by omega)
  have t1 : rs (1 : Rat) ≤ 1 := rs1 (by omega)
  unfold tQ twoB
  by_cases ht : tryB a c.q = true
  · by_cases h1 : b < 0
    · have e : ¬ (tryB a c.q = true ∧ 0 ≤ b ∧ b ≤ a) := fun h => by omega
      have d1 : (0 ≤ b) = False := eq_false (by omega)
      rw [if_neg e]
      simp only [go_sem, d_ref13_bad, d_ref2_Int, d_ref13_parts, d_ref1_Cmp, d_ref1_Add, d_ref2_Of, int0, int1, decide_true, decide_false, val_limbs, Int.toNat_natCast, Bool.not_true, Bool.not_false, Bool.and_true, Bool.and_false, ht, h1, d1, Nat.reduceBEq, Nat.reduceBNe, Nat.reduceLT, Nat.reduceLeDiff, Nat.reduceAdd, Nat.reduceSub, Nat.reduceMul, Nat.reduceEqDiff, Int.reduceNeg, Int.reduceAdd, Int.reduceLT, Int.reduceLE, Int.reduceToNat, ↓reduceIte]
      ((try and_intros) <;> first | exact trivial | omega | (show okDraw _ _ = true; kernel_rfl) | rfl | assumption)
    by_cases h2 : a < b
    · have e : ¬ (tryB a c.q = true ∧ 0 ≤ b ∧ b ≤ a) := fun h => by omega
      have d1 : (0 ≤ b) = True := eq_true (by omega)
      have d2 : (b ≤ a) = False := eq_false (by omega)
      rw [if_neg e]
      simp only [go_sem, d_ref13_bad, d_ref2_Int, d_ref13_parts, d_ref1_Cmp, d_ref1_Add, d_ref2_Of, int0, int1, decide_true, decide_false, val_limbs, Int.toNat_natCast, Bool.not_true, Bool.not_false, Bool.and_true, Bool.and_false, ht, h1, h2, d1, d2, Nat.reduceBEq, Nat.reduceBNe, Nat.reduceLT, Nat.reduceLeDiff, Nat.reduceAdd, Nat.reduceSub, Nat.reduceMul, Nat.reduceEqDiff, Int.reduceNeg, Int.reduceAdd, Int.reduceLT, Int.reduceLE, Int.reduceToNat, ↓reduceIte]
      ((try and_intros) <;> first | exact trivial | omega | (show okDraw _ _ = true; kernel_rfl) | rfl | assumption)
    rw [if_pos ⟨ht, by omega, by omega⟩, decide_eq_true (show 0 ≤ b by omega), decide_eq_true (show b ≤ a by omega)]
    obtain ⟨hn0, hn, hq0, hq1⟩ := try_of ht
    obtain ⟨n, rfl⟩ := Int.eq_ofNat_of_zero_le hn0
    have ld' : (limbs c.q.den).length ≤ 1000 := (ll_den hc hsz).2
    have hpw : (limbs (c.q.den ^ n)).length ≤ 256 * 1000 + 1 := ll_pow_le ld' (by omega)
    have hln := natRow_len (binN c.q n) (n + 1)
    have gb : ∀ m, m < n + 1 → ((natRow (binN c.q n) (n + 1)).map celLim.uc).getD m [] = [.lim none (limbs (binN c.q n m))] := fun m hm => by rw [getD_lims (by rw [natRow_len]; omega), natRow_get _ hm]; rfl
    have hlb := fun m => ll_bin hc hsz hq0 hq1 (show n ≤ 256 by omega) m
    obtain ⟨k, rfl⟩ := Int.eq_ofNat_of_zero_le (show 0 ≤ b by omega)
    have hgk := gb k (by omega)
    have hlk := hlb k
    have hsm : ∀ m, m ≤ n + 1 → (limbs (twoN c.q n k m)).length ≤ 256 * 1000 + 1 := fun m hm => Nat.le_trans (ll_mono (twoN_le hq0 hq1 n k hm)) (ll_pow_le ld' (by omega))
    have hz0 : limbs (twoN c.q n k 0) = [] := limbs_zero'
    simp only [go_sem, d_ref13_bad, d_ref2_Int, d_ref13_parts, d_ref1_Cmp, d_ref1_Add, d_ref2_Of, int0, int1, decide_true, decide_false, val_limbs, Int.toNat_natCast, Bool.not_true, Bool.not_false, Bool.and_true, Bool.and_false, ht, h1, h2, Nat.reduceBEq, Nat.reduceBNe, Nat.reduceLT, Nat.reduceLeDiff, Nat.reduceAdd, Nat.reduceSub, Nat.reduceMul, Nat.reduceEqDiff, Int.reduceNeg, Int.reduceAdd, Int.reduceLT, Int.reduceLE, Int.reduceToNat, ↓reduceIte]
    and_intros
    all_goals try (first | omega | (show okDraw _ _ = true; kernel_rfl))
    refine codeK_loop (fun j : { j : Nat // j ≤ n + 1 } => [(11, 0, .av (intV ((j.1 : Nat)))), (10, 0, .av (natV (twoN c.q n k j.1))), (8, 0, .av (rowV celLim (natRow (binN c.q n) (n + 1)))), (9, 0, .av (natV (c.q.den ^ n))), (0, 0, .av (intV ((n : Nat)))), (1, 0, .av (intV ((k : Nat)))), (6, 0, .av (.one (.cel (.ptr 6 0)))), (6, 1, .cv (.bool false)), (6, 2, .cv .nil), (6, 3, .cv .nil)]) (fun j => n + 1 - j.1) ⟨0, by omega⟩ ?_ ?_
    · refine Le.trans (b := [(11, 0, .av (intV ((0 : Nat)))), (10, 0, .av (limV [])), (8, 0, .av (rowV celLim (natRow (binN c.q n) (n + 1)))), (9, 0, .av (natV (c.q.den ^ n))), (0, 0, .av (intV ((n : Nat)))), (1, 0, .av (intV ((k : Nat)))), (6, 0, .av (.one (.cel (.ptr 6 0)))), (6, 1, .cv (.bool false)), (6, 2, .cv .nil), (6, 3, .cv .nil)]) (le_ofW ?_) (le_of ?_)
      · simp only [go_sem, leW, Nat.reduceBEq, Nat.reduceBNe, Nat.reduceLT, Nat.reduceLeDiff, Nat.reduceAdd, Nat.reduceSub, Nat.reduceMul, Nat.reduceEqDiff, Int.reduceNeg, Int.reduceAdd, Int.reduceLT, Int.reduceLE, Int.reduceToNat, ↓reduceIte, Option.some.injEq, exists_eq_left', and_true]
        and_intros
        all_goals first | exact RVle.refl _ | exact RVle_nil | exact ⟨_, rfl, RVle.refl _⟩ | exact ⟨_, rfl, RVle_nil⟩
      · simp only [go_sem, leL, hz0, Nat.reduceBEq, Nat.reduceBNe, Nat.reduceLT, Nat.reduceLeDiff, Nat.reduceAdd, Nat.reduceSub, Nat.reduceMul, Nat.reduceEqDiff, Int.reduceNeg, Int.reduceAdd, Int.reduceLT, Int.reduceLE, Int.reduceToNat, ↓reduceIte, Int.ofNat_zero, Int.natCast_zero, Int.cast_ofNat_Int]
    · rintro ⟨j, hj0⟩
      have hj0 : j ≤ n + 1 := hj0
      have hs1 := hsm j (by omega)
      by_cases hj : j < n + 1
      · have hjt : (((j : Nat) : Int) ≤ ((n : Nat) : Int)) = True := eq_true (by omega)
        have hgj := gb j (by omega)
        have hlj := hlb j
        by_cases hle : binN c.q n j ≤ binN c.q n k
        · have hlet := eq_true hle
          have hnx : twoN c.q n k (j + 1) = twoN c.q n k j + binN c.q n j := by show twoN c.q n k j + (if binN c.q n j ≤ binN c.q n k then binN c.q n j else 0) = _; rw [if_pos hle]
          simp only [go_sem, d_ref13_bad, d_ref2_Int, d_ref13_parts, d_ref1_Cmp, d_ref1_Add, d_ref2_Of, int0, int1, decide_true, decide_false, val_limbs, Int.toNat_natCast, Bool.not_true, Bool.not_false, Bool.and_true, Bool.and_false, hjt, hgj, hgk, hln, hlet, Nat.reduceBEq, Nat.reduceBNe, Nat.reduceLT, Nat.reduceLeDiff, Nat.reduceAdd, Nat.reduceSub, Nat.reduceMul, Nat.reduceEqDiff, Int.reduceNeg, Int.reduceAdd, Int.reduceLT, Int.reduceLE, Int.reduceToNat, ↓reduceIte]
          ((try and_intros) <;> first | exact trivial | omega | (show okDraw _ _ = true; kernel_rfl) | (show ∃ _, _; exact ⟨⟨j + 1, by omega⟩, by show n + 1 - (j + 1) < n + 1 - j; omega, le_of (by simp only [go_sem, leL, hnx, Nat.reduceBEq, Nat.reduceBNe, Nat.reduceLT, Nat.reduceLeDiff, Nat.reduceAdd, Nat.reduceSub, Nat.reduceMul, Nat.reduceEqDiff, Int.reduceNeg, Int.reduceAdd, Int.reduceLT, Int.reduceLE, Int.reduceToNat, ↓reduceIte]; try omega)⟩) | assumption)
        · have hlet := eq_false hle
          have hnx : twoN c.q n k (j + 1) = twoN c.q n k j := by show twoN c.q n k j + (if binN c.q n j ≤ binN c.q n k then binN c.q n j else 0) = _; rw [if_neg hle]; rfl
          simp only [go_sem, d_ref13_bad, d_ref2_Int, d_ref13_parts, d_ref1_Cmp, d_ref1_Add, d_ref2_Of, int0, int1, decide_true, decide_false, val_limbs, Int.toNat_natCast, Bool.not_true, Bool.not_false, Bool.and_true, Bool.and_false, hjt, hgj, hgk, hln, hlet, Nat.reduceBEq, Nat.reduceBNe, Nat.reduceLT, Nat.reduceLeDiff, Nat.reduceAdd, Nat.reduceSub, Nat.reduceMul, Nat.reduceEqDiff, Int.reduceNeg, Int.reduceAdd, Int.reduceLT, Int.reduceLE, Int.reduceToNat, ↓reduceIte]
          ((try and_intros) <;> first | exact trivial | omega | (show okDraw _ _ = true; kernel_rfl) | (show ∃ _, _; exact ⟨⟨j + 1, by omega⟩, by show n + 1 - (j + 1) < n + 1 - j; omega, le_of (by simp only [go_sem, leL, hnx, Nat.reduceBEq, Nat.reduceBNe, Nat.reduceLT, Nat.reduceLeDiff, Nat.reduceAdd, Nat.reduceSub, Nat.reduceMul, Nat.reduceEqDiff, Int.reduceNeg, Int.reduceAdd, Int.reduceLT, Int.reduceLE, Int.reduceToNat, ↓reduceIte]; try omega)⟩) | assumption)
      · have hjt : (((j : Nat) : Int) ≤ ((n : Nat) : Int)) = False := eq_false (by omega)
        have ej : j = n + 1 := by omega
        subst ej
        simp only [go_sem, d_ref13_bad, d_ref2_Int, d_ref13_parts, d_ref1_Cmp, d_ref1_Add, d_ref2_Of, int0, int1, decide_true, decide_false, val_limbs, Int.toNat_natCast, Bool.not_true, Bool.not_false, Bool.and_true, Bool.and_false, hjt, ht, Nat.reduceBEq, Nat.reduceBNe, Nat.reduceLT, Nat.reduceLeDiff, Nat.reduceAdd, Nat.reduceSub, Nat.reduceMul, Nat.reduceEqDiff, Int.reduceNeg, Int.reduceAdd, Int.reduceLT, Int.reduceLE, Int.reduceToNat, ↓reduceIte]
        ((try and_intros) <;> first | exact trivial | omega | (show okDraw _ _ = true; kernel_rfl) | rfl | assumption)
  · have ht' : tryB a c.q = false := by simpa using ht
    have e : ¬ (tryB a c.q = true ∧ 0 ≤ b ∧ b ≤ a) := fun h => ht h.1
    rw [if_neg e]
    simp only [go_sem, d_ref13_bad, d_ref2_Int, d_ref13_parts, d_ref1_Cmp, d_ref1_Add, d_ref2_Of, int0, int1, decide_true, decide_false, val_limbs, Int.toNat_natCast, Bool.not_true, Bool.not_false, Bool.and_true, Bool.and_false, ht', Nat.reduceBEq, Nat.reduceBNe, Nat.reduceLT, Nat.reduceLeDiff, Nat.reduceAdd, Nat.reduceSub, Nat.reduceMul, Nat.reduceEqDiff, Int.reduceNeg, Int.reduceAdd, Int.reduceLT, Int.reduceLE, Int.reduceToNat, ↓reduceIte]
    ((try and_intros) <;> first | exact trivial | omega | (show okDraw _ _ = true; kernel_rfl) | rfl | assumption)

def longR (x : RR) : Bool := decide (1 < x.n.length) || decide (1 < x.d.length)
theorem not_long {x : RR} (h : longR x = false) : x.sz ≤ 1 := by
  unfold longR at h
  rw [Bool.or_eq_false_iff] at h
  have h1 := of_decide_eq_false h.1
  have h2 := of_decide_eq_false h.2
  exact RR.sz_le (by omega) (by omega)

def d_law13_long : Den := den1 aRat (fun x => x.sz ≤ 100000000000000) fun x => boolV (longR x)
set_option maxRecDepth 100000 in
set_option maxHeartbeats 1000000 in
theorem s_law13_long : Sound Try.prog 48 d_law13_long := by
  refine sound1 (fz := nofz) (l := []) TT_ok trivial mixed Try.func48 Try.ntmps48 Try.results48 Try.call48 rfl (by omega) (fun _ => rfl) ?_
  intro a hp ha
  rw [codeK_start]
  have lx := RR.lens hp
  unfold longR
  by_cases c1 : 1 < a.n.length
  · have c1' : ((1 : Int) < (a.n.length : Nat)) = True := eq_true (by omega)
    have c1t := eq_true c1
    simp only [go_sem, decide_true, decide_false, c1', c1t, Nat.reduceBEq, Nat.reduceBNe, Nat.reduceLT, Nat.reduceLeDiff, Nat.reduceAdd, Nat.reduceSub, Nat.reduceMul, Nat.reduceEqDiff, Int.reduceNeg, Int.reduceAdd, Int.reduceLT, Int.reduceLE, Int.reduceToNat, ↓reduceIte]
    try ((try and_intros) <;> first | exact trivial | omega | (show okDraw _ _ = true; kernel_rfl) | assumption)
  have c1' : ((1 : Int) < (a.n.length : Nat)) = False := eq_false (by omega)
  have c1t := eq_false c1
  by_cases c2 : 1 < a.d.length
  · have c2' : ((1 : Int) < (a.d.length : Nat)) = True := eq_true (by omega)
    have c2t := eq_true c2
    simp only [go_sem, decide_true, decide_false, c1', c1t, c2', c2t, Nat.reduceBEq, Nat.reduceBNe, Nat.reduceLT, Nat.reduceLeDiff, Nat.reduceAdd, Nat.reduceSub, Nat.reduceMul, Nat.reduceEqDiff, Int.reduceNeg, Int.reduceAdd, Int.reduceLT, Int.reduceLE, Int.reduceToNat, ↓reduceIte]
    try ((try and_intros) <;> first | exact trivial | omega | (show okDraw _ _ = true; kernel_rfl) | assumption)
  have c2' : ((1 : Int) < (a.d.length : Nat)) = False := eq_false (by omega)
  have c2t := eq_false c2
  simp only [go_sem, decide_true, decide_false, c1', c1t, c2', c2t, Nat.reduceBEq, Nat.reduceBNe, Nat.reduceLT, Nat.reduceLeDiff, Nat.reduceAdd, Nat.reduceSub, Nat.reduceMul, Nat.reduceEqDiff, Int.reduceNeg, Int.reduceAdd, Int.reduceLT, Int.reduceLE, Int.reduceToNat, ↓reduceIte]
  try ((try and_intros) <;> first | exact trivial | omega | (show okDraw _ _ = true; kernel_rfl) | assumption)

def d_law13_known : Den := den0 (boolV true)
set_option maxRecDepth 100000 in
set_option maxHeartbeats 1000000 in
theorem s_law13_known : Sound Try.prog 50 d_law13_known := by
  refine sound0 (fz := nofz) (l := [(36, d_ref2_Of), (49, d_disc_Binom), (34, d_ref2_Same)]) TT_ok ⟨s_ref2_Of, s_disc_Binom, s_ref2_Same, trivial⟩ mixed Try.func50 Try.ntmps50 Try.results50 Try.call50 rfl rfl ?_
  rw [codeK_start]
  have e1 : tryB 2 (qv false 1 (val [2])) = true := by decide +kernel
  have e2 : bQ 2 1 (qv false 1 (val [2])) = qv false 1 (val [2]) := by decide +kernel
  have hz : rs (qv false 1 (val [2])) ≤ 1 := by
    show rs (qv false 1 2) ≤ 1
    exact rs_qv _ _ _ _ (by decide) (by decide) (by omega)
  simp only [go_sem, d_ref2_Of, d_disc_Binom, d_ref2_Same, decide_true, decide_false, e1, e2, eq_self, Nat.reduceBEq, Nat.reduceBNe, Nat.reduceLT, Nat.reduceLeDiff, Nat.reduceAdd, Nat.reduceSub, Nat.reduceMul, Nat.reduceEqDiff, Int.reduceNeg, Int.reduceAdd, Int.reduceLT, Int.reduceLE, Int.reduceToNat, ↓reduceIte]
  ((try and_intros) <;> first | exact trivial | omega | (show okDraw _ _ = true; kernel_rfl) | assumption)


end Go.Proofs.Ytpppgmgdcpaffaa
