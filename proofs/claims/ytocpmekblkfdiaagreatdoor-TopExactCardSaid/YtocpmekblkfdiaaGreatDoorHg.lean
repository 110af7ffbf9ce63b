/- vernierref13: Binom, BinomCdf, BinomTwo; vernierlaw13: long, known, by the abstract walk. Conditions: numbers of at most 1000 limbs. What the laws of chapter 13 ask of chances. No condition. -/
import Derived.Test.YtocpmekblkfdiaaGreatDoorHe
namespace Go.Proofs.YtocpmekblkfdiaaGreatDoor
open Go.RowKit
set_option linter.unusedSimpArgs false
set_option linter.unusedVariables false
def d_ref13_BinomCdf : Den := den3 aInt aInt aRat (fun _ _ x => x.sz ≤ 1000) fun n k x => ratOkV (cr (cQ n k x.q)) (tryB n x.q)
set_option maxRecDepth 100000 in
set_option maxHeartbeats 1000000 in
theorem s_ref13_BinomCdf : Sound Tryz.prog 7 d_ref13_BinomCdf := by
  refine sound3 (fz := nofz) (l := [(17, d_ref13_bad), (5, d_ref2_Int), (18, d_ref13_parts), (19, d_ref1_Add), (13, d_ref2_Of)]) TT_ok ⟨s_ref13_bad, s_ref2_Int, s_ref13_parts, s_ref1_Add, s_ref2_Of, trivial⟩ mixed Tryz.func7 Tryz.ntmps7 Tryz.results7 Tryz.call7 rfl (by omega) (fun _ _ _ => rfl) ?_
  intro a b c hp ha hb hc
  rw [codeK_start]
  have hsz : c.sz ≤ 1000 := hp
  have t0 : rs (0 : Rat) ≤ 1 := rs0 (by omega)
  have t1 : rs (1 : Rat) ≤ 1 := rs1 (by omega)
  by_cases ht : tryB a c.q = true
  · by_cases h2 : a ≤ b
    · have h2' := eq_true h2
      have h3 := try_of ht
      have e : cQ a b c.q = 1 := by unfold cQ; rw [if_pos ⟨ht, by omega⟩, if_pos h2]
      simp only [go_sem, d_ref13_bad, d_ref2_Int, d_ref13_parts, d_ref1_Add, d_ref2_Of, int0, int1, decide_true, decide_false, val_limbs, Int.toNat_natCast, Bool.not_true, Bool.not_false, ht, h2', e, Nat.reduceBEq, Nat.reduceBNe, Nat.reduceLT, Nat.reduceLeDiff, Nat.reduceAdd, Nat.reduceSub, Nat.reduceMul, Nat.reduceEqDiff, Int.reduceNeg, Int.reduceAdd, Int.reduceLT, Int.reduceLE, Int.reduceToNat, ↓reduceIte]
      ((try and_intros) <;> first | exact trivial | omega | (show okDraw _ _ = true; kernel_rfl) | rfl | assumption)
    have h2' := eq_false h2
    obtain ⟨hn0, hn, hq0, hq1⟩ := try_of ht
    obtain ⟨n, rfl⟩ := Int.eq_ofNat_of_zero_le hn0
    have ld' : (limbs c.q.den).length ≤ 1000 := (ll_den hc hsz).2
    have hpw : (limbs (c.q.den ^ n)).length ≤ 256 * 1000 + 1 := ll_pow_le ld' (by omega)
    have hln := natRow_len (binN c.q n) (n + 1)
    have gb : ∀ m, m < n + 1 → ((natRow (binN c.q n) (n + 1)).map celLim.uc).getD m [] = [.lim none (limbs (binN c.q n m))] := fun m hm => by rw [getD_lims (by rw [natRow_len]; omega), natRow_get _ hm]; rfl
    have hlb := fun m => ll_bin hc hsz hq0 hq1 (show n ≤ 256 by omega) m
    have hb1 : b < (n : Nat) := by omega
    have hK : ((b + 1).toNat : Int) ≤ (n : Nat) := by omega
    have hres : qv false (sumN (binN c.q n) (b + 1).toNat) (c.q.den ^ n) = cQ ((n : Nat) : Int) b c.q := by
      unfold cQ
      by_cases hb0 : 0 ≤ b
      · rw [if_pos ⟨ht, hb0⟩, if_neg h2]
        unfold cdfQ
        rw [Int.toNat_natCast, show (b + 1).toNat = b.toNat + 1 by omega]
      · rw [if_neg (fun h => hb0 h.2), show (b + 1).toNat = 0 by omega]
        exact qv_zero_num _ _
    have hsm : ∀ m, m ≤ n + 1 → (limbs (sumN (binN c.q n) m)).length ≤ 256 * 1000 + 1 := fun m hm => Nat.le_trans (ll_mono (by rw [← binN_all hq0 hq1 n]; exact sumN_part hm)) (ll_pow_le ld' (by omega))
    have hz0 : limbs (sumN (binN c.q n) 0) = [] := limbs_zero'
    simp only [go_sem, d_ref13_bad, d_ref2_Int, d_ref13_parts, d_ref1_Add, d_ref2_Of, int0, int1, decide_true, decide_false, val_limbs, Int.toNat_natCast, Bool.not_true, Bool.not_false, ht, h2', Nat.reduceBEq, Nat.reduceBNe, Nat.reduceLT, Nat.reduceLeDiff, Nat.reduceAdd, Nat.reduceSub, Nat.reduceMul, Nat.reduceEqDiff, Int.reduceNeg, Int.reduceAdd, Int.reduceLT, Int.reduceLE, Int.reduceToNat, ↓reduceIte]
    and_intros
    all_goals try (first | omega | (show okDraw _ _ = true; kernel_rfl))
    refine codeK_loop (fun j : { j : Nat // j ≤ (b + 1).toNat } => [(11, 0, .av (intV ((j.1 : Nat)))), (10, 0, .av (natV (sumN (binN c.q n) j.1))), (8, 0, .av (rowV celLim (natRow (binN c.q n) (n + 1)))), (9, 0, .av (natV (c.q.den ^ n))), (1, 0, .av (intV (b))), (6, 0, .av (.one (.cel (.ptr 6 0)))), (6, 1, .cv (.bool false)), (6, 2, .cv .nil), (6, 3, .cv .nil)]) (fun j => (b + 1).toNat - j.1) ⟨0, by omega⟩ ?_ ?_
    · refine Le.trans (b := [(11, 0, .av (intV ((0 : Nat)))), (10, 0, .av (limV [])), (8, 0, .av (rowV celLim (natRow (binN c.q n) (n + 1)))), (9, 0, .av (natV (c.q.den ^ n))), (1, 0, .av (intV (b))), (6, 0, .av (.one (.cel (.ptr 6 0)))), (6, 1, .cv (.bool false)), (6, 2, .cv .nil), (6, 3, .cv .nil)]) (le_ofW ?_) (le_of ?_)
      · simp only [go_sem, leW, Nat.reduceBEq, Nat.reduceBNe, Nat.reduceLT, Nat.reduceLeDiff, Nat.reduceAdd, Nat.reduceSub, Nat.reduceMul, Nat.reduceEqDiff, Int.reduceNeg, Int.reduceAdd, Int.reduceLT, Int.reduceLE, Int.reduceToNat, ↓reduceIte, Option.some.injEq, exists_eq_left', and_true]
        and_intros
        all_goals first | exact RVle.refl _ | exact RVle_nilH | exact ⟨_, rfl, RVle.refl _⟩ | exact ⟨_, rfl, RVle_nilH⟩
      · simp only [go_sem, leL, hz0, Nat.reduceBEq, Nat.reduceBNe, Nat.reduceLT, Nat.reduceLeDiff, Nat.reduceAdd, Nat.reduceSub, Nat.reduceMul, Nat.reduceEqDiff, Int.reduceNeg, Int.reduceAdd, Int.reduceLT, Int.reduceLE, Int.reduceToNat, ↓reduceIte, Int.ofNat_zero, Int.natCast_zero, Int.cast_ofNat_Int]
    · rintro ⟨j, hj0⟩
      have hj0 : j ≤ (b + 1).toNat := hj0
      have hs1 := hsm j (by omega)
      by_cases hj : j < (b + 1).toNat
      · have hjt : (((j : Nat) : Int) ≤ b) = True := eq_true (by omega)
        have hgj := gb j (by omega)
        have hlj := hlb j
        have hnx : sumN (binN c.q n) (j + 1) = sumN (binN c.q n) j + binN c.q n j := rfl
        simp only [go_sem, d_ref13_bad, d_ref2_Int, d_ref13_parts, d_ref1_Add, d_ref2_Of, int0, int1, decide_true, decide_false, val_limbs, Int.toNat_natCast, Bool.not_true, Bool.not_false, hjt, hgj, hln, Nat.reduceBEq, Nat.reduceBNe, Nat.reduceLT, Nat.reduceLeDiff, Nat.reduceAdd, Nat.reduceSub, Nat.reduceMul, Nat.reduceEqDiff, Int.reduceNeg, Int.reduceAdd, Int.reduceLT, Int.reduceLE, Int.reduceToNat, ↓reduceIte]
        ((try and_intros) <;> first | exact trivial | omega | (show okDraw _ _ = true; kernel_rfl) | (show ∃ _, _; exact ⟨⟨j + 1, by omega⟩, by show (b + 1).toNat - (j + 1) < (b + 1).toNat - j; omega, le_of (by simp only [go_sem, leL, hnx, Nat.reduceBEq, Nat.reduceBNe, Nat.reduceLT, Nat.reduceLeDiff, Nat.reduceAdd, Nat.reduceSub, Nat.reduceMul, Nat.reduceEqDiff, Int.reduceNeg, Int.reduceAdd, Int.reduceLT, Int.reduceLE, Int.reduceToNat, ↓reduceIte]; try omega)⟩) | assumption)
      · have hjt : (((j : Nat) : Int) ≤ b) = False := eq_false (by omega)
        have ej : j = (b + 1).toNat := by omega
        subst ej
        simp only [go_sem, d_ref13_bad, d_ref2_Int, d_ref13_parts, d_ref1_Add, d_ref2_Of, int0, int1, decide_true, decide_false, val_limbs, Int.toNat_natCast, Bool.not_true, Bool.not_false, hjt, hres, ht, Nat.reduceBEq, Nat.reduceBNe, Nat.reduceLT, Nat.reduceLeDiff, Nat.reduceAdd, Nat.reduceSub, Nat.reduceMul, Nat.reduceEqDiff, Int.reduceNeg, Int.reduceAdd, Int.reduceLT, Int.reduceLE, Int.reduceToNat, ↓reduceIte]
        ((try and_intros) <;> first | exact trivial | omega | (show okDraw _ _ = true; kernel_rfl) | rfl | assumption)
  · have ht' : tryB a c.q = false := by simpa using ht
    have e : cQ a b c.q = 0 := by unfold cQ; rw [if_neg (fun h => ht h.1)]
    simp only [go_sem, d_ref13_bad, d_ref2_Int, d_ref13_parts, d_ref1_Add, d_ref2_Of, int0, int1, decide_true, decide_false, val_limbs, Int.toNat_natCast, Bool.not_true, Bool.not_false, ht', e, Nat.reduceBEq, Nat.reduceBNe, Nat.reduceLT, Nat.reduceLeDiff, Nat.reduceAdd, Nat.reduceSub, Nat.reduceMul, Nat.reduceEqDiff, Int.reduceNeg, Int.reduceAdd, Int.reduceLT, Int.reduceLE, Int.reduceToNat, ↓reduceIte]
    ((try and_intros) <;> first | exact trivial | omega | (show okDraw _ _ = true; kernel_rfl) | rfl | assumption)
end Go.Proofs.YtocpmekblkfdiaaGreatDoor
namespace Go.Proofs.YtocpmekblkfdiaaGreatDoor
open Go.RowKit
set_option linter.unusedSimpArgs false
set_option linter.unusedVariables false
theorem rs_part {x : RR} (h : x.ok) (h2 : x.sz ≤ 1000) {n m : Nat} (hn : n ≤ 256) (hm : m ≤ x.q.den ^ n) : rs (qv false m (x.q.den ^ n)) ≤ 256001 := by
  have h3 := ll_pow_le (ll_den h h2).2 hn
  exact rs_qv _ _ _ _ (Nat.le_trans (ll_mono hm) h3) h3 (by omega)
theorem rs_cQ {x : RR} (h : x.ok) (h2 : x.sz ≤ 1000) (n k : Int) : rs (cQ n k x.q) ≤ 256001 := by
  unfold cQ
  split
  · rename_i c
    obtain ⟨c1, c2, c3, c4⟩ := try_of c.1
    split
    · exact rs1 (by omega)
    · exact rs_part h h2 (by omega) (cdfN_le c3 c4 (by omega))
  · exact rs0 (by omega)
end Go.Proofs.YtocpmekblkfdiaaGreatDoor
