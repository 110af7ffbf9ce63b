/- What chapter 6's laws ask: which numbers are looked at, e; the balls of e to a power. Conditions: numbers of at most 6 limbs. -/
import Derived.Test.YtjfaefgabaimaaaGreatMb
import Derived.Test.YtjfaefgabaimaaaGreatBc
import Derived.Test.YtjfaefgabaimaaaGreatBb
namespace Go.Proofs.YtjfaefgabaimaaaGreat
open Go.RowKit
set_option linter.unusedSimpArgs false
set_option linter.unusedVariables false

theorem fr_qv (f p : Nat) : P.fr f p = qv false f (2 ^ p) := by
  have h1 := P.fr_mul f p
  have hp := P.rp2_pos p
  have h2 : qv false f (2 ^ p) * P.rp 2 p = ((f : Nat) : Rat) := by
    rw [P.rp2_nat]
    unfold qv
    rw [Rat.mkRat_eq_div]
    have hne : ((2 ^ p : Nat) : Rat) ≠ 0 := by have := P.nat_pos (P.pow_pos2 p); grind
    show (((f : Int)) : Rat) / ((2 ^ p : Nat) : Rat) * ((2 ^ p : Nat) : Rat) = _
    rw [Rat.div_mul_cancel hne]
    rfl
  have h3 : P.fr f p * P.rp 2 p = qv false f (2 ^ p) * P.rp 2 p := by rw [h1, h2]
  exact Rat.le_antisymm (Rat.le_of_mul_le_mul_right (show _ ≤ _ by rw [h3]; exact Rat.le_refl) hp) (Rat.le_of_mul_le_mul_right (show _ ≤ _ by rw [h3]; exact Rat.le_refl) hp)
theorem den_le {q : Rat} (h : rs q ≤ 6) : q.den ≤ 2 ^ 200 := by
  have h1 := lt_of_limbs_len (rs_parts h).2
  rw [show (4294967296 : Nat) = 2 ^ 32 from rfl, ← Nat.pow_mul] at h1
  exact Nat.le_of_lt (Nat.lt_of_lt_of_le h1 (Nat.pow_le_pow_right (by omega) (by omega)))
/-- what holds of the answer's ends -/
theorem exp_ends {q : Rat} (p : Int) (h : expOk q = true) (hd : q.den ≤ 2 ^ 200) : P.EG q (expLo q p) ∧ P.EL q (expHi q p) ∧ 0 ≤ expLo q p ∧ 0 ≤ expHi q p := by
  unfold expOk at h
  rw [Bool.and_eq_true, decide_eq_true_eq, decide_eq_true_eq] at h
  have hk : expOk q = true := by unfold expOk; rw [decide_eq_true h.1, decide_eq_true h.2]; rfl
  unfold expLo expHi
  rw [if_pos hk, if_pos hk]
  by_cases h0 : q = 0
  · rw [if_pos h0, if_pos h0, h0]
    exact ⟨P.EG.of_zero, P.EL.zero, by decide, by decide⟩
  · rw [if_neg h0, if_neg h0, ← fr_qv, ← fr_qv]
    obtain ⟨_, _, h4⟩ := expF_is (p := p) h0 h.1 h.2 hd
    exact ⟨h4.1, h4.2, P.fr_nn _ _, P.fr_nn _ _⟩
theorem expOk_neg (q : Rat) : expOk (-q) = expOk q := by
  unfold expOk
  rw [Bool.and_comm]
  congr 1
  · exact decide_eq_decide.2 (by constructor <;> intro h <;> grind)
  · exact decide_eq_decide.2 (by constructor <;> intro h <;> grind)
/-- e to a power by e to the other one -/
theorem exp_turn {q : Rat} (p : Int) (h : expOk q = true) (hd : q.den ≤ 2 ^ 200) : hasB (mulLo (bb (expLo q p) (expHi q p)) (bb (expLo (-q) p) (expHi (-q) p))) (mulHi (bb (expLo q p) (expHi q p)) (bb (expLo (-q) p) (expHi (-q) p))) ((1 : Int) : Rat) = true := by
  obtain ⟨a1, a2, a3, a4⟩ := exp_ends p h hd
  obtain ⟨b1, b2, b3, b4⟩ := exp_ends (q := -q) p (by rw [expOk_neg]; exact h) hd
  have h1 := P.EG.add a3 a1 b1
  have h2 := a2.add b2
  rw [Rat.add_neg_cancel] at h1 h2
  have h3 := P.EL.zero.ge h1
  have h4 := h2.ge P.EG.of_zero
  have l := (mulLo_le (bb (expLo q p) (expHi q p)) (bb (expLo (-q) p) (expHi (-q) p))).1
  have u := (mulHi_ge (bb (expLo q p) (expHi q p)) (bb (expLo (-q) p) (expHi (-q) p))).2.2.2
  simp only [bb, cr_q] at l u ⊢
  unfold hasB
  rw [decide_eq_true (show _ ≤ ((1 : Int) : Rat) from Rat.le_trans l h3), decide_eq_true (show ((1 : Int) : Rat) ≤ _ from Rat.le_trans h4 u)]
  rfl
theorem rs_fr {f p : Nat} (hp : p ≤ 512) (hf : (limbs f).length ≤ 30) : rs (qv false f (2 ^ p)) ≤ 30 := by
  refine rs_qv _ _ _ _ hf ?_ (by omega)
  · have := pow_bits p; omega
theorem rs_exp {q : Rat} (p : Int) (hd : q.den ≤ 2 ^ 200) : rs (expLo q p) ≤ 30 ∧ rs (expHi q p) ≤ 30 := by
  have z : rs 0 ≤ 30 := by decide +kernel
  have w : rs 1 ≤ 30 := by decide +kernel
  unfold expLo expHi
  by_cases h : expOk q = true
  · rw [if_pos h, if_pos h]
    have hk := h
    unfold expOk at hk
    rw [Bool.and_eq_true, decide_eq_true_eq, decide_eq_true_eq] at hk
    by_cases h0 : q = 0
    · rw [if_pos h0, if_pos h0]; exact ⟨w, w⟩
    · rw [if_neg h0, if_neg h0]
      obtain ⟨_, _, h4⟩ := expF_is (p := p) h0 hk.1 hk.2 hd
      have h5 := h4.small hk.2
      have hb := hold_le p
      have h6 := len_bits h5
      have h7 := limbs_len_add (expF q p) 1
      have h8 := len_one
      exact ⟨rs_fr hb (by omega), rs_fr hb (by omega)⟩
  · rw [if_neg h, if_neg h]; exact ⟨z, z⟩
theorem exp_one : expOk ((1 : Int) : Rat) = true ∧ expLo ((1 : Int) : Rat) 3 = qv false (val [21]) (val [8]) ∧ expHi ((1 : Int) : Rat) 3 = qv false (val [11]) (val [4]) := by
  have hk : expOk ((1 : Int) : Rat) = true := by decide +kernel
  have h0 : ((1 : Int) : Rat) ≠ 0 := by decide
  obtain ⟨h1, h2, h3⟩ := expF_is (q := ((1 : Int) : Rat)) (p := 3) h0 (by decide +kernel) (by decide +kernel) (by show 1 ≤ 2 ^ 200; exact Nat.pow_pos (by omega))
  have h4 : expF ((1 : Int) : Rat) 3 = 21 := h3.uniq h1 h2 (hold_le 3) P.IsE_one
  have h5 : hold 3 = 3 := by decide
  unfold expLo expHi
  rw [if_pos hk, if_pos hk, if_neg h0, if_neg h0, h4, h5]
  exact ⟨hk, rfl, by decide +kernel⟩

def d_law6_big : Den := den1 aRats (fun l => l.length ≤ 1000 ∧ ∀ r ∈ l, r.sz ≤ 100000000000000) fun l => boolV (l.any bigR)
set_option maxRecDepth 100000 in
set_option maxHeartbeats 1000000 in
theorem s_law6_big : Sound Tryz.prog 6 d_law6_big := by
  refine sound1 (fz := nofz) (l := []) TT_ok trivial mixed Tryz.func6 Tryz.ntmps6 Tryz.results6 Tryz.call6 rfl (by omega) (fun _ => rfl) ?_
  intro a hp ha
  rw [codeK_start]
  simp only [go_sem, Nat.reduceBEq, Nat.reduceBNe, Nat.reduceLT, Nat.reduceLeDiff, Nat.reduceAdd, Nat.reduceSub, Nat.reduceMul, Nat.reduceEqDiff, Int.reduceNeg, Int.reduceAdd, Int.reduceLT, Int.reduceLE, Int.reduceToNat, ↓reduceIte]
  refine codeK_loop (fun i : { i : Nat // i ≤ a.length ∧ (a.take i).any bigR = false } => [(3, 0, .av (intV (i.1 : Nat))), (2, 0, .av (boolV false)), (0, 0, .av (ratsV a))]) (fun i => a.length - i.1) ⟨0, by omega, by simp⟩ (le_of ?_) ?_
  · simp only [go_sem, leL, Nat.reduceBEq, Nat.reduceBNe, Nat.reduceLT, Nat.reduceLeDiff, Nat.reduceAdd, Nat.reduceSub, Nat.reduceMul, Nat.reduceEqDiff, Int.reduceNeg, Int.reduceAdd, Int.reduceLT, Int.reduceLE, Int.reduceToNat, ↓reduceIte, Int.ofNat_zero, Int.natCast_zero, Int.cast_ofNat_Int]
  · rintro ⟨i, hi0, hs0⟩
    by_cases hi : i < a.length
    · have hm := hp.2 _ (getD_mem (d := rr0) hi)
      have hst : (a.take (i + 1)).any bigR = bigR (a.getD i rr0) := by
        rw [List.take_succ_eq_append_getElem hi, List.any_append, hs0, List.getD_eq_getElem?_getD, List.getElem?_eq_getElem hi]
        simp
      simp only [go_sem, getD_rats hi, Int.ofNat_lt, hi, Nat.reduceBEq, Nat.reduceBNe, Nat.reduceLT, Nat.reduceLeDiff, Nat.reduceAdd, Nat.reduceSub, Nat.reduceMul, Nat.reduceEqDiff, Int.reduceNeg, Int.reduceAdd, Int.reduceLT, Int.reduceLE, Int.reduceToNat, ↓reduceIte]
      have hall : bigR (a.getD i rr0) = true → a.any bigR = true := fun h => List.any_eq_true.2 ⟨_, getD_mem hi, h⟩
      split
      · rename_i h1
        have h1 : ¬ (3 < ((a.getD i rr0).n.length : Int)) := of_decide_eq_false h1
        split
        · rename_i h2
          refine (hall ?_).symm
          unfold bigR
          rw [Bool.or_eq_true]
          exact .inr (decide_eq_true (by omega))
        · rename_i h2
          have hb : bigR (a.getD i rr0) = false := by
            unfold bigR
            rw [Bool.or_eq_false_iff]
            exact ⟨decide_eq_false (by omega), decide_eq_false (by omega)⟩
          refine ⟨⟨by omega, by omega⟩, ⟨⟨i + 1, by omega, by rw [hst]; exact hb⟩, by show _ < _; simp only []; omega, le_of ?_⟩⟩
          simp only [go_sem, leL, Nat.reduceBEq, Nat.reduceBNe, Nat.reduceLT, Nat.reduceLeDiff, Nat.reduceAdd, Nat.reduceSub, Nat.reduceMul, Nat.reduceEqDiff, Int.reduceNeg, Int.reduceAdd, Int.reduceLT, Int.reduceLE, Int.reduceToNat, ↓reduceIte]
          omega
      · rename_i h1
        have h1 : 3 < ((a.getD i rr0).n.length : Int) := by
          rcases Classical.em (3 < ((a.getD i rr0).n.length : Int)) with h | h
          · exact h
          · exact absurd (decide_eq_false h) h1
        refine (hall ?_).symm
        unfold bigR
        rw [Bool.or_eq_true]
        exact .inl (decide_eq_true (by omega))
    · simp only [go_sem, Int.ofNat_lt, hi, Nat.reduceBEq, Nat.reduceBNe, Nat.reduceLT, Nat.reduceLeDiff, Nat.reduceAdd, Nat.reduceSub, Nat.reduceMul, Nat.reduceEqDiff, Int.reduceNeg, Int.reduceAdd, Int.reduceLT, Int.reduceLE, Int.reduceToNat, ↓reduceIte]
      have e : i = a.length := by omega
      subst e
      rw [List.take_length] at hs0
      exact hs0.symm

def d_law6_known : Den := den0 (boolV true)
set_option maxRecDepth 100000 in
set_option maxHeartbeats 1000000 in
theorem s_law6_known : Sound Tryz.prog 10 d_law6_known := by
  refine sound0 (fz := nofz) (l := [(41, d_ref2_Int), (7, d_exps_Exp), (32, d_ref2_Of), (44, d_ref4_Same)]) TT_ok ⟨s_ref2_Int, s_exps_Exp, s_ref2_Of, s_ref4_Same, trivial⟩ mixed Tryz.func10 Tryz.ntmps10 Tryz.results10 Tryz.call10 rfl rfl ?_
  rw [codeK_start]
  simp only [go_sem, d_ref2_Int, d_exps_Exp, d_ref2_Of, d_ref4_Same, Nat.reduceBEq, Nat.reduceBNe, Nat.reduceLT, Nat.reduceLeDiff, Nat.reduceAdd, Nat.reduceSub, Nat.reduceMul, Nat.reduceEqDiff, Int.reduceNeg, Int.reduceAdd, Int.reduceLT, Int.reduceLE, Int.reduceToNat, ↓reduceIte]
  obtain ⟨e1, e2, e3⟩ := exp_one
  rw [e1, e2, e3]
  refine ⟨⟨by decide +kernel, Nat.pow_pos (by omega)⟩, ?_⟩
  rw [if_pos rfl]
  refine ⟨⟨by decide +kernel, by decide +kernel⟩, by kernel_rfl, ?_⟩
  unfold sameB
  simp


end Go.Proofs.YtjfaefgabaimaaaGreat
