/- vernierref5: zero, Square, Sqrt, Of; vernierlaw5: big, wide, known; by the abstract walk. Conditions: numbers of at most 15 limbs. -/
import Derived.Test.YtdojdghhbjjoeaaAv
namespace Go.Proofs.Ytdojdghhbjjoeaa
open Go.RowKit
set_option linter.unusedSimpArgs false
set_option linter.unusedVariables false

theorem shiftN_hc (m : Nat) (p : Int) : shiftN m (2 * ((hold p : Nat) : Int)) = m * 2 ^ (2 * hold p) := by
  rw [hold_cast]; exact shiftN_hold2 m p
theorem nabs1 : Int.natAbs 1 = 1 := rfl

def d_ref5_zero : Den := den0 (ballV (bb 0 0))
set_option maxRecDepth 100000 in
set_option maxHeartbeats 1000000 in
theorem s_ref5_zero : Sound Try.prog 98 d_ref5_zero := by
  refine sound0 (fz := nofz) (l := [(58, d_ref2_Int), (43, d_ref4_Of)]) TT_ok ⟨s_ref2_Int, s_ref4_Of, trivial⟩ mixed Try.func98 Try.ntmps98 Try.results98 Try.call98 rfl rfl ?_
  rw [codeK_start]
  simp only [go_sem, d_ref2_Int, d_ref4_Of, Nat.reduceBEq, Nat.reduceBNe, Nat.reduceLT, Nat.reduceLeDiff, Nat.reduceAdd, Nat.reduceSub, Nat.reduceMul, Nat.reduceEqDiff, Int.reduceNeg, Int.reduceAdd, Int.reduceLT, Int.reduceLE, Int.reduceToNat, ↓reduceIte]
  exact ⟨(by decide : (1 : Nat) ≤ 100000000000), rfl, rfl, rfl, rfl, rfl, rfl⟩

def d_ref5_Square : Den := den1 aRat (fun a => a.sz ≤ 15) fun a => ratOkV (cr (sqR a.q)) (sqB a.q)
set_option maxRecDepth 100000 in
set_option maxHeartbeats 1000000 in
theorem s_ref5_Square : Sound Try.prog 64 d_ref5_Square := by
  refine sound1 (fz := nofz) (l := [(22, d_ref2_Norm), (65, d_ref4_Root), (35, d_ref1_Mul), (34, d_ref1_Cmp), (58, d_ref2_Int), (84, d_ref2_Of)]) TT_ok ⟨s_ref2_Norm, s_ref4_Root, s_ref1_Mul, s_ref1_Cmp, s_ref2_Int, s_ref2_Of, trivial⟩ mixed Try.func64 Try.ntmps64 Try.results64 Try.call64 rfl (by omega) (fun _ => rfl) ?_
  intro a hp ha
  rw [codeK_start]
  simp only [go_sem, d_ref2_Norm, d_ref4_Root, d_ref1_Mul, d_ref1_Cmp, d_ref2_Int, d_ref2_Of, Nat.reduceBEq, Nat.reduceBNe, Nat.reduceLT, Nat.reduceLeDiff, Nat.reduceAdd, Nat.reduceSub, Nat.reduceMul, Nat.reduceEqDiff, Int.reduceNeg, Int.reduceAdd, Int.reduceLT, Int.reduceLE, Int.reduceToNat, ↓reduceIte]
  have hr := rs_parts (rs_ok ha hp (by omega))
  have l1 := limbs_len_mono (rt_le (nm a.q))
  have l2 := limbs_len_mono (rt_le a.q.den)
  have l3 := limbs_len_mono (rt_spec (nm a.q)).1
  have l4 := limbs_len_mono (rt_spec a.q.den).1
  simp only [cr_s, cr_n, cr_d, val_limbs, cr0]
  refine ⟨by omega, by omega, by omega, by kernel_rfl, ?_⟩
  cases h1 : ng a.q
  · simp only [if_true]
    refine ⟨by omega, ⟨by omega, by omega⟩, ?_⟩
    cases h2 : decide (rt (nm a.q) * rt (nm a.q) = nm a.q)
    · have e := sqB_num (q := a.q) h2
      rw [e, sqR_zero e]
      simp only [Bool.not_false, Bool.true_eq_false, if_false]
      and_intros <;> first | (show okDraw _ _ = true; kernel_rfl) | trivial
    · simp only [Bool.not_true, if_true]
      refine ⟨by omega, ⟨by omega, by omega⟩, by kernel_rfl, ?_⟩
      cases h3 : decide (rt a.q.den * rt a.q.den = a.q.den)
      · have e := sqB_den (q := a.q) h3
        rw [e, sqR_zero e]
        simp only [Bool.not_false, if_true, and_self]
      · have e := sqB_all h1 h2 h3
        rw [e, sqR_some e]
        simp only [Bool.not_true, Bool.false_eq_true, if_false, and_self, and_true]
        exact ⟨by omega, by omega⟩
  · have e := sqB_neg h1
    rw [e, sqR_zero e]
    simp only [Bool.true_eq_false, if_false]
    and_intros <;> first | (show okDraw _ _ = true; kernel_rfl) | trivial

def d_ref5_Sqrt : Den := den2 aRat aInt (fun a _ => a.sz ≤ 15) fun a p => ballOkV (bb (sqLo a.q p) (sqHi a.q p)) (!ng a.q)
set_option maxRecDepth 100000 in
set_option maxHeartbeats 1000000 in
theorem s_ref5_Sqrt : Sound Try.prog 61 d_ref5_Sqrt := by
  refine sound2 (fz := nofz) (l := [(97, d_ref4_Hold), (22, d_ref2_Norm), (98, d_ref5_zero), (64, d_ref5_Square), (43, d_ref4_Of), (85, d_ref1_Shift), (74, d_ref1_DivMod), (65, d_ref4_Root), (99, d_ref4_Rat), (101, d_ref4_Whole), (100, d_ref4_Plus)]) TT_ok ⟨s_ref4_Hold, s_ref2_Norm, s_ref5_zero, s_ref5_Square, s_ref4_Of, s_ref1_Shift, s_ref1_DivMod, s_ref4_Root, s_ref4_Rat, s_ref4_Whole, s_ref4_Plus, trivial⟩ mixed Try.func61 Try.ntmps61 Try.results61 Try.call61 rfl (by omega) (fun _ _ => rfl) ?_
  intro a b hp ha hb
  rw [codeK_start]
  simp only [go_sem, d_ref4_Hold, d_ref2_Norm, d_ref5_zero, d_ref5_Square, d_ref4_Of, d_ref1_Shift, d_ref1_DivMod, d_ref4_Root, d_ref4_Rat, d_ref4_Whole, d_ref4_Plus, Nat.reduceBEq, Nat.reduceBNe, Nat.reduceLT, Nat.reduceLeDiff, Nat.reduceAdd, Nat.reduceSub, Nat.reduceMul, Nat.reduceEqDiff, Int.reduceNeg, Int.reduceAdd, Int.reduceLT, Int.reduceLE, Int.reduceToNat, ↓reduceIte]
  have hr := rs_parts (rs_ok ha hp (by omega))
  have hrs : rs a.q ≤ 15 := rs_ok ha hp (by omega)
  have l1 := limbs_len_mono (rt_le (nm a.q))
  have l2 := limbs_len_mono (rt_le a.q.den)
  have h1l : (limbs 1).length = 1 := rfl
  have hh := hold_le b
  simp only [cr_s, cr_n, cr_d, val_limbs, shiftN_hc, nabs1]
  refine ⟨by omega, ?_⟩
  cases h1 : ng a.q
  · simp only [Bool.false_eq_true, if_false]
    refine ⟨hrs, ?_⟩
    cases h2 : sqB a.q
    · have e1 : sqLo a.q b = qv false (sqI a.q b) (2 ^ hold b) := by unfold sqLo; rw [h1, h2]; rfl
      have e2 : sqHi a.q b = qv false (sqI a.q b + 1) (2 ^ hold b) := by unfold sqHi; rw [h1, h2]; rfl
      have p1 := pow_len (k := 2 * hold b) (by omega)
      have p2 := pow_len (k := hold b) (by omega)
      have l3 := limbs_len_mul (nm a.q) (2 ^ (2 * hold b))
      have l4 := limbs_len_mono (Nat.div_le_self (nm a.q * 2 ^ (2 * hold b)) a.q.den)
      have l5 := limbs_len_mono (rt_le (nm a.q * 2 ^ (2 * hold b) / a.q.den))
      have l6 := limbs_len_add (rt (nm a.q * 2 ^ (2 * hold b) / a.q.den)) 1
      simp only [Bool.false_eq_true, if_false, e1, e2, sqI, and_self, and_true, Bool.not_false]
      and_intros
      all_goals first
        | omega
        | trivial
        | (exact decide_eq_false (fun h => h))
        | (show okDraw _ _ = true; kernel_rfl)
    · have e1 : sqLo a.q b = sqR a.q := by unfold sqLo; rw [h1, h2]; rfl
      have e2 : sqHi a.q b = sqR a.q := by unfold sqHi; rw [h1, h2]; rfl
      have l3 : rs (sqR a.q) ≤ 100000000000 := by
        rw [sqR_some h2]
        exact rs_qv _ _ _ _ (by omega) (by omega) (by omega)
      simp only [if_true, e1, e2, and_self, and_true, Bool.not_false]
      exact l3
  · have e1 : sqLo a.q b = 0 := by unfold sqLo; rw [h1]; rfl
    have e2 : sqHi a.q b = 0 := by unfold sqHi; rw [h1]; rfl
    simp only [if_true, e1, e2, and_self, Bool.not_true]

def d_ref5_Of : Den := den2 aBall aInt (fun a _ => a.sz ≤ 15) fun a p => ballOkV (bb (if ng a.lo.q = true ∨ ng a.hi.q = true then 0 else sqLo a.lo.q p) (if ng a.lo.q = true ∨ ng a.hi.q = true then 0 else sqHi a.hi.q p)) (!ng a.lo.q && !ng a.hi.q)
set_option maxRecDepth 100000 in
set_option maxHeartbeats 1000000 in
theorem s_ref5_Of : Sound Try.prog 63 d_ref5_Of := by
  refine sound2 (fz := nofz) (l := [(61, d_ref5_Sqrt), (98, d_ref5_zero)]) TT_ok ⟨s_ref5_Sqrt, s_ref5_zero, trivial⟩ mixed Try.func63 Try.ntmps63 Try.results63 Try.call63 rfl (by omega) (fun _ _ => rfl) ?_
  intro a b hp ha hb
  rw [codeK_start]
  simp only [go_sem, d_ref5_Sqrt, d_ref5_zero, Nat.reduceBEq, Nat.reduceBNe, Nat.reduceLT, Nat.reduceLeDiff, Nat.reduceAdd, Nat.reduceSub, Nat.reduceMul, Nat.reduceEqDiff, Int.reduceNeg, Int.reduceAdd, Int.reduceLT, Int.reduceLE, Int.reduceToNat, ↓reduceIte]
  have l := BB.lens hp
  refine ⟨by omega, by omega, ?_⟩
  cases h1 : ng a.lo.q <;> cases h2 : ng a.hi.q <;> simp

def bigR (r : RR) : Bool := decide (3 < r.n.length) || decide (3 < r.d.length)

def d_law5_big : Den := den1 aRats (fun l => l.length ≤ 1000 ∧ ∀ r ∈ l, r.sz ≤ 100000000000000) fun l => boolV (l.any bigR)
set_option maxRecDepth 100000 in
set_option maxHeartbeats 1000000 in
theorem s_law5_big : Sound Try.prog 29 d_law5_big := by
  refine sound1 (fz := nofz) (l := []) TT_ok trivial mixed Try.func29 Try.ntmps29 Try.results29 Try.call29 rfl (by omega) (fun _ => rfl) ?_
  intro a hp ha
  rw [codeK_start]
  simp only [go_sem, Nat.reduceBEq, Nat.reduceBNe, Nat.reduceLT, Nat.reduceLeDiff, Nat.reduceAdd, Nat.reduceSub, Nat.reduceMul, Nat.reduceEqDiff, Int.reduceNeg, Int.reduceAdd, Int.reduceLT, Int.reduceLE, Int.reduceToNat, ↓reduceIte]
  refine codeK_loop (fun i : { i : Nat // i ≤ a.length ∧ (a.take i).any bigR = false } => [(3, 0, .av (intV (i.1 : Nat))), (2, 0, .av (boolV false)), (0, 0, .av (ratsV a))]) (fun i => a.length - i.1) ⟨0, by omega, by simp⟩ (le_of ?_) ?_
  · simp only [go_sem, leL, Nat.reduceBEq, Nat.reduceBNe, Nat.reduceLT, Nat.reduceLeDiff, Nat.reduceAdd, Nat.reduceSub, Nat.reduceMul, Nat.reduceEqDiff, Int.reduceNeg, Int.reduceAdd, Int.reduceLT, Int.reduceLE, Int.reduceToNat, ↓reduceIte, Int.ofNat_zero, Int.natCast_zero, Int.cast_ofNat_Int]
  · rintro ⟨i, hi0, hs0⟩
    by_cases hi : i < a.length
    · have hm := hp.2 _ (getD_mem (d := rr0) hi)
      have hst : (a.take (i + 1)).any bigR = bigR (a.getD i rr0) := by
        rw [List.take_succ_eq_append_getElem hi, List.any_append, hs0, List.getD_eq_getElem?_getD, List.getElem?_eq_getElem hi]
        simp
      simp only [go_sem, getD_rats hi, Int.ofNat_lt, hi, Nat.reduceBEq, Nat.reduceBNe, Nat.reduceLT, Nat.reduceLeDiff, Nat.reduceAdd, Nat.reduceSub, Nat.reduceMul, Nat.reduceEqDiff, Int.reduceNeg, Int.reduceAdd, Int.reduceLT, Int.reduceLE, Int.reduceToNat, ↓reduceIte]
      have hall : bigR (a.getD i rr0) = true → a.any bigR = true := fun h => List.any_eq_true.2 ⟨_, getD_mem hi, h⟩
      split
      · rename_i h1
        have h1 : ¬ (3 < ((a.getD i rr0).n.length : Int)) := of_decide_eq_false h1
        split
        · rename_i h2
          refine (hall ?_).symm
          unfold bigR
          rw [Bool.or_eq_true]
          exact .inr (decide_eq_true (by omega))
        · rename_i h2
          have hb : bigR (a.getD i rr0) = false := by
            unfold bigR
            rw [Bool.or_eq_false_iff]
            exact ⟨decide_eq_false (by omega), decide_eq_false (by omega)⟩
          refine ⟨⟨by omega, by omega⟩, ⟨⟨i + 1, by omega, by rw [hst]; exact hb⟩, by show _ < _; simp only []; omega, le_of ?_⟩⟩
          simp only [go_sem, leL, Nat.reduceBEq, Nat.reduceBNe, Nat.reduceLT, Nat.reduceLeDiff, Nat.reduceAdd, Nat.reduceSub, Nat.reduceMul, Nat.reduceEqDiff, Int.reduceNeg, Int.reduceAdd, Int.reduceLT, Int.reduceLE, Int.reduceToNat, ↓reduceIte]
          omega
      · rename_i h1
        have h1 : 3 < ((a.getD i rr0).n.length : Int) := by
          rcases Classical.em (3 < ((a.getD i rr0).n.length : Int)) with h | h
          · exact h
          · exact absurd (decide_eq_false h) h1
        refine (hall ?_).symm
        unfold bigR
        rw [Bool.or_eq_true]
        exact .inl (decide_eq_true (by omega))
    · simp only [go_sem, Int.ofNat_lt, hi, Nat.reduceBEq, Nat.reduceBNe, Nat.reduceLT, Nat.reduceLeDiff, Nat.reduceAdd, Nat.reduceSub, Nat.reduceMul, Nat.reduceEqDiff, Int.reduceNeg, Int.reduceAdd, Int.reduceLT, Int.reduceLE, Int.reduceToNat, ↓reduceIte]
      have e : i = a.length := by omega
      subst e
      rw [List.take_length] at hs0
      exact hs0.symm

def d_law5_known : Den := den0 (boolV true)
set_option maxRecDepth 100000 in
set_option maxHeartbeats 1000000 in
theorem s_law5_known : Sound Try.prog 39 d_law5_known := by
  refine sound0 (fz := nofz) (l := [(58, d_ref2_Int), (32, d_root_Sqrt), (84, d_ref2_Of), (42, d_ref4_Same)]) TT_ok ⟨s_ref2_Int, s_root_Sqrt, s_ref2_Of, s_ref4_Same, trivial⟩ mixed Try.func39 Try.ntmps39 Try.results39 Try.call39 rfl rfl ?_
  rw [codeK_start]
  simp only [go_sem, d_ref2_Int, d_root_Sqrt, d_ref2_Of, d_ref4_Same, Nat.reduceBEq, Nat.reduceBNe, Nat.reduceLT, Nat.reduceLeDiff, Nat.reduceAdd, Nat.reduceSub, Nat.reduceMul, Nat.reduceEqDiff, Int.reduceNeg, Int.reduceAdd, Int.reduceLT, Int.reduceLE, Int.reduceToNat, ↓reduceIte]
  have e0 : ng ((2 : Int) : Rat) = false := by decide +kernel
  have e1 : sqLo ((2 : Int) : Rat) 3 = qv false (val [11]) (val [8]) := by decide +kernel
  have e2 : sqHi ((2 : Int) : Rat) 3 = qv false (val [3]) (val [2]) := by decide +kernel
  rw [e0, e1, e2]
  refine ⟨by decide +kernel, ?_⟩
  rw [if_pos (show (!false) = true from rfl)]
  refine ⟨⟨by decide +kernel, by decide +kernel⟩, by kernel_rfl, ?_⟩
  unfold sameB
  simp


end Go.Proofs.Ytdojdghhbjjoeaa
