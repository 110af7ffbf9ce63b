/- Package logs: logarithms, as the program reckons them. Conditions: rows as each one says; at most 200 bits. -/
import Derived.Test.YtjfaefgabaimaaaGreatMh
namespace Go.Proofs.YtjfaefgabaimaaaGreat
open Go.RowKit
set_option linter.unusedSimpArgs false
set_option linter.unusedVariables false
def d_logs_row : Den := den3 aLim aLim aInt (fun a b w => a.length ≤ 4000000000 ∧ b.length ≤ 4000000000 ∧ 0 < val b ∧ 3 * val a ≤ val b ∧ 64 ≤ w ∧ w ≤ 90000000000) fun a b w => spanV (spN (P.lR (P.spOf (val a) (val b) w.toNat) w.toNat))
set_option maxRecDepth 100000 in
set_option maxHeartbeats 1000000 in
theorem s_logs_row : Sound Tryz.prog 89 d_logs_row := by
  refine sound3 (fz := nofz) (l := [(65, d_fix_Of), (67, d_fix_Mul), (110, d_fix_Small), (63, d_fix_One), (60, d_nat_Of), (92, d_fix_Times), (94, d_fix_Add), (111, d_fix_Wider)]) TT_ok ⟨s_fix_Of, s_fix_Mul, s_fix_Small, s_fix_One, s_nat_Of, s_fix_Times, s_fix_Add, s_fix_Wider, trivial⟩ mixed Tryz.func89 Tryz.ntmps89 Tryz.results89 Tryz.call89 rfl (by omega) (fun _ _ _ => rfl) ?_
  intro a b c hp ha hb hc
  rw [codeK_start]
  simp only [go_sem, d_fix_Of, d_fix_Mul, d_fix_Small, d_fix_One, d_nat_Of, d_fix_Times, d_fix_Add, d_fix_Wider, Nat.reduceBEq, Nat.reduceBNe, Nat.reduceLT, Nat.reduceLeDiff, Nat.reduceAdd, Nat.reduceSub, Nat.reduceMul, Nat.reduceEqDiff, Int.reduceNeg, Int.reduceAdd, Int.reduceLT, Int.reduceLE, Int.reduceToNat, ↓reduceIte]
  obtain ⟨hp1, hp2, hd, hn, hw1, hw2⟩ := hp
  generalize hw : c.toNat = w at *
  have hc : c = (w : Int) := by omega
  subst hc
  have hy := P.Yok.of hd hn (show 64 ≤ w by omega)
  have hYe : P.spOf (val a) (val b) w = P.spOf (val a) (val b) w := rfl
  generalize P.spOf (val a) (val b) w = Y at *
  obtain ⟨hJ1, hJ2, hJ3⟩ := P.lJ_spec hy
  have hw3 : w < 2 ^ 37 := by rw [show (2 : Nat) ^ 37 = 137438953472 by decide]; omega
  have hY1 : Y.1 < 2 ^ (w + 1) := (P.l_short hy hw3 (j := 0) (by omega)).1
  have hY2 : Y.2 < 2 ^ (w + 1) := (P.l_short hy hw3 (j := 0) (by omega)).2.1
  have hYs : (spN Y).sz ≤ 4000000000 := spN_sz' hY1 hY2 (by omega)
  have hSs : (spN (P.spMul Y Y w)).sz ≤ 4000000000 := by
    have k1 := hy.sq
    exact spN_sz' (B := w + 1) (by rw [Nat.pow_succ]; omega) (by rw [Nat.pow_succ]; omega) (by omega)
  have key : ∀ j, j ≤ w + 1 → (spN (P.lP Y w j)).sz ≤ 4000000000 ∧ (spN (P.lA Y w j)).sz ≤ 4000000000 ∧ (limbs (P.lP Y w j).2).length ≤ 4000000000 ∧ (limbs (P.lA Y w j).1).length ≤ 4000000000 ∧ (limbs (P.lA Y w j).2).length ≤ 4000000000 := by
    intro j hj
    obtain ⟨k1, k2, k3, k4⟩ := P.l_short hy hw3 hj
    have := len_bits k2
    have := len_bits k3
    have := len_bits k4
    exact ⟨spN_sz' k1 k2 (by omega), spN_sz' k3 k4 (by omega), by omega, by omega, by omega⟩
  refine ⟨⟨by omega, by omega, by omega, by omega⟩, ⟨by omega, by omega, by omega, by omega⟩, ?_⟩
  refine codeK_loop (fun x : LgI Y w => (10, 0, .av (u64V (2 * (x.j : Int) + 1))) :: (boxSp 7 (limbs (P.lP Y w x.j).1) (limbs (P.lP Y w x.j).2) ++ (boxSp 8 (limbs (P.spMul Y Y w).1) (limbs (P.spMul Y Y w).2) ++ (boxSp 9 (limbs (P.lA Y w x.j).1) (limbs (P.lA Y w x.j).2) ++ ((2, 0, .av (intV (w : Int))) :: boxNil 6))))) (fun x => P.lJ Y w - x.j) ⟨0, by omega⟩ (le_ofW ?_) ?_
  · have z1 : limbs (P.lA Y w 0).1 = [] := limbs_zero
    have z2 : limbs (P.lA Y w 0).2 = [] := limbs_zero
    simp only [go_sem, leW, z1, z2, Nat.reduceBEq, Nat.reduceBNe, Nat.reduceLT, Nat.reduceLeDiff, Nat.reduceAdd, Nat.reduceSub, Nat.reduceMul, Nat.reduceEqDiff, Int.reduceNeg, Int.reduceAdd, Int.reduceLT, Int.reduceLE, Int.reduceToNat, ↓reduceIte]
    and_intros
    all_goals exact ⟨_, rfl, by first | exact rvle_refl _ | exact rvle_nil⟩
  · rintro ⟨j, hj⟩
    obtain ⟨l1, l2, l3, l4, l5⟩ := key j (by omega)
    have hwr : IntKind.u64.wrap (2 * (j : Int) + 1 + 2) = 2 * ((j + 1 : Nat) : Int) + 1 := by rw [u64_wrap (by omega) (by omega)]; omega
    have hkn : (2 * (j : Int) + 1).toNat = 2 * j + 1 := by omega
    by_cases hjJ : j = P.lJ Y w
    · have hd2 := decide_eq_true (show (P.lP Y w j).2 ≤ 1 by rw [hjJ]; exact hJ1)
      simp only [go_sem, d_fix_Of, d_fix_Mul, d_fix_Small, d_fix_One, d_nat_Of, d_fix_Times, d_fix_Add, d_fix_Wider, blen_small, hd2, hwr, hkn, sp_v2, Nat.reduceBEq, Nat.reduceBNe, Nat.reduceLT, Nat.reduceLeDiff, Nat.reduceAdd, Nat.reduceSub, Nat.reduceMul, Nat.reduceEqDiff, Int.reduceNeg, Int.reduceAdd, Int.reduceLT, Int.reduceLE, Int.reduceToNat, ↓reduceIte]
      subst hjJ
      have hh : (limbs ((P.lA Y w (P.lJ Y w)).2 + 2)).length ≤ 4000000001 := by
        have := limbs_len_add (P.lA Y w (P.lJ Y w)).2 2
        have h2 : (limbs 2).length = 1 := by decide +kernel
        omega
      have hs : (spN (P.spWider (P.lA Y w (P.lJ Y w)) 2)).sz ≤ 4000000001 := spN_sz (show (limbs (P.lA Y w (P.lJ Y w)).1).length ≤ _ by omega) hh
      and_intros
      all_goals first | omega | rfl | exact Nat.le_trans hs (by omega)
    · have hd2 := decide_eq_false (show ¬ (P.lP Y w j).2 ≤ 1 by have := hJ2 j (by omega); omega)
      obtain ⟨m1, m2, m3, m4, m5⟩ := key (j + 1) (by omega)
      have hl1 := len_one
      have hl2 : (limbs (2 * j + 1)).length ≤ 4000000000 := by have := limbs_len_le (n := 2 * j + 1) (k := 2) (by rw [show (4294967296 : Nat) ^ 2 = 18446744073709551616 by decide]; omega); omega
      have ht : (spN (P.spTimes (P.lP Y w j) 1 (2 * j + 1))).sz ≤ 4000000001 := by
        have t1 := limbs_len_mono (Nat.div_le_self ((P.lP Y w j).1 * 1) (2 * j + 1))
        have t2 := limbs_len_mono (Nat.div_le_self ((P.lP Y w j).2 * 1) (2 * j + 1))
        have t3 := limbs_len_add ((P.lP Y w j).2 * 1 / (2 * j + 1)) 1
        have t4 : (limbs (P.lP Y w j).1).length ≤ 4000000000 := Nat.le_trans (Nat.le_max_left _ _) l1
        rw [Nat.mul_one] at t1 t2
        exact spN_sz (show (limbs ((P.lP Y w j).1 * 1 / (2 * j + 1))).length ≤ _ by rw [Nat.mul_one]; omega) (show (limbs ((P.lP Y w j).2 * 1 / (2 * j + 1) + 1)).length ≤ _ by rw [Nat.mul_one] at t3 ⊢; omega)
      simp only [go_sem, d_fix_Of, d_fix_Mul, d_fix_Small, d_fix_One, d_nat_Of, d_fix_Times, d_fix_Add, d_fix_Wider, blen_small, hd2, hwr, hkn, sp_v2, Nat.reduceBEq, Nat.reduceBNe, Nat.reduceLT, Nat.reduceLeDiff, Nat.reduceAdd, Nat.reduceSub, Nat.reduceMul, Nat.reduceEqDiff, Int.reduceNeg, Int.reduceAdd, Int.reduceLT, Int.reduceLE, Int.reduceToNat, ↓reduceIte]
      refine ⟨by omega, ⟨by omega, by omega⟩, ⟨by omega, by omega, by omega⟩, ⟨by omega, by omega⟩, by kernel_rfl, ⟨by omega, by omega, by omega⟩, ⟨j + 1, by omega⟩, ?_, le_of ?_⟩
      · show P.lJ Y w - (j + 1) < P.lJ Y w - j
        omega
      · simp only [go_sem, leL, Nat.reduceBEq, Nat.reduceBNe, Nat.reduceLT, Nat.reduceLeDiff, Nat.reduceAdd, Nat.reduceSub, Nat.reduceMul, Nat.reduceEqDiff, Int.reduceNeg, Int.reduceAdd, Int.reduceLT, Int.reduceLE, Int.reduceToNat, ↓reduceIte]
        and_intros
        all_goals first | exact .inl rfl | rfl
def pK0 (N D : Nat) : Int := ((blen N : Nat) : Int) - ((blen D : Nat) : Int)
def pN1 (N D : Nat) : Nat := N * 2 ^ (max 0 (-(pK0 N D))).toNat
def pD1 (N D : Nat) : Nat := D * 2 ^ (max 0 (pK0 N D)).toNat
def pK (N D : Nat) : Int := if pN1 N D < pD1 N D then pK0 N D - 1 else pK0 N D
def pN (N D : Nat) : Nat := if pN1 N D < pD1 N D then pN1 N D * 2 else pN1 N D
theorem pow_split {a b : Nat} (h : a = b + 1) : 2 ^ a = 2 ^ b * 2 := by rw [h, Nat.pow_succ]
theorem blen_two {m : Nat} (h : m ≠ 0) (k : Nat) : 2 ^ (blen m - 1 + k) ≤ m * 2 ^ k ∧ m * 2 ^ k < 2 ^ (blen m + k) := by
  have h1 := blen_lt m
  have h2 := blen_le h
  rw [Nat.pow_add, Nat.pow_add]
  exact ⟨Nat.mul_le_mul_right _ h2, Nat.mul_lt_mul_of_pos_right h1 (Nat.pow_pos (by omega))⟩
theorem blen_one {m : Nat} (h : m ≠ 0) : 1 ≤ blen m := by
  have h1 := blen_lt m
  rcases Nat.eq_zero_or_pos (blen m) with e | e
  · rw [e] at h1; simp at h1; exact absurd h1 h
  · exact e
theorem part_eq {N D : Nat} (hN : N ≠ 0) (hD : D ≠ 0) : pN1 N D < 2 * pD1 N D ∧ pD1 N D < 2 * pN1 N D := by
  have b1 := blen_one hN
  have b2 := blen_one hD
  obtain ⟨n1, n2⟩ := blen_two hN (max 0 (-(pK0 N D))).toNat
  obtain ⟨d1, d2⟩ := blen_two hD (max 0 (pK0 N D)).toNat
  have e : blen N + (max 0 (-(pK0 N D))).toNat = blen D + (max 0 (pK0 N D)).toNat := by unfold pK0; omega
  rw [e] at n2
  have e2 : blen N - 1 + (max 0 (-(pK0 N D))).toNat = blen D - 1 + (max 0 (pK0 N D)).toNat := by unfold pK0 at *; omega
  rw [e2] at n1
  have e3 := pow_split (show blen D + (max 0 (pK0 N D)).toNat = (blen D - 1 + (max 0 (pK0 N D)).toNat) + 1 by omega)
  rw [e3] at n2 d2
  unfold pN1 pD1
  omega
theorem part_facts {N D : Nat} (hN : N ≠ 0) (hD : D ≠ 0) (h1 : N < 2 ^ 128) (h2 : D < 2 ^ 128) : 0 < pD1 N D ∧ pD1 N D ≤ pN N D ∧ pN N D < 2 * pD1 N D ∧ -200 ≤ pK0 N D ∧ pK0 N D ≤ 200 ∧ -201 ≤ pK N D ∧ pK N D ≤ 200 := by
  obtain ⟨e1, e2⟩ := part_eq hN hD
  have b : ∀ {m : Nat}, m ≠ 0 → m < 2 ^ 128 → blen m ≤ 128 := by
    intro m hm h
    have h3 := blen_le hm
    rcases Nat.lt_or_ge 128 (blen m) with h4 | h4
    · have h5 : 2 ^ 128 ≤ 2 ^ (blen m - 1) := Nat.pow_le_pow_right (by omega) (by omega)
      omega
    · exact h4
  have b1 := b hN h1
  have b2 := b hD h2
  have hp : 0 < pD1 N D := Nat.mul_pos (by omega) (Nat.pow_pos (by omega))
  have hk : -200 ≤ pK0 N D ∧ pK0 N D ≤ 200 := by unfold pK0; omega
  unfold pN pK
  split <;> omega
theorem part_rel (N D : Nat) : if pK N D < 0 then pN N D * D = N * pD1 N D * 2 ^ (pK N D).natAbs else pN N D * 2 ^ (pK N D).natAbs * D = N * pD1 N D := by
  have key : ∀ (a b : Nat), 2 ^ (a + b) = 2 ^ a * 2 ^ b := fun a b => Nat.pow_add _ _ _
  unfold pK pN
  by_cases hl : pN1 N D < pD1 N D
  · simp only [if_pos hl]
    by_cases h0 : pK0 N D ≤ 0
    · rw [if_pos (by omega)]
      unfold pN1 pD1
      rw [show (max 0 (pK0 N D)).toNat = 0 by omega, show (pK0 N D - 1).natAbs = (max 0 (-(pK0 N D))).toNat + 1 by omega, Nat.pow_succ, Nat.pow_zero, Nat.mul_one]
      simp only [Nat.mul_assoc, Nat.mul_comm, Nat.mul_left_comm]
    · rw [if_neg (by omega)]
      unfold pN1 pD1
      rw [show (max 0 (-(pK0 N D))).toNat = 0 by omega, show (max 0 (pK0 N D)).toNat = (pK0 N D - 1).natAbs + 1 by omega, Nat.pow_succ, Nat.pow_zero, Nat.mul_one]
      simp only [Nat.mul_assoc, Nat.mul_comm, Nat.mul_left_comm]
  · simp only [if_neg hl]
    by_cases h0 : pK0 N D < 0
    · rw [if_pos h0]
      unfold pN1 pD1
      rw [show (max 0 (pK0 N D)).toNat = 0 by omega, show (pK0 N D).natAbs = (max 0 (-(pK0 N D))).toNat by omega, Nat.pow_zero, Nat.mul_one]
      simp only [Nat.mul_assoc, Nat.mul_comm, Nat.mul_left_comm]
    · rw [if_neg h0]
      unfold pN1 pD1
      rw [show (max 0 (-(pK0 N D))).toNat = 0 by omega, show (max 0 (pK0 N D)).toNat = (pK0 N D).natAbs by omega, Nat.pow_zero, Nat.mul_one]
      simp only [Nat.mul_assoc, Nat.mul_comm, Nat.mul_left_comm]
def d_logs_parted : Den := den1 aRat (fun a => a.sz ≤ 1000 ∧ 0 < val a.n ∧ 0 < val a.d ∧ val a.n < 2 ^ 128 ∧ val a.d < 2 ^ 128) fun a => .tup [.cel (.int .i64 (pK (val a.n) (val a.d))), .cel (.lim none (limbs (pN (val a.n) (val a.d)))), .cel (.lim none (limbs (pD1 (val a.n) (val a.d))))]
set_option maxRecDepth 100000 in
set_option maxHeartbeats 1000000 in
theorem s_logs_parted : Sound Tryz.prog 50 d_logs_parted := by
  refine sound1 (fz := nofz) (l := [(86, d_nat_Bits), (87, d_nat_Shift), (88, d_nat_Cmp)]) TT_ok ⟨s_nat_Bits, s_nat_Shift, s_nat_Cmp, trivial⟩ mixed Tryz.func50 Tryz.ntmps50 Tryz.results50 Tryz.call50 rfl (by omega) (fun _ => rfl) ?_
  intro a hp ha
  rw [codeK_start]
  simp only [go_sem, d_nat_Bits, d_nat_Shift, d_nat_Cmp, Nat.reduceBEq, Nat.reduceBNe, Nat.reduceLT, Nat.reduceLeDiff, Nat.reduceAdd, Nat.reduceSub, Nat.reduceMul, Nat.reduceEqDiff, Int.reduceNeg, Int.reduceAdd, Int.reduceLT, Int.reduceLE, Int.reduceToNat, ↓reduceIte]
  obtain ⟨hsz, hn0, hd0, hn1, hd1⟩ := hp
  have hl := RR.lens hsz
  obtain ⟨f1, f2, f3, f4, f5, f6, f7⟩ := part_facts (N := val a.n) (D := val a.d) (by omega) (by omega) hn1 hd1
  have k0 : ((blen (val a.n) : Nat) : Int) - ((blen (val a.d) : Nat) : Int) = pK0 (val a.n) (val a.d) := rfl
  have s1 : shiftN (val a.n) (max 0 (0 - pK0 (val a.n) (val a.d))) = pN1 (val a.n) (val a.d) := by
    rw [show 0 - pK0 (val a.n) (val a.d) = -pK0 (val a.n) (val a.d) by omega]
    exact shiftN_up (by omega) _
  have s2 : shiftN (val a.d) (max 0 (pK0 (val a.n) (val a.d))) = pD1 (val a.n) (val a.d) := shiftN_up (by omega) _
  have s3 : shiftN (pN1 (val a.n) (val a.d)) 1 = pN1 (val a.n) (val a.d) * 2 := shiftN_up (by omega) _
  have g1 : (limbs (pN1 (val a.n) (val a.d))).length ≤ 2000 := by
    have := len_up (k := (max 0 (-(pK0 (val a.n) (val a.d)))).toNat) ha.1 rfl
    unfold pN1; omega
  have g2 : (limbs (pD1 (val a.n) (val a.d))).length ≤ 2000 := by
    have := len_up (k := (max 0 (pK0 (val a.n) (val a.d))).toNat) ha.2 rfl
    unfold pD1; omega
  simp only [go_sem, d_nat_Bits, d_nat_Shift, d_nat_Cmp, k0, s1, s2, s3, Nat.reduceBEq, Nat.reduceBNe, Nat.reduceLT, Nat.reduceLeDiff, Nat.reduceAdd, Nat.reduceSub, Nat.reduceMul, Nat.reduceEqDiff, Int.reduceNeg, Int.reduceAdd, Int.reduceLT, Int.reduceLE, Int.reduceToNat, ↓reduceIte]
  by_cases hlt : pN1 (val a.n) (val a.d) < pD1 (val a.n) (val a.d)
  · have r1 : pK (val a.n) (val a.d) = pK0 (val a.n) (val a.d) - 1 := if_pos hlt
    have r2 : pN (val a.n) (val a.d) = pN1 (val a.n) (val a.d) * 2 := if_pos hlt
    rw [r1, r2, if_pos hlt]
    and_intros
    all_goals first | omega | rfl | (show okDraw _ _ = true; kernel_rfl)
  · have r1 : pK (val a.n) (val a.d) = pK0 (val a.n) (val a.d) := if_neg hlt
    have r2 : pN (val a.n) (val a.d) = pN1 (val a.n) (val a.d) := if_neg hlt
    rw [r1, r2, if_neg hlt]
    and_intros
    all_goals first | omega | rfl | (show okDraw _ _ = true; kernel_rfl)
def d_logs_near : Den := den4 aInt aLim aLim aInt (fun k n d w => -1000 ≤ k ∧ k ≤ 1000 ∧ n.length ≤ 1000000 ∧ d.length ≤ 1000000 ∧ 0 < val d ∧ val d ≤ val n ∧ val n ≤ 2 * val d ∧ 64 ≤ w ∧ w ≤ 90000000000) fun k n d w => spanV (spN (P.lNear (decide (k < 0)) k.natAbs (val n) (val d) w.toNat))
set_option maxRecDepth 100000 in
set_option maxHeartbeats 1000000 in
theorem s_logs_near : Sound Tryz.prog 52 d_logs_near := by
  refine sound4 (fz := nofz) (l := [(90, d_fix_Less), (91, d_nat_Add), (89, d_logs_row), (63, d_fix_One), (60, d_nat_Of), (92, d_fix_Times), (93, d_fix_Sub), (94, d_fix_Add)]) TT_ok ⟨s_fix_Less, s_nat_Add, s_logs_row, s_fix_One, s_nat_Of, s_fix_Times, s_fix_Sub, s_fix_Add, trivial⟩ mixed Tryz.func52 Tryz.ntmps52 Tryz.results52 Tryz.call52 rfl (by omega) (fun _ _ _ _ => rfl) ?_
  intro a b c d hp ha hb hc hd
  rw [codeK_start]
  simp only [go_sem, d_fix_Less, d_nat_Add, d_logs_row, d_fix_One, d_nat_Of, d_fix_Times, d_fix_Sub, d_fix_Add, Nat.reduceBEq, Nat.reduceBNe, Nat.reduceLT, Nat.reduceLeDiff, Nat.reduceAdd, Nat.reduceSub, Nat.reduceMul, Nat.reduceEqDiff, Int.reduceNeg, Int.reduceAdd, Int.reduceLT, Int.reduceLE, Int.reduceToNat, ↓reduceIte]
  obtain ⟨hk1, hk2, hp1, hp2, hd, hdn, hn, hw1, hw2⟩ := hp
  generalize hw : d.toNat = w at *
  have hdw : d = (w : Int) := by omega
  subst hdw
  have hw3 : w < 2 ^ 37 := by rw [show (2 : Nat) ^ 37 = 137438953472 by decide]; omega
  have y1 := P.Yok.of (n := val b - val c) (d := val b + val c) (w := w) (by omega) (by omega) (by omega)
  have y2 := P.Yok.of (n := 1) (d := 3) (w := w) (by omega) (by omega) (by omega)
  obtain ⟨a1, a2⟩ := P.lR_short y1 hw3
  obtain ⟨b1, b2⟩ := P.lR_short y2 hw3
  have z1 : (spN (P.lR (P.spOf (val b - val c) (val b + val c) w) w)).sz ≤ 4000000000 := spN_sz' a1 a2 (by omega)
  have z2 : (spN (P.lR (P.spOf 1 3 w) w)).sz ≤ 4000000000 := spN_sz' b1 b2 (by omega)
  have l1 := len_one
  have l3 : (limbs 3).length = 1 := by decide +kernel
  have m1 := limbs_len_mono (Nat.sub_le (val b) (val c))
  have m2 := limbs_len_add (val b) (val c)
  have vb := limbs_len_val hb
  have vc := limbs_len_val hc
  have hm : max a (0 - a) = ((a.natAbs : Nat) : Int) := by omega
  have hwr : IntKind.u64.wrap ((a.natAbs : Nat) : Int) = ((a.natAbs : Nat) : Int) := u64_wrap (by omega) (by omega)
  have hK : (limbs a.natAbs).length ≤ 2 := limbs_len_le (by rw [show (4294967296 : Nat) ^ 2 = 18446744073709551616 by decide]; omega)
  have z3 : (spN (P.spTimes (P.lR (P.spOf 1 3 w) w) a.natAbs 1)).sz ≤ 4000000010 := by
    have c1 : (P.lR (P.spOf 1 3 w) w).1 * a.natAbs < 2 ^ (w + 52) := by
      rw [show w + 52 = (w + 42) + 10 from rfl, Nat.pow_add _ (w + 42)]
      exact Nat.lt_of_le_of_lt (Nat.mul_le_mul (Nat.le_of_lt b1) (show a.natAbs ≤ 1000 by omega)) (by have := Nat.pow_pos (n := w + 42) (show 0 < 2 by omega); rw [show (2 : Nat) ^ 10 = 1024 by decide]; omega)
    have c2 : (P.lR (P.spOf 1 3 w) w).2 * a.natAbs < 2 ^ (w + 52) := by
      rw [show w + 52 = (w + 42) + 10 from rfl, Nat.pow_add _ (w + 42)]
      exact Nat.lt_of_le_of_lt (Nat.mul_le_mul (Nat.le_of_lt b2) (show a.natAbs ≤ 1000 by omega)) (by have := Nat.pow_pos (n := w + 42) (show 0 < 2 by omega); rw [show (2 : Nat) ^ 10 = 1024 by decide]; omega)
    have c3 : 2 ^ (w + 52) < 2 ^ (w + 53) := P.pw_lt _
    refine spN_sz' (B := w + 53) ?_ ?_ (by omega)
    · simp only [P.spTimes, Nat.div_one]; omega
    · simp only [P.spTimes, Nat.div_one]; omega
  simp only [go_sem, d_fix_Less, d_nat_Add, d_logs_row, d_fix_One, d_nat_Of, d_fix_Times, d_fix_Sub, d_fix_Add, hm, hwr, Nat.reduceBEq, Nat.reduceBNe, Nat.reduceLT, Nat.reduceLeDiff, Nat.reduceAdd, Nat.reduceSub, Nat.reduceMul, Nat.reduceEqDiff, Int.reduceNeg, Int.reduceAdd, Int.reduceLT, Int.reduceLE, Int.reduceToNat, ↓reduceIte]
  by_cases h : a < 0
  · rw [if_pos h, decide_eq_true h]
    and_intros
    all_goals first | omega | rfl | (show okDraw _ _ = true; kernel_rfl)
  · rw [if_neg h, decide_eq_false h]
    and_intros
    all_goals first | omega | rfl | (show okDraw _ _ = true; kernel_rfl)
structure KND where
  k : Int
  n : List Nat
  d : List Nat
def kndCells (x : KND) : List CV := [.pto [.int .i64 x.k], .pto [.lim none x.n], .pto [.lim none x.d]]
def exactKND : List CV → Option KND
  | [.pto [.int .i64 k], .pto [.lim none n], .pto [.lim none d]] => some ⟨k, n, d⟩
  | _ => none
theorem exactKND_eq {l : List CV} {r : KND} (h : exactKND l = some r) : l = kndCells r := by
  unfold exactKND at h
  split at h
  · cases h; rfl
  · cases h
theorem pto1_ok {X : Nat → Nat → Prop} {w : World} {v : Value} {n : List Nat} (h : CV.P X w (.pto [.lim none n]) v) : limOk n := by
  simp only [CV.P, cellsP] at h
  obtain ⟨b, off, _, ⟨u, _, hu⟩, _⟩ := h
  exact limV_ok (X := X) (w := w) (v := u) hu
def paClo3 (f : Nat) : AV → Option KND
  | .one (.cel (.clo g cs)) => if (g == f) = true then exactKND cs else none
  | _ => none
def cloV3 (f : Nat) (r : KND) : AV := .one (.cel (.clo f (kndCells r)))
def aClo3 (f : Nat) : Arg KND where
  pa := paClo3 f
  un := cloV3 f
  va := fun r => limOk r.n ∧ limOk r.d
  ok := by
    intro v x h X w u hu
    unfold paClo3 at h
    split at h
    · split at h
      · rename_i hg
        rw [exactKND_eq h, beq_iff_eq.1 hg] at hu; exact hu
      · cases h
    · cases h
  st := fun _ => rfl
  vd := fun x X w u hu => by
    have hu : CV.P X w (.clo f (kndCells x)) u := hu
    simp only [CV.P, kndCells, valsP] at hu
    obtain ⟨vs, _, v0, u0, _, _, v1, u1, _, h1, v2, u2, _, h2, _⟩ := hu
    exact ⟨pto1_ok (X := X) (w := w) (v := v1) (by simpa only [CV.P] using h1), pto1_ok (X := X) (w := w) (v := v2) (by simpa only [CV.P] using h2)⟩
def paBoxI : AV → Option Int
  | .one (.cel (.pto [.int .i64 k])) => some k
  | _ => none
def boxIV (k : Int) : AV := .one (.cel (.pto [.int .i64 k]))
def aBoxI : Arg Int where
  pa := paBoxI
  un := boxIV
  va := fun _ => True
  ok := by
    intro v x h X w u hu
    unfold paBoxI at h
    split at h
    · cases h; exact hu
    · cases h
  st := fun _ => rfl
  vd := fun _ _ _ _ _ => trivial
def paBoxL : AV → Option (List Nat)
  | .one (.cel (.pto [.lim none n])) => some n
  | _ => none
def boxLV (n : List Nat) : AV := .one (.cel (.pto [.lim none n]))
def aBoxL : Arg (List Nat) where
  pa := paBoxL
  un := boxLV
  va := limOk
  ok := by
    intro v x h X w u hu
    unfold paBoxL at h
    split at h
    · cases h; exact hu
    · cases h
  st := fun _ => rfl
  vd := fun x X w u hu => pto1_ok hu
attribute [go_sem] aBoxI paBoxI boxIV aBoxL paBoxL boxLV aClo3 paClo3 cloV3 kndCells exactKND
def d_logs_Ln_1 : Den := den4 aInt aBoxI aBoxL aBoxL (fun w k n d => (-1000 ≤ k ∧ k ≤ 1000 ∧ n.length ≤ 1000000 ∧ d.length ≤ 1000000 ∧ 0 < val d ∧ val d ≤ val n ∧ val n ≤ 2 * val d) ∧ 64 ≤ w ∧ w ≤ 90000000000) fun w k n d => spanV (spN (P.lNear (decide (k < 0)) k.natAbs (val n) (val d) w.toNat))
set_option maxRecDepth 100000 in
set_option maxHeartbeats 1000000 in
theorem s_logs_Ln_1 : Sound Tryz.prog 51 d_logs_Ln_1 := by
  refine sound4 (fz := nofz) (l := [(52, d_logs_near)]) TT_ok ⟨s_logs_near, trivial⟩ mixed Tryz.func51 Tryz.ntmps51 Tryz.results51 Tryz.call51 rfl (by omega) (fun _ _ _ _ => rfl) ?_
  intro a b c d hp ha hb hc hd
  rw [codeK_start]
  simp only [go_sem, d_logs_near, Nat.reduceBEq, Nat.reduceBNe, Nat.reduceLT, Nat.reduceLeDiff, Nat.reduceAdd, Nat.reduceSub, Nat.reduceMul, Nat.reduceEqDiff, Int.reduceNeg, Int.reduceAdd, Int.reduceLT, Int.reduceLE, Int.reduceToNat, ↓reduceIte]
  obtain ⟨⟨h1, h2, h3, h4, h5, h6, h7⟩, h8, h9⟩ := hp
  exact ⟨h1, h2, h3, h4, h5, h6, h7, h8, h9⟩
/-- the span of a closure's numbers -/
def kNear (r : KND) : Nat → P.Sp := P.lNear (decide (r.k < 0)) r.k.natAbs (val r.n) (val r.d)
def kX (r : KND) : Rat := P.lX (decide (r.k < 0)) r.k.natAbs (((val r.n : Nat) : Rat) * (1 / ((val r.d : Nat) : Rat)))
def d_logs_Certain : Den := den3 aInt aInt (aClo3 51) (fun p t r => 0 ≤ p ∧ p ≤ 200 ∧ t = 64 ∧ (-1000 ≤ r.k ∧ r.k ≤ 1000 ∧ r.n.length ≤ 1000000 ∧ r.d.length ≤ 1000000 ∧ 0 < val r.d ∧ val r.d ≤ val r.n ∧ val r.n ≤ 2 * val r.d) ∧ P.Xok (kX r)) fun p _ r => ballV (eB (P.lF (kNear r) p.toNat) p.toNat)
set_option maxRecDepth 100000 in
set_option maxHeartbeats 1000000 in
theorem s_logs_Certain : Sound Tryz.prog 27 d_logs_Certain := by
  refine sound3 (fz := nofz) (l := [(61, d_fix_Floor), (63, d_fix_One), (62, d_fix_Shift), (58, d_rat_Of), (64, d_fix_Next), (51, d_logs_Ln_1)]) TT_ok ⟨s_fix_Floor, s_fix_One, s_fix_Shift, s_rat_Of, s_fix_Next, s_logs_Ln_1, trivial⟩ mixed Tryz.func27 Tryz.ntmps27 Tryz.results27 Tryz.call27 rfl (by omega) (fun _ _ _ => rfl) ?_
  intro a b c hp ha hb hc
  rw [codeK_start]
  simp only [go_sem, d_fix_Floor, d_fix_One, d_fix_Shift, d_rat_Of, d_fix_Next, d_logs_Ln_1, Nat.reduceBEq, Nat.reduceBNe, Nat.reduceLT, Nat.reduceLeDiff, Nat.reduceAdd, Nat.reduceSub, Nat.reduceMul, Nat.reduceEqDiff, Int.reduceNeg, Int.reduceAdd, Int.reduceLT, Int.reduceLE, Int.reduceToNat, ↓reduceIte]
  obtain ⟨hp0, hp5, ht, ⟨hc1, hc2, hc3, hc4, hc5, hc6, hc7⟩, hX⟩ := hp
  generalize hk : a.toNat = k at *
  have ha : a = (k : Int) := by omega
  subst ha
  subst ht
  have hk5 : k ≤ 200 := by omega
  have hxd : ((val c.n : Nat) : Rat) * (1 / ((val c.d : Nat) : Rat)) * ((val c.d : Nat) : Rat) = ((val c.n : Nat) : Rat) := by rw [Rat.mul_assoc, P.one_div_mul (P.nat_pos hc5), Rat.mul_one]
  have hnear : P.LNear (kNear c) (kX c) := P.lNear_near hc5 hc6 hc7 hxd (by intro h; have := of_decide_eq_true h; omega) (by omega)
  obtain ⟨e1, e2, e3, _⟩ := P.l_ends hnear hX hk5
  have hw0 : (k : Int) + 64 = ((P.lW k 0 : Nat) : Int) := by unfold P.lW; omega
  rw [hw0]
  have hW0 := P.lW_le hk5 (show 0 ≤ 26 by omega)
  refine ⟨⟨by omega, by omega⟩, ?_⟩
  refine codeK_loop (fun x : CerI (P.lI (kNear c) k) => (7, 0, .av (intV ((P.lW k x.i : Nat) : Int))) :: (0, 0, .av (intV (k : Int))) :: (2, 0, .av (cloV3 51 c)) :: boxBall 6) (fun x => P.lI (kNear c) k - x.i) ⟨0, by omega⟩ (le_of ?_) ?_
  · simp only [go_sem, leL, Nat.reduceBEq, Nat.reduceBNe, Nat.reduceLT, Nat.reduceLeDiff, Nat.reduceAdd, Nat.reduceSub, Nat.reduceMul, Nat.reduceEqDiff, Int.reduceNeg, Int.reduceAdd, Int.reduceLT, Int.reduceLE, Int.reduceToNat, ↓reduceIte]
    and_intros
    all_goals first | exact .inl rfl | rfl
  · rintro ⟨i, hi⟩
    have hW := P.lW_le hk5 (show i ≤ 26 by omega)
    have hW3 : P.lW k i < 2 ^ 37 := Nat.lt_trans hW.2.2 (by decide)
    obtain ⟨s1, s2⟩ := P.lNear_short (neg := decide (c.k < 0)) (K := c.k.natAbs) hc5 hc6 hc7 hW.1 hW3 (by omega)
    have l1 := len_bits s1
    have l2 := len_bits s2
    have l3 := len_div (m := (kNear c (P.lW k i)).1) (2 ^ (P.lW k i - k))
    have l4 := pow_bits k
    have l5 := limbs_len_add ((kNear c (P.lW k i)).1 / 2 ^ (P.lW k i - k)) 1
    have l6 := len_one
    have l7 : (limbs (kNear c (P.lW k i)).1).length ≤ 4000000000 := by unfold kNear; omega
    have l8 : (limbs (kNear c (P.lW k i)).2).length ≤ 4000000000 := by unfold kNear; omega
    have hsh : ∀ m, shiftN m (k : Int) = m * 2 ^ k := fun m => by rw [shiftN_up (by omega)]; congr 1
    have hkn : P.lNear (decide (c.k < 0)) c.k.natAbs (val c.n) (val c.d) (P.lW k i) = kNear c (P.lW k i) := rfl
    by_cases hiI : i = P.lI (kNear c) k
    · have hnext := True.intro
      have hd : decide (P.okF (kNear c (P.lW k i)) (P.lW k i) k) = true := decide_eq_true (by rw [hiI]; exact e2)
      have hef : P.lF (kNear c) k = (kNear c (P.lW k i)).1 / 2 ^ (P.lW k i - k) := by rw [hiI]; rfl
      simp only [go_sem, d_fix_Floor, d_fix_One, d_fix_Shift, d_rat_Of, d_fix_Next, d_logs_Ln_1, hkn, hd, hsh, hnext, Nat.one_mul, Nat.reduceBEq, Nat.reduceBNe, Nat.reduceLT, Nat.reduceLeDiff, Nat.reduceAdd, Nat.reduceSub, Nat.reduceMul, Nat.reduceEqDiff, Int.reduceNeg, Int.reduceAdd, Int.reduceLT, Int.reduceLE, Int.reduceToNat, ↓reduceIte]
      rw [hef]
      and_intros
      all_goals first | omega | rfl | assumption | exact spN_sz (by omega) (by omega) | (show okDraw _ _ = true; kernel_rfl)
    · have hd : decide (P.okF (kNear c (P.lW k i)) (P.lW k i) k) = false := decide_eq_false (e3 i (by omega))
      have hnext : ((P.lW k i : Nat) : Int) * 2 = ((P.lW k (i + 1) : Nat) : Int) := by rw [← lW_succ]; omega
      have hW2 := P.lW_le hk5 (show i + 1 ≤ 26 by omega)
      simp only [go_sem, d_fix_Floor, d_fix_One, d_fix_Shift, d_rat_Of, d_fix_Next, d_logs_Ln_1, hkn, hd, hsh, hnext, Nat.one_mul, Nat.reduceBEq, Nat.reduceBNe, Nat.reduceLT, Nat.reduceLeDiff, Nat.reduceAdd, Nat.reduceSub, Nat.reduceMul, Nat.reduceEqDiff, Int.reduceNeg, Int.reduceAdd, Int.reduceLT, Int.reduceLE, Int.reduceToNat, ↓reduceIte]
      refine ⟨⟨⟨hc1, hc2, hc3, hc4, hc5, hc6, hc7⟩, by omega, by omega⟩, ⟨spN_sz (by omega) (by omega), by omega, by omega⟩, ⟨by omega, by omega⟩, ⟨i + 1, by omega⟩, ?_, le_of ?_⟩
      · show P.lI (kNear c) k - (i + 1) < P.lI (kNear c) k - i
        omega
      · simp only [go_sem, leL, Nat.reduceBEq, Nat.reduceBNe, Nat.reduceLT, Nat.reduceLeDiff, Nat.reduceAdd, Nat.reduceSub, Nat.reduceMul, Nat.reduceEqDiff, Int.reduceNeg, Int.reduceAdd, Int.reduceLT, Int.reduceLE, Int.reduceToNat, ↓reduceIte]
        and_intros
        all_goals first | exact .inl rfl | rfl
def lnOk (q : Rat) : Bool := !ng q && !decide (q = 0) && !decide (4 < (limbs (nm q)).length) && !decide (4 < (limbs q.den).length)
def lnK (q : Rat) : KND := ⟨pK (nm q) q.den, limbs (pN (nm q) q.den), limbs (pD1 (nm q) q.den)⟩
def lnF (q : Rat) (p : Int) : Nat := P.lF (kNear (lnK q)) (hold p)
def lnLo (q : Rat) (p : Int) : Rat := if lnOk q = true then if q = 1 then 0 else if pK (nm q) q.den < 0 then -qv false (lnF q p + 1) (2 ^ hold p) else qv false (lnF q p) (2 ^ hold p) else 0
def lnHi (q : Rat) (p : Int) : Rat := if lnOk q = true then if q = 1 then 0 else if pK (nm q) q.den < 0 then -qv false (lnF q p) (2 ^ hold p) else qv false (lnF q p + 1) (2 ^ hold p) else 0
/-- what is known of a number that has a logarithm -/
theorem ln_num {q : Rat} (h : lnOk q = true) : 0 < q ∧ nm q ≠ 0 ∧ nm q < 2 ^ 128 ∧ q.den < 2 ^ 128 ∧ q * ((q.den : Nat) : Rat) = ((nm q : Nat) : Rat) := by
  unfold lnOk at h
  simp only [Bool.and_eq_true, Bool.not_eq_true', decide_eq_false_iff_not] at h
  obtain ⟨⟨⟨h1, h2⟩, h3⟩, h4⟩ := h
  have hn := lt_of_limbs_len (k := 4) (n := nm q) (by omega)
  have hd := lt_of_limbs_len (k := 4) (n := q.den) (by omega)
  rw [show (4294967296 : Nat) ^ 4 = 2 ^ 128 by decide] at hn hd
  have hnum := rat_num q
  have hsg := sg_nm q
  rw [h1] at hsg
  simp only [Bool.false_eq_true, if_false] at hsg
  rw [← hsg] at hnum
  have hnm : nm q ≠ 0 := fun e => h2 (nm_zero.1 e)
  refine ⟨?_, hnm, hn, hd, hnum⟩
  have hp := P.nat_pos (Nat.pos_of_ne_zero hnm)
  have hdp := P.nat_pos q.den_pos
  rcases P.rat_lt_or 0 q with h5 | h5
  · exact h5
  · exfalso
    have := Rat.mul_le_mul_of_nonneg_right h5 (Rat.le_of_lt hdp)
    rw [hnum, Rat.zero_mul] at this
    grind
/-- the number above 1 of whose logarithm it is told -/
theorem ln_X {q : Rat} (h : lnOk q = true) : kX (lnK q) = if pK (nm q) q.den < 0 then 1 / q else q := by
  obtain ⟨hq, hn0, hn, hd, hqd⟩ := ln_num h
  obtain ⟨f1, f2, f3, _⟩ := part_facts hn0 q.den_nz hn hd
  have hrel := part_rel (nm q) q.den
  have hdq := P.nat_pos q.den_pos
  have hDq := P.nat_pos f1
  have hNq := P.nat_pos (show 0 < pN (nm q) q.den by omega)
  have i1 := P.one_div_mul hDq
  have hxy : ((pN (nm q) q.den : Nat) : Rat) * (1 / ((pD1 (nm q) q.den : Nat) : Rat)) * ((pD1 (nm q) q.den : Nat) : Rat) = ((pN (nm q) q.den : Nat) : Rat) := by rw [Rat.mul_assoc, i1, Rat.mul_one]
  unfold kX lnK P.lX
  simp only [val_limbs]
  generalize hx : ((pN (nm q) q.den : Nat) : Rat) * (1 / ((pD1 (nm q) q.den : Nat) : Rat)) = x at *
  have hcast : ∀ a b : Nat, ((a * b : Nat) : Rat) = (a : Rat) * (b : Rat) := fun a b => Rat.natCast_mul a b
  have hx0 : 0 < x := by
    rcases P.rat_lt_or 0 x with h5 | h5
    · exact h5
    · exfalso
      have := Rat.mul_le_mul_of_nonneg_right h5 (Rat.le_of_lt hDq)
      rw [hxy, Rat.zero_mul] at this
      grind
  have i2 := P.one_div_mul hx0
  have i3 := P.one_div_mul hq
  have cancel : ∀ a b c : Rat, 0 < c → a * c = b * c → a = b := fun a b c hc e => Rat.le_antisymm (Rat.le_of_mul_le_mul_right (show _ ≤ _ by rw [e]; exact Rat.le_refl) hc) (Rat.le_of_mul_le_mul_right (show _ ≤ _ by rw [e]; exact Rat.le_refl) hc)
  by_cases hk : pK (nm q) q.den < 0
  · rw [if_pos hk] at hrel ⊢
    rw [decide_eq_true hk, if_pos rfl]
    have e := congrArg (fun n : Nat => (n : Rat)) hrel
    simp only [hcast] at e
    rw [← P.rp2_nat, ← hxy, ← hqd] at e
    have e2 : x = q * P.rp 2 (pK (nm q) q.den).natAbs := by
      refine cancel _ _ (((pD1 (nm q) q.den : Nat) : Rat) * ((q.den : Nat) : Rat)) (Rat.mul_pos hDq hdq) ?_
      grind
    refine cancel _ _ (x * q) (Rat.mul_pos hx0 hq) ?_
    generalize P.rp 2 (pK (nm q) q.den).natAbs = s at *
    have e3 : s * (1 / x) * (x * q) = s * q * (1 / x * x) := by grind
    have e4 : 1 / q * (x * q) = x * (1 / q * q) := by grind
    rw [e3, e4, i2, i3, e2]
    grind
  · rw [if_neg hk] at hrel ⊢
    rw [decide_eq_false hk]
    simp only [Bool.false_eq_true, if_false]
    have e := congrArg (fun n : Nat => (n : Rat)) hrel
    simp only [hcast] at e
    rw [← P.rp2_nat, ← hxy, ← hqd] at e
    refine cancel _ _ (((pD1 (nm q) q.den : Nat) : Rat) * ((q.den : Nat) : Rat)) (Rat.mul_pos hDq hdq) ?_
    grind
theorem ln_gt {q : Rat} (h : lnOk q = true) (h1 : q ≠ 1) : 1 < kX (lnK q) := by
  have hX := ln_X h
  obtain ⟨hq, hn0, hn, hd, hqd⟩ := ln_num h
  obtain ⟨f1, f2, f3, _⟩ := part_facts hn0 q.den_nz hn hd
  have hrel := part_rel (nm q) q.den
  have hdq := P.nat_pos q.den_pos
  rw [hX]
  by_cases hk : pK (nm q) q.den < 0
  · rw [if_pos hk] at hrel ⊢
    -- q is below 1
    have hlt : nm q < q.den := by
      have g1 : 2 ≤ 2 ^ (pK (nm q) q.den).natAbs := by
        have : 2 ^ 1 ≤ 2 ^ (pK (nm q) q.den).natAbs := Nat.pow_le_pow_right (by omega) (by omega)
        omega
      have g2 : nm q * pD1 (nm q) q.den * 2 ≤ nm q * pD1 (nm q) q.den * 2 ^ (pK (nm q) q.den).natAbs := Nat.mul_le_mul_left _ g1
      rw [← hrel] at g2
      have g3 : pN (nm q) q.den * q.den < 2 * pD1 (nm q) q.den * q.den := Nat.mul_lt_mul_of_pos_right f3 q.den_pos
      have g4 : nm q * pD1 (nm q) q.den < q.den * pD1 (nm q) q.den := by
        rw [Nat.mul_assoc, Nat.mul_comm (pD1 _ _)] at g3
        omega
      exact Nat.lt_of_mul_lt_mul_right g4
    have hlt2 : ((nm q : Nat) : Rat) < ((q.den : Nat) : Rat) := by rw [Rat.natCast_lt_natCast]; exact hlt
    rw [← hqd] at hlt2
    have hq1 : q < 1 := by
      rcases P.rat_lt_or q 1 with h5 | h5
      · exact h5
      · exfalso
        have := Rat.mul_le_mul_of_nonneg_right h5 (Rat.le_of_lt hdq)
        rw [Rat.one_mul] at this
        grind
    have i := P.one_div_mul hq
    have j := P.inv_pos' hq
    rcases P.rat_lt_or 1 (1 / q) with h5 | h5
    · exact h5
    · exfalso
      have := Rat.mul_le_mul_of_nonneg_right h5 (Rat.le_of_lt hq)
      rw [i] at this
      grind
  · rw [if_neg hk] at hrel ⊢
    have hge : q.den ≤ nm q := by
      have g1 : 1 ≤ 2 ^ (pK (nm q) q.den).natAbs := Nat.pow_pos (by omega)
      have g2 : pN (nm q) q.den * 1 * q.den ≤ pN (nm q) q.den * 2 ^ (pK (nm q) q.den).natAbs * q.den := Nat.mul_le_mul_right _ (Nat.mul_le_mul_left _ g1)
      rw [hrel, Nat.mul_one] at g2
      have g3 : pD1 (nm q) q.den * q.den ≤ pN (nm q) q.den * q.den := Nat.mul_le_mul_right _ f2
      have g4 : q.den * pD1 (nm q) q.den ≤ nm q * pD1 (nm q) q.den := by rw [Nat.mul_comm q.den]; omega
      exact Nat.le_of_mul_le_mul_right g4 f1
    have hge2 : ((q.den : Nat) : Rat) ≤ ((nm q : Nat) : Rat) := by rw [Rat.natCast_le_natCast]; exact hge
    rw [← hqd] at hge2
    have : 1 ≤ q := by
      refine Rat.le_of_mul_le_mul_right (c := ((q.den : Nat) : Rat)) ?_ hdq
      rw [Rat.one_mul]; exact hge2
    grind
theorem ln_Xok {q : Rat} (h : lnOk q = true) (h1 : q ≠ 1) : P.Xok (kX (lnK q)) := by
  obtain ⟨hq, hn0, hn, hd, hqd⟩ := ln_num h
  have hX := ln_X h
  have hgt := ln_gt h h1
  have hdq := P.nat_pos q.den_pos
  have hnq := P.nat_pos (Nat.pos_of_ne_zero hn0)
  have hb : ∀ m : Nat, m < 2 ^ 128 → ((m : Nat) : Rat) ≤ P.rp 2 130 := fun m hm => by
    rw [P.rp2_nat, Rat.natCast_le_natCast]
    have : (2 : Nat) ^ 128 ≤ 2 ^ 130 := by decide
    omega
  have hb2 : (2 : Nat) ^ 128 ≤ 2 ^ 250 := by decide
  refine ⟨hgt, ?_, ?_⟩
  all_goals rw [hX]
  all_goals split
  · have i := P.one_div_mul hq
    have e : 1 / q ≤ ((q.den : Nat) : Rat) := by
      have e1 : 1 / q * ((nm q : Nat) : Rat) = ((q.den : Nat) : Rat) := by rw [← hqd]; grind
      have e2 : (1 : Rat) ≤ ((nm q : Nat) : Rat) := by rw [show (1 : Rat) = ((1 : Nat) : Rat) from rfl, Rat.natCast_le_natCast]; omega
      have e3 := Rat.mul_le_mul_of_nonneg_left e2 (Rat.le_of_lt (P.inv_pos' hq))
      rw [e1] at e3
      grind
    exact Rat.le_trans e (hb _ hd)
  · have e2 : (1 : Rat) ≤ ((q.den : Nat) : Rat) := by rw [show (1 : Rat) = ((1 : Nat) : Rat) from rfl, Rat.natCast_le_natCast]; exact q.den_pos
    have e3 := Rat.mul_le_mul_of_nonneg_left e2 (Rat.le_of_lt hq)
    rw [hqd] at e3
    have := hb _ hn
    grind
  · refine ⟨nm q, (q.den : Int), Nat.pos_of_ne_zero hn0, by omega, ?_⟩
    have i := P.one_div_mul hq
    rw [← hqd]
    show q * ((q.den : Nat) : Rat) * (1 / q) = ((q.den : Nat) : Rat)
    grind
  · refine ⟨q.den, (nm q : Int), q.den_pos, by omega, ?_⟩
    rw [Rat.mul_comm, hqd]
    rfl
theorem ln_kc {q : Rat} (h : lnOk q = true) : -1000 ≤ (lnK q).k ∧ (lnK q).k ≤ 1000 ∧ (lnK q).n.length ≤ 1000000 ∧ (lnK q).d.length ≤ 1000000 ∧ 0 < val (lnK q).d ∧ val (lnK q).d ≤ val (lnK q).n ∧ val (lnK q).n ≤ 2 * val (lnK q).d := by
  obtain ⟨hq, hn0, hn, hd, hqd⟩ := ln_num h
  obtain ⟨f1, f2, f3, f4, f5, f6, f7⟩ := part_facts hn0 q.den_nz hn hd
  have l1 : (limbs (pD1 (nm q) q.den)).length ≤ 1000 := by
    obtain ⟨kk, hkk⟩ : ∃ kk : Nat, kk = 200 := ⟨_, rfl⟩
    have h1 : pD1 (nm q) q.den < 2 ^ (128 + kk) := by
      unfold pD1
      have : 2 ^ (max 0 (pK0 (nm q) q.den)).toNat ≤ 2 ^ kk := Nat.pow_le_pow_right (by omega) (by omega)
      rw [Nat.pow_add]
      exact Nat.lt_of_lt_of_le (Nat.mul_lt_mul_of_pos_right hd (Nat.pow_pos (by omega))) (Nat.mul_le_mul_left _ this)
    have := len_bits h1
    omega
  have l2 : (limbs (pN (nm q) q.den)).length ≤ 1001 := by
    have h2 := limbs_len_mono (Nat.le_of_lt f3)
    have h3 := limbs_len_add (pD1 (nm q) q.den) (pD1 (nm q) q.den)
    rw [show 2 * pD1 (nm q) q.den = pD1 (nm q) q.den + pD1 (nm q) q.den by omega] at h2
    omega
  unfold lnK
  simp only [val_limbs]
  exact ⟨by omega, by omega, by omega, by omega, f1, f2, by omega⟩
theorem ln_is {q : Rat} {p : Int} (h : lnOk q = true) (h1 : q ≠ 1) (hp : hold p ≤ 200) : P.IsL (kX (lnK q)) (hold p) (lnF q p) := by
  obtain ⟨c1, c2, c3, c4, c5, c6, c7⟩ := ln_kc h
  have hxd : ((val (lnK q).n : Nat) : Rat) * (1 / ((val (lnK q).d : Nat) : Rat)) * ((val (lnK q).d : Nat) : Rat) = ((val (lnK q).n : Nat) : Rat) := by rw [Rat.mul_assoc, P.one_div_mul (P.nat_pos c5), Rat.mul_one]
  have hnear : P.LNear (kNear (lnK q)) (kX (lnK q)) := P.lNear_near c5 c6 c7 hxd (by intro h; have := of_decide_eq_true h; omega) (by omega)
  exact (P.l_ends hnear (ln_Xok h h1) hp).2.2.2
def fz_logs_Ln : Nat → List Nat
  | 14 => [6, 7, 8]
  | _ => []
def d_logs_Ln : Den := den2 aRat aInt (fun a p => a.sz ≤ 100000 ∧ p ≤ 200) fun a p => ballOkV (bb (lnLo a.q p) (lnHi a.q p)) (lnOk a.q)
set_option maxRecDepth 100000 in
set_option maxHeartbeats 1000000 in
theorem s_logs_Ln : Sound Tryz.prog 15 d_logs_Ln := by
  refine sound2 (fz := fz_logs_Ln) (l := [(22, d_rat_Norm), (26, d_rat_Zero), (24, d_rat_Int), (25, d_ball_Of), (49, d_rat_Same), (50, d_logs_parted), (27, d_logs_Certain), (53, d_ball_Neg)]) TT_ok ⟨s_rat_Norm, s_rat_Zero, s_rat_Int, s_ball_Of, s_rat_Same, s_logs_parted, s_logs_Certain, s_ball_Neg, trivial⟩ mixed Tryz.func15 Tryz.ntmps15 Tryz.results15 Tryz.call15 rfl (by omega) (fun _ _ => rfl) ?_
  intro a b hp ha hb
  rw [codeK_start]
  simp only [go_sem, d_rat_Norm, d_rat_Zero, d_rat_Int, d_ball_Of, d_rat_Same, d_logs_parted, d_logs_Certain, d_ball_Neg, fz_logs_Ln, Nat.reduceBEq, Nat.reduceBNe, Nat.reduceLT, Nat.reduceLeDiff, Nat.reduceAdd, Nat.reduceSub, Nat.reduceMul, Nat.reduceEqDiff, Int.reduceNeg, Int.reduceAdd, Int.reduceLT, Int.reduceLE, Int.reduceToNat, ↓reduceIte]
  obtain ⟨hsz, hp200⟩ := hp
  have hr : rs a.q ≤ 100000 := rs_ok ha hsz (by omega)
  have hrp := rs_parts hr
  have hh : min (max b 0) 512 = ((hold b : Nat) : Int) := (hold_cast b).symm
  have hv1 : val (cr a.q).n = nm a.q := val_limbs _
  have hv2 : val (cr a.q).d = a.q.den := val_limbs _
  have hv3 : (cr a.q).s = ng a.q := rfl
  simp only [hv1, hv2, hv3, hh]
  have r0 : rs ((0 : Int) : Rat) ≤ 10 := by decide +kernel
  have r1 : rs ((1 : Int) : Rat) ≤ 10 := by decide +kernel
  have hhn : (((hold b : Nat) : Int)).toNat = hold b := rfl
  have hb200 : hold b ≤ 200 := by have := hold_cast b; omega
  rw [hhn]
  refine ⟨by omega, ?_⟩
  have hno : lnOk a.q = false → lnLo a.q b = ((0 : Int) : Rat) ∧ lnHi a.q b = ((0 : Int) : Rat) := fun h => by
    unfold lnLo lnHi; rw [h]; exact ⟨rfl, rfl⟩
  by_cases hk : lnOk a.q = true
  · have hk2 := hk
    unfold lnOk at hk2
    simp only [Bool.and_eq_true, Bool.not_eq_true', decide_eq_false_iff_not] at hk2
    obtain ⟨⟨⟨k1, k2⟩, k3⟩, k4⟩ := hk2
    rw [if_pos k1]
    refine ⟨by omega, ?_⟩
    rw [if_pos (decide_eq_false k2), if_pos (decide_eq_false (show ¬ (4 : Int) < (((cr a.q).n.length : Nat) : Int) by show ¬ (4 : Int) < (((limbs (nm a.q)).length : Nat) : Int); omega)), if_neg (show ¬ (4 : Int) < (((cr a.q).d.length : Nat) : Int) by show ¬ (4 : Int) < (((limbs a.q.den).length : Nat) : Int); omega)]
    refine ⟨⟨by omega, by omega⟩, by kernel_rfl, ?_⟩
    by_cases h1 : a.q = ((1 : Int) : Rat)
    · have l1 : lnLo a.q b = ((0 : Int) : Rat) := by unfold lnLo; rw [if_pos hk, if_pos (show a.q = 1 from h1)]; rfl
      have l2 : lnHi a.q b = ((0 : Int) : Rat) := by unfold lnHi; rw [if_pos hk, if_pos (show a.q = 1 from h1)]; rfl
      rw [if_pos h1, l1, l2, hk]
      exact ⟨by omega, ⟨rfl, rfl, rfl, rfl, rfl, rfl⟩, rfl⟩
    · rw [if_neg h1]
      have h1' : a.q ≠ 1 := h1
      obtain ⟨g1, g2, g3, g4, g5⟩ := ln_num hk
      have gs : rs a.q ≤ 1000 := Nat.max_le.2 ⟨by omega, by omega⟩
      obtain ⟨c1, c2, c3, c4, c5, c6, c7⟩ := ln_kc hk
      simp only [lnK, val_limbs] at c1 c2 c3 c4 c5 c6 c7
      refine ⟨⟨gs, by omega, a.q.den_pos, g3, g4⟩, ⟨by omega, by omega, ⟨c1, c2, c3, c4, c5, c6, c7⟩, ln_Xok hk h1'⟩, ?_⟩
      have hF : P.lF (kNear { k := pK (nm a.q) a.q.den, n := limbs (pN (nm a.q) a.q.den), d := limbs (pD1 (nm a.q) a.q.den) }) (hold b) = lnF a.q b := rfl
      rw [hF]
      have hsm := (ln_is hk h1' hb200).small (ln_Xok hk h1')
      have e1 : (eB (lnF a.q b) (hold b)).hi.q = qv false (lnF a.q b + 1) (2 ^ hold b) := cr_q _
      have e2 : (eB (lnF a.q b) (hold b)).lo.q = qv false (lnF a.q b) (2 ^ hold b) := cr_q _
      split
      · rename_i hneg
        have l1 : lnLo a.q b = -qv false (lnF a.q b + 1) (2 ^ hold b) := by unfold lnLo; rw [if_pos hk, if_neg h1', if_pos hneg]
        have l2 : lnHi a.q b = -qv false (lnF a.q b) (2 ^ hold b) := by unfold lnHi; rw [if_pos hk, if_neg h1', if_pos hneg]
        rw [e1, e2, l1, l2, hk]
        refine ⟨?_, ⟨rfl, rfl, rfl, rfl, rfl, rfl⟩, rfl⟩
        have h6 := len_bits hsm
        have h7 := limbs_len_add (lnF a.q b) 1
        have h8 := len_one
        have h9 := pow_bits (hold b)
        exact Nat.max_le.2 ⟨Nat.le_trans (show rs (qv false (lnF a.q b) (2 ^ hold b)) ≤ 30 from rs_qv _ _ _ _ (by omega) (by omega) (by omega)) (by omega), Nat.le_trans (show rs (qv false (lnF a.q b + 1) (2 ^ hold b)) ≤ 30 from rs_qv _ _ _ _ (by omega) (by omega) (by omega)) (by omega)⟩
      · rename_i hneg
        have l1 : lnLo a.q b = qv false (lnF a.q b) (2 ^ hold b) := by unfold lnLo; rw [if_pos hk, if_neg h1', if_neg hneg]
        have l2 : lnHi a.q b = qv false (lnF a.q b + 1) (2 ^ hold b) := by unfold lnHi; rw [if_pos hk, if_neg h1', if_neg hneg]
        rw [l1, l2, hk]
        exact ⟨⟨rfl, rfl, rfl, rfl, rfl, rfl⟩, rfl⟩
  · have hk2 := (Bool.not_eq_true _).mp hk
    obtain ⟨n1, n2⟩ := hno hk2
    rw [n1, n2, hk2]
    by_cases k1 : ng a.q = false
    · rw [if_pos k1]
      refine ⟨by omega, ?_⟩
      by_cases k2 : a.q = 0
      · rw [if_neg (by rw [decide_eq_true k2]; decide)]
        exact ⟨by omega, ⟨rfl, rfl, rfl, rfl, rfl, rfl⟩, rfl⟩
      · rw [if_pos (decide_eq_false k2)]
        by_cases k3 : 4 < (limbs (nm a.q)).length
        · rw [if_neg (by rw [decide_eq_true (show (4 : Int) < (((cr a.q).n.length : Nat) : Int) by show (4 : Int) < (((limbs (nm a.q)).length : Nat) : Int); omega)]; decide)]
          exact ⟨by omega, ⟨rfl, rfl, rfl, rfl, rfl, rfl⟩, rfl⟩
        · rw [if_pos (decide_eq_false (show ¬ (4 : Int) < (((cr a.q).n.length : Nat) : Int) by show ¬ (4 : Int) < (((limbs (nm a.q)).length : Nat) : Int); omega))]
          have k4 : 4 < (limbs a.q.den).length := by
            unfold lnOk at hk2
            rw [k1, decide_eq_false k2, decide_eq_false k3] at hk2
            simpa using hk2
          rw [if_pos (show (4 : Int) < (((cr a.q).d.length : Nat) : Int) by show (4 : Int) < (((limbs a.q.den).length : Nat) : Int); omega)]
          exact ⟨by omega, ⟨rfl, rfl, rfl, rfl, rfl, rfl⟩, rfl⟩
    · rw [if_neg k1]
      exact ⟨by omega, ⟨rfl, rfl, rfl, rfl, rfl, rfl⟩, rfl⟩
def d_logs_Two : Den := den1 aInt (fun p => p ≤ 200) fun p => ballV (bb (lnLo 2 p) (lnHi 2 p))
set_option maxRecDepth 100000 in
set_option maxHeartbeats 1000000 in
theorem s_logs_Two : Sound Tryz.prog 56 d_logs_Two := by
  refine sound1 (fz := nofz) (l := [(24, d_rat_Int), (15, d_logs_Ln)]) TT_ok ⟨s_rat_Int, s_logs_Ln, trivial⟩ mixed Tryz.func56 Tryz.ntmps56 Tryz.results56 Tryz.call56 rfl (by omega) (fun _ => rfl) ?_
  intro a hp ha
  rw [codeK_start]
  simp only [go_sem, d_rat_Int, d_logs_Ln, Nat.reduceBEq, Nat.reduceBNe, Nat.reduceLT, Nat.reduceLeDiff, Nat.reduceAdd, Nat.reduceSub, Nat.reduceMul, Nat.reduceEqDiff, Int.reduceNeg, Int.reduceAdd, Int.reduceLT, Int.reduceLE, Int.reduceToNat, ↓reduceIte]
  have r2 : rs ((2 : Int) : Rat) ≤ 10 := by decide +kernel
  exact ⟨⟨by omega, hp⟩, rfl, rfl, rfl, rfl, rfl, rfl⟩
end Go.Proofs.YtjfaefgabaimaaaGreat
