/- vernierref7: twice, half, Iv, Ln, by the abstract walk. Conditions: at most 10^5 bits. vernierref7: Iv and Ln, by the abstract walk. Conditions: at most 10^5 bits. -/
import Derived.Test.YtjfaefgabaimaaaGreatNc
import Derived.Test.YtjfaefgabaimaaaGreatMd
import Derived.Test.YtjfaefgabaimaaaGreatPj
import Derived.Test.YtjfaefgabaimaaaGreatBj
namespace Go.Proofs.YtjfaefgabaimaaaGreat
open Go.RowKit
set_option linter.unusedSimpArgs false
set_option linter.unusedVariables false
def d_i4_Minus : Den := den2 aIv aIv (fun a b => ZZ a 100000000 ∧ ZZ b 100000000) fun a b => ivV (P.iminus a b)
set_option maxRecDepth 100000 in
set_option maxHeartbeats 2000000 in
theorem s_i4_Minus : Sound Tryz.prog 102 d_i4_Minus := by
  refine sound2 (fz := nofz) (l := [(116, d_i4_Opp), (76, d_i4_Plus)]) TT_ok ⟨s_i4_Opp, s_i4_Plus, trivial⟩ mixed Tryz.func102 Tryz.ntmps102 Tryz.results102 Tryz.call102 rfl (by omega) (fun _ _ => rfl) ?_
  intro a b hp ha hb
  rw [codeK_start]
  obtain ⟨⟨h1, h2⟩, h3, h4⟩ := hp
  have l1 : SZ a.1 := by unfold SZ; omega
  have l2 : SZ a.2 := by unfold SZ; omega
  have l3 : SZ b.1 := by unfold SZ; omega
  have l4 : SZ b.2 := by unfold SZ; omega
  have l5 : SZ (-b.1) := by unfold SZ; rw [zs_neg]; omega
  have l6 : SZ (-b.2) := by unfold SZ; rw [zs_neg]; omega
  simp only [go_sem, d_i4_Opp, d_i4_Plus, decide_true, decide_false, Bool.not_true, Bool.not_false, zN_val, P.iminus, Nat.reduceBEq, Nat.reduceBNe, Nat.reduceLT, Nat.reduceLeDiff, Nat.reduceAdd, Nat.reduceSub, Nat.reduceMul, Nat.reduceEqDiff, Int.reduceNeg, Int.reduceAdd, Int.reduceLT, Int.reduceLE, Int.reduceToNat, ↓reduceIte]
  all_goals ((try and_intros) <;> first | exact trivial | omega | (show okDraw _ _ = true; kernel_rfl) | assumption)
def d_i4_Often : Den := den2 aIv aInt (fun a b => ZZ a 100000000 ∧ 0 ≤ b ∧ b ≤ 1000000) fun a b => ivV (P.ioften a b)
set_option maxRecDepth 100000 in
set_option maxHeartbeats 2000000 in
theorem s_i4_Often : Sound Tryz.prog 101 d_i4_Often := by
  refine sound2 (fz := nofz) (l := [(77, d_i4_Whole), (122, d_i4_Times)]) TT_ok ⟨s_i4_Whole, s_i4_Times, trivial⟩ mixed Tryz.func101 Tryz.ntmps101 Tryz.results101 Tryz.call101 rfl (by omega) (fun _ _ => rfl) ?_
  intro a b hp ha hb
  rw [codeK_start]
  obtain ⟨⟨h1, h2⟩, h3, h4⟩ := hp
  have l1 : SZ a.1 := by unfold SZ; omega
  have l2 : SZ a.2 := by unfold SZ; omega
  have l4 : SZ b := by
    have := zs_bits (z := b) (B := 64) (by omega)
    unfold SZ; omega
  simp only [go_sem, d_i4_Whole, d_i4_Times, decide_true, decide_false, Bool.not_true, Bool.not_false, zN_val, P.ioften, Nat.reduceBEq, Nat.reduceBNe, Nat.reduceLT, Nat.reduceLeDiff, Nat.reduceAdd, Nat.reduceSub, Nat.reduceMul, Nat.reduceEqDiff, Int.reduceNeg, Int.reduceAdd, Int.reduceLT, Int.reduceLE, Int.reduceToNat, ↓reduceIte]
  all_goals ((try and_intros) <;> first | exact trivial | omega | (show okDraw _ _ = true; kernel_rfl) | assumption)
/-- a round of the row -/
structure LwI (W : Nat) (y : Int × Int) where
  i : Nat
  e : Nat
  f : Nat
  t : Int × Int
  s : Int × Int
  D : Int
  h : P.LgAt W 2 (((2 ^ (2 + (W - 1)) : Nat) : Int)) i e t s D
  ew : e ≤ W
  hf : e + 1 ≤ f
  hv : P.lgGo W (P.iprod y y W) f i t s = P.lgIv y W
def d_ref7_twice : Den := den2 aRat aInt (fun a b => a.sz ≤ 1000 ∧ P.within (numZ a.q b) ((2 ^ (cN b - 1) : Nat) : Int) ∧ 20 ≤ b ∧ b ≤ 1000000) fun a b => ivV (P.lgIv (numZ a.q b) (cN b))
set_option maxRecDepth 100000 in
set_option maxHeartbeats 8000000 in
theorem s_ref7_twice : Sound Tryz.prog 99 d_ref7_twice := by
  refine sound2 (fz := nofz) (l := [(79, d_i4_Num), (82, d_i4_Prod), (119, d_i4_By), (100, d_i4_Sum), (120, d_i4_Most), (77, d_i4_Whole), (78, d_i4_Cmp), (121, d_i4_Wide), (101, d_i4_Often)]) TT_ok ⟨s_i4_Num, s_i4_Prod, s_i4_By, s_i4_Sum, s_i4_Most, s_i4_Whole, s_i4_Cmp, s_i4_Wide, s_i4_Often, trivial⟩ mixed Tryz.func99 Tryz.ntmps99 Tryz.results99 Tryz.call99 rfl (by omega) (fun _ _ => rfl) ?_
  intro a b hp ha hb
  rw [codeK_start]
  obtain ⟨h0, hy, h1, h2⟩ := hp
  have q1 : rs a.q ≤ 1000000 := rs_ok ha (by omega) (by omega)
  have hW : cN b ≤ 4096 := by unfold cN; omega
  have hW2 : 20 ≤ cN b := by unfold cN; omega
  have zy : ZZ (numZ a.q b) 100000000 := ZZ_pow hy (by omega)
  have hq : P.within (P.iprod (numZ a.q b) (numZ a.q b) (cN b)) ((2 ^ (cN b - 2) : Nat) : Int) := P.sq_in (c := 2) (e := cN b - 1) (by omega) (by omega) hy
  have zq : ZZ (P.iprod (numZ a.q b) (numZ a.q b) (cN b)) 100000000 := ZZ_pow hq (by omega)
  obtain ⟨zy1, zy2⟩ := zy
  have zy : ZZ (numZ a.q b) 100000000 := ⟨zy1, zy2⟩
  have e6 : a.sz ≤ 1000000 := by omega
  simp only [go_sem, d_i4_Num, d_i4_Prod, d_i4_By, d_i4_Sum, d_i4_Most, d_i4_Whole, d_i4_Cmp, d_i4_Wide, d_i4_Often, decide_true, decide_false, Bool.not_true, Bool.not_false, zN_val, Nat.reduceBEq, Nat.reduceBNe, Nat.reduceLT, Nat.reduceLeDiff, Nat.reduceAdd, Nat.reduceSub, Nat.reduceMul, Nat.reduceEqDiff, Int.reduceNeg, Int.reduceAdd, Int.reduceLT, Int.reduceLE, Int.reduceToNat, ↓reduceIte]
  and_intros
  all_goals try (first | exact trivial | omega | assumption | (show okDraw _ _ = true; kernel_rfl))
  refine codeK_loop (fun x : LwI (cN b) (numZ a.q b) => ((9, 0, .av (intV ((x.i : Nat)))) : Nat × Nat × RV) :: ((1, 0, .av (intV (b))) : Nat × Nat × RV) :: (boxIv 6 (P.iprod (numZ a.q b) (numZ a.q b) (cN b)) ++ (boxIv 7 x.s ++ (boxIv 8 x.t ++ boxIv0 4)))) (fun x => x.e) ⟨1, cN b - 1, cN b + 5, numZ a.q b, numZ a.q b, _, P.lg_start (by omega) (by omega) hy, by omega, by omega, rfl⟩ (le_of ?_) ?_
  · simp only [go_sem, leL, Nat.reduceBEq, Nat.reduceBNe, Nat.reduceLT, Nat.reduceLeDiff, Nat.reduceAdd, Nat.reduceSub, Nat.reduceMul, Nat.reduceEqDiff, Int.reduceNeg, Int.reduceAdd, Int.reduceLT, Int.reduceLE, Int.reduceToNat, ↓reduceIte, Int.natCast_one, Int.cast_ofNat_Int]
  · rintro ⟨i, e, g, t, s, D, hR, ew, hg, hv⟩
    obtain ⟨⟨D2, d0, d1, dw⟩, pw, hnx⟩ := P.lg_step (by omega) (by omega) hq hR
    have i1 := hR.i1
    have ie := hR.ie
    have te := hR.te
    have se := hR.se
    have dB := hR.dB
    have e2 := hR.e2
    have hez := P.pow_pos' e
    have hWz := P.pow_pos' (cN b)
    have c4 : ((2 ^ 2 : Nat) : Int) = 4 := by decide
    have hBB : ((2 ^ (2 + (cN b - 1)) : Nat) : Int) ≤ ((2 ^ (cN b + 1) : Nat) : Int) := P.two_mono (by omega)
    have t1 : ((2 ^ (cN b + 2) : Nat) : Int) = ((2 ^ cN b : Nat) : Int) * 4 := P.two_add (cN b) 2
    have t2 : ((2 ^ (cN b + 1) : Nat) : Int) = ((2 ^ cN b : Nat) : Int) * 2 := P.two_add (cN b) 1
    have t4 : ((2 ^ (cN b + 1 + 1) : Nat) : Int) = ((2 ^ cN b : Nat) : Int) * 4 := P.two_add (cN b) 2
    have t5 : ((2 ^ (cN b + 2 + 1) : Nat) : Int) = ((2 ^ cN b : Nat) : Int) * 8 := P.two_add (cN b) 3
    have t3 : (8 : Int) ≤ ((2 ^ (cN b + 2) : Nat) : Int) := P.two_mono (m := 3) (by omega)
    rw [c4] at dB d1
    have zt : ZZ t 100000000 := ZZ_pow te (by omega)
    have zp : ZZ (P.iprod t (P.iprod (numZ a.q b) (numZ a.q b) (cN b)) (cN b)) 100000000 := ZZ_pow pw (by omega)
    have zs1 : ZZ s 100000000 := ZZ_pow (e := cN b + 1 + 1) (within_mono se (by omega)) (by omega)
    have zs2 : ZZ (P.isum s (P.iby (P.iprod t (P.iprod (numZ a.q b) (numZ a.q b) (cN b)) (cN b)) (2 * i + 1))) 10000000 := ZZ_pow (e := cN b + 2 + 1) (within_mono dw (by omega)) (by omega)
    have zu : ZZ (P.iby (P.iprod t (P.iprod (numZ a.q b) (numZ a.q b) (cN b)) (cN b)) (2 * i + 1)) 100000000 := ZZ_pow (P.iby_mono (by omega) (Int.le_of_lt hez) pw) (by omega)
    have zw : ZZ (P.iwide (P.isum s (P.iby (P.iprod t (P.iprod (numZ a.q b) (numZ a.q b) (cN b)) (cN b)) (2 * i + 1))) 4) 100000000 := by
      refine ZZ_pow (e := cN b + 2 + 1) ?_ (by omega)
      unfold P.within P.iwide at *
      simp only
      omega
    have zm : zs (P.imost (P.iprod t (P.iprod (numZ a.q b) (numZ a.q b) (cN b)) (cN b))) ≤ 900000000 := by
      have m1 := P.imost_le pw
      have m0 : 0 ≤ P.imost (P.iprod t (P.iprod (numZ a.q b) (numZ a.q b) (cN b)) (cN b)) := by unfold P.imost; split <;> omega
      have := zs_pow (e := e) (by omega) m1
      omega
    have z2 : zs 2 ≤ 900000000 := by
      have := zs_bits (z := 2) (B := 64) (by decide)
      omega
    have n2 : (2 * (i : Int) + 1).toNat = 2 * i + 1 := by omega
    have zz := (⟨zt.1, zt.2, zp.1, zp.2, zu.1, zu.2, zs1.1, zs1.2, zs2.1, zs2.2, zq.1, zq.2, zw.1, zw.2⟩ : _ ∧ _ ∧ _ ∧ _ ∧ _ ∧ _ ∧ _ ∧ _ ∧ _ ∧ _ ∧ _ ∧ _ ∧ _ ∧ _)
    obtain ⟨a1, a2, a3, a4, a5, a6, a7, a8, a9, a10, a11, a12, a13, a14⟩ := zz
    have zs3 : ZZ (P.isum s (P.iby (P.iprod t (P.iprod (numZ a.q b) (numZ a.q b) (cN b)) (cN b)) (2 * i + 1))) 100000000 := ⟨by omega, by omega⟩
    cases g with
    | zero => omega
    | succ g =>
      by_cases hm : P.imost (P.iprod t (P.iprod (numZ a.q b) (numZ a.q b) (cN b)) (cN b)) ≤ 2
      · have hm' : (P.imost (P.iprod t (P.iprod (numZ a.q b) (numZ a.q b) (cN b)) (cN b)) ≤ 2) = True := eq_true hm
        have ev : P.lgIv (numZ a.q b) (cN b) = P.ioften (P.iwide (P.isum s (P.iby (P.iprod t (P.iprod (numZ a.q b) (numZ a.q b) (cN b)) (cN b)) (2 * i + 1))) 4) 2 := by
          rw [← hv]
          unfold P.lgGo
          rw [if_pos hm]
        simp only [go_sem, d_i4_Num, d_i4_Prod, d_i4_By, d_i4_Sum, d_i4_Most, d_i4_Whole, d_i4_Cmp, d_i4_Wide, d_i4_Often, decide_true, decide_false, Bool.not_true, Bool.not_false, zN_val, hm', ev, Int.toNat_natCast, n2, Nat.reduceBEq, Nat.reduceBNe, Nat.reduceLT, Nat.reduceLeDiff, Nat.reduceAdd, Nat.reduceSub, Nat.reduceMul, Nat.reduceEqDiff, Int.reduceNeg, Int.reduceAdd, Int.reduceLT, Int.reduceLE, Int.reduceToNat, ↓reduceIte]
        all_goals ((try and_intros) <;> first | exact trivial | omega | (show okDraw _ _ = true; kernel_rfl) | assumption)
      · have hm' : (P.imost (P.iprod t (P.iprod (numZ a.q b) (numZ a.q b) (cN b)) (cN b)) ≤ 2) = False := eq_false hm
        obtain ⟨e', D3, he, hR2⟩ := hnx hm
        simp only [go_sem, d_i4_Num, d_i4_Prod, d_i4_By, d_i4_Sum, d_i4_Most, d_i4_Whole, d_i4_Cmp, d_i4_Wide, d_i4_Often, decide_true, decide_false, Bool.not_true, Bool.not_false, zN_val, hm', Int.toNat_natCast, n2, Nat.reduceBEq, Nat.reduceBNe, Nat.reduceLT, Nat.reduceLeDiff, Nat.reduceAdd, Nat.reduceSub, Nat.reduceMul, Nat.reduceEqDiff, Int.reduceNeg, Int.reduceAdd, Int.reduceLT, Int.reduceLE, Int.reduceToNat, ↓reduceIte]
        and_intros
        all_goals try (first | exact trivial | omega | assumption | (show okDraw _ _ = true; kernel_rfl))
        refine ⟨⟨i + 1, e', g, _, _, D3, hR2, by omega, by omega, ?_⟩, he, le_of ?_⟩
        · rw [← hv]
          conv => rhs; unfold P.lgGo
          rw [if_neg hm]
        · simp only [go_sem, leL, Nat.reduceBEq, Nat.reduceBNe, Nat.reduceLT, Nat.reduceLeDiff, Nat.reduceAdd, Nat.reduceSub, Nat.reduceMul, Nat.reduceEqDiff, Int.reduceNeg, Int.reduceAdd, Int.reduceLT, Int.reduceLE, Int.reduceToNat, ↓reduceIte]
          try omega
def hfN (q : Rat) (k : Int) : Nat := nm q * 2 ^ (max 0 (-k)).toNat
def hfD (q : Rat) (k : Int) : Nat := q.den * 2 ^ (max 0 k).toNat
def hfQ (q : Rat) (k : Int) : Rat := qv (ng q) (hfN q k) (hfD q k)
theorem lt_pow_mul {m a k b : Nat} (h : m < 2 ^ a) (hb : a + k ≤ b) : m * 2 ^ k < 2 ^ b := by
  have h1 : m * 2 ^ k < 2 ^ a * 2 ^ k := Nat.mul_lt_mul_of_pos_right h (Nat.pow_pos (by omega))
  rw [← Nat.pow_add] at h1
  exact Nat.lt_of_lt_of_le h1 (Nat.pow_le_pow_right (by omega) hb)
theorem hf_len {q : Rat} {k : Int} (h : lnOk q = true) (h1 : -300 ≤ k) (h2 : k ≤ 300) : (limbs (hfN q k)).length ≤ 20 ∧ (limbs (hfD q k)).length ≤ 20 := by
  obtain ⟨_, _, n1, n2, _⟩ := ln_num h
  have a := len_bits (lt_pow_mul (k := (max 0 (-k)).toNat) (b := 428) n1 (by omega))
  have b := len_bits (lt_pow_mul (k := (max 0 k).toNat) (b := 428) n2 (by omega))
  unfold hfN hfD
  omega
theorem hf_rs {q : Rat} {k : Int} (h : lnOk q = true) (h1 : -300 ≤ k) (h2 : k ≤ 300) : rs (hfQ q k) ≤ 20 := by
  obtain ⟨a, b⟩ := hf_len h h1 h2
  exact rs_qv _ _ _ _ a b (by omega)
theorem sh_up2 {m : Nat} {n : Int} (h : 0 ≤ n) (h2 : n ≤ 300) : shiftN m (clampN n) = m * 2 ^ (max 0 n).toNat := by
  rw [sh_up h]
  unfold cN
  rw [show (min n 4096).toNat = (max 0 n).toNat by omega]
theorem rs_lnOk' {q : Rat} (h : lnOk q = true) : rs q ≤ 4 := by
  unfold lnOk at h
  simp only [Bool.and_eq_true, Bool.not_eq_true', decide_eq_false_iff_not] at h
  exact Nat.max_le.2 ⟨by omega, by omega⟩
def d_ref7_half : Den := den2 aRat aInt (fun a b => a = cr a.q ∧ lnOk a.q = true ∧ -300 ≤ b ∧ b ≤ 300) fun a b => ratV (cr (hfQ a.q b))
set_option maxRecDepth 100000 in
set_option maxHeartbeats 8000000 in
theorem s_ref7_half : Sound Tryz.prog 98 d_ref7_half := by
  refine sound2 (fz := nofz) (l := [(80, d_ref1_ShiftC), (32, d_ref2_Of)]) TT_ok ⟨s_ref1_ShiftC, s_ref2_Of, trivial⟩ mixed Tryz.func98 Tryz.ntmps98 Tryz.results98 Tryz.call98 rfl (by omega) (fun _ _ => rfl) ?_
  intro a b hp ha hb
  rw [codeK_start]
  obtain ⟨h0, hk, h1, h2⟩ := hp
  generalize a.q = q at *
  subst h0
  obtain ⟨l1, l2⟩ := hf_len hk h1 h2
  have r1 := rs_lnOk' hk
  obtain ⟨l3, l4⟩ := rs_parts r1
  by_cases c : 0 ≤ b
  · have c1 : (0 ≤ b) = True := eq_true c
    have e1 : hfQ q b = qv (ng q) (nm q) (q.den * 2 ^ (max 0 b).toNat) := by
      unfold hfQ hfN hfD
      rw [show (max 0 (-b)).toNat = 0 by omega, Nat.pow_zero, Nat.mul_one]
    have e2 := sh_up2 (m := q.den) c h2
    have l5 : (limbs (q.den * 2 ^ (max 0 b).toNat)).length ≤ 20 := l2
    simp only [go_sem, d_ref1_ShiftC, d_ref2_Of, decide_true, decide_false, Bool.not_true, Bool.not_false, zN_val, cr_n, cr_d, cr_s, val_limbs, c1, e1, e2, Nat.reduceBEq, Nat.reduceBNe, Nat.reduceLT, Nat.reduceLeDiff, Nat.reduceAdd, Nat.reduceSub, Nat.reduceMul, Nat.reduceEqDiff, Int.reduceNeg, Int.reduceAdd, Int.reduceLT, Int.reduceLE, Int.reduceToNat, ↓reduceIte]
    all_goals ((try and_intros) <;> first | exact trivial | omega | (show okDraw _ _ = true; kernel_rfl) | assumption)
  · have c1 : (0 ≤ b) = False := eq_false c
    have e1 : hfQ q b = qv (ng q) (nm q * 2 ^ (max 0 (-b)).toNat) q.den := by
      unfold hfQ hfN hfD
      rw [show (max 0 b).toNat = 0 by omega, Nat.pow_zero, Nat.mul_one]
    have e2 : shiftN (nm q) (clampN (0 - b)) = nm q * 2 ^ (max 0 (-b)).toNat := by rw [Int.zero_sub]; exact sh_up2 (by omega) (by omega)
    have l5 : (limbs (nm q * 2 ^ (max 0 (-b)).toNat)).length ≤ 20 := l1
    simp only [go_sem, d_ref1_ShiftC, d_ref2_Of, decide_true, decide_false, Bool.not_true, Bool.not_false, zN_val, cr_n, cr_d, cr_s, val_limbs, c1, e1, e2, Nat.reduceBEq, Nat.reduceBNe, Nat.reduceLT, Nat.reduceLeDiff, Nat.reduceAdd, Nat.reduceSub, Nat.reduceMul, Nat.reduceEqDiff, Int.reduceNeg, Int.reduceAdd, Int.reduceLT, Int.reduceLE, Int.reduceToNat, ↓reduceIte]
    all_goals ((try and_intros) <;> first | exact trivial | omega | (show okDraw _ _ = true; kernel_rfl) | assumption)
end Go.Proofs.YtjfaefgabaimaaaGreat
namespace Go.Proofs.YtjfaefgabaimaaaGreat
open Go.RowKit
set_option linter.unusedSimpArgs false
set_option linter.unusedVariables false
theorem qv_den {n d : Nat} (hd : d ≠ 0) : qv false n d * ((d : Nat) : Rat) = ((n : Nat) : Rat) := by
  unfold qv
  rw [Rat.mkRat_eq_div]
  have hne : ((d : Nat) : Rat) ≠ 0 := by have := P.nat_pos (Nat.pos_of_ne_zero hd); grind
  show (((n : Int)) : Rat) / ((d : Nat) : Rat) * ((d : Nat) : Rat) = _
  rw [Rat.div_mul_cancel hne]
  rfl
theorem lnOk_ng {q : Rat} (h : lnOk q = true) : ng q = false := by
  unfold lnOk at h
  simp only [Bool.and_eq_true, Bool.not_eq_true'] at h
  exact h.1.1.1
theorem hfD_pos (q : Rat) (k : Int) : 0 < hfD q k := Nat.mul_pos q.den_pos (Nat.pow_pos (by omega))
theorem hf_eq {q : Rat} (h : lnOk q = true) (k : Int) : hfQ q k * ((hfD q k : Nat) : Rat) = ((hfN q k : Nat) : Rat) := by
  unfold hfQ
  rw [lnOk_ng h]
  exact qv_den (Nat.ne_of_gt (hfD_pos q k))
theorem hf_half {q : Rat} (h : lnOk q = true) (k : Int) : hfQ q (k + 1) * 2 = hfQ q k := by
  have a := hf_eq h k
  have b := hf_eq h (k + 1)
  have hp := P.nat_pos (hfD_pos q k)
  have key : hfQ q (k + 1) * 2 * ((hfD q k : Nat) : Rat) = hfQ q k * ((hfD q k : Nat) : Rat) := by
    rw [a]
    rcases (show 0 ≤ k ∨ k < 0 by omega) with c | c
    · have e1 : hfD q (k + 1) = hfD q k * 2 := by
        unfold hfD
        rw [show (max 0 (k + 1)).toNat = (max 0 k).toNat + 1 by omega, Nat.pow_succ, Nat.mul_assoc]
      have e2 : hfN q (k + 1) = hfN q k := by
        unfold hfN
        rw [show (max 0 (-(k + 1))).toNat = (max 0 (-k)).toNat by omega]
      rw [e1, e2, Rat.natCast_mul, show ((2 : Nat) : Rat) = 2 from rfl] at b
      rw [← b]
      grind
    · have e1 : hfD q (k + 1) = hfD q k := by
        unfold hfD
        rw [show (max 0 (k + 1)).toNat = (max 0 k).toNat by omega]
      have e2 : hfN q k = hfN q (k + 1) * 2 := by
        unfold hfN
        rw [show (max 0 (-k)).toNat = (max 0 (-(k + 1))).toNat + 1 by omega, Nat.pow_succ, Nat.mul_assoc]
      rw [e2, Rat.natCast_mul, show ((2 : Nat) : Rat) = 2 from rfl, ← b, e1]
      grind
  exact Rat.le_antisymm (Rat.le_of_mul_le_mul_right (show _ ≤ _ by rw [key]; exact Rat.le_refl) hp) (Rat.le_of_mul_le_mul_right (show _ ≤ _ by rw [key]; exact Rat.le_refl) hp)
def k0Z (q : Rat) : Int := pK0 (nm q) q.den
def four3 : Rat := qv false (val [4]) (val [3])
def two3 : Rat := qv false (val [2]) (val [3])
def thQ : Rat := qv false (val [1]) (val [3])
theorem four3_is : four3 = 4 / 3 := by decide +kernel
theorem two3_is : two3 = 2 / 3 := by decide +kernel
theorem hf0 {q : Rat} (h : lnOk q = true) : hfQ q (k0Z q) < 2 ∧ 1 < hfQ q (k0Z q) * 2 := by
  obtain ⟨_, n0, _, _, _⟩ := ln_num h
  obtain ⟨h1, h2⟩ := part_eq n0 (Nat.ne_of_gt q.den_pos)
  have h1 : hfN q (k0Z q) < 2 * hfD q (k0Z q) := h1
  have h2 : hfD q (k0Z q) < 2 * hfN q (k0Z q) := h2
  have a := hf_eq h (k0Z q)
  have hp := P.nat_pos (hfD_pos q (k0Z q))
  have g1 : ((hfN q (k0Z q) : Nat) : Rat) < 2 * ((hfD q (k0Z q) : Nat) : Rat) := by
    have := Rat.natCast_lt_natCast.2 h1
    rwa [Rat.natCast_mul, show ((2 : Nat) : Rat) = 2 from rfl] at this
  have g2 : ((hfD q (k0Z q) : Nat) : Rat) < 2 * ((hfN q (k0Z q) : Nat) : Rat) := by
    have := Rat.natCast_lt_natCast.2 h2
    rwa [Rat.natCast_mul, show ((2 : Nat) : Rat) = 2 from rfl] at this
  rw [← a] at g1 g2
  generalize ((hfD q (k0Z q) : Nat) : Rat) = D at *
  generalize hfQ q (k0Z q) = m at *
  constructor
  · rcases P.rat_lt_or m 2 with c | c
    · exact c
    · exfalso
      have := Rat.mul_le_mul_of_nonneg_right c (Rat.le_of_lt hp)
      grind
  · rcases P.rat_lt_or 1 (m * 2) with c | c
    · exact c
    · exfalso
      have := Rat.mul_le_mul_of_nonneg_right c (Rat.le_of_lt hp)
      grind
theorem k0_in {q : Rat} (h : lnOk q = true) : -200 ≤ k0Z q ∧ k0Z q ≤ 200 := by
  obtain ⟨_, n0, n1, n2, _⟩ := ln_num h
  have := part_facts n0 (Nat.ne_of_gt q.den_pos) n1 n2
  unfold k0Z
  omega
def k1Z (q : Rat) : Int := if four3 < hfQ q (k0Z q) then k0Z q + 1 else k0Z q
def k2Z (q : Rat) : Int := if hfQ q (k1Z q) < two3 then k1Z q + -1 else k1Z q
theorem k2_in {q : Rat} (h : lnOk q = true) : -202 ≤ k2Z q ∧ k2Z q ≤ 202 := by
  have := k0_in h
  unfold k2Z k1Z
  split <;> split <;> omega
/-- the three cases -/
theorem k2_cases {q : Rat} (h : lnOk q = true) : (four3 < hfQ q (k0Z q) ∧ ¬ hfQ q (k0Z q + 1) < two3 ∧ k2Z q = k0Z q + 1) ∨ (¬ four3 < hfQ q (k0Z q) ∧ hfQ q (k0Z q) < two3 ∧ k2Z q = k0Z q + -1) ∨ (¬ four3 < hfQ q (k0Z q) ∧ ¬ hfQ q (k0Z q) < two3 ∧ k2Z q = k0Z q) := by
  have e := hf_half h (k0Z q)
  have f4 := four3_is
  have f2 := two3_is
  by_cases a : four3 < hfQ q (k0Z q)
  · have b : ¬ hfQ q (k0Z q + 1) < two3 := by rw [f4] at a; rw [f2]; grind
    exact .inl ⟨a, b, by unfold k2Z k1Z; rw [if_pos a, if_neg b]⟩
  · by_cases b : hfQ q (k0Z q) < two3
    · exact .inr (.inl ⟨a, b, by unfold k2Z k1Z; rw [if_neg a, if_pos b]⟩)
    · exact .inr (.inr ⟨a, b, by unfold k2Z k1Z; rw [if_neg a, if_neg b]⟩)
def lnM (q : Rat) : Rat := hfQ q (k2Z q)
theorem lnM_in {q : Rat} (h : lnOk q = true) : 2 / 3 ≤ lnM q ∧ lnM q ≤ 4 / 3 := by
  obtain ⟨h1, h2⟩ := hf0 h
  have e1 := hf_half h (k0Z q)
  have e2 := hf_half h (k0Z q + -1)
  rw [show k0Z q + -1 + 1 = k0Z q by omega] at e2
  unfold lnM
  rcases k2_cases h with ⟨a, b, e⟩ | ⟨a, b, e⟩ | ⟨a, b, e⟩
  all_goals
    rw [four3_is] at a
    rw [two3_is] at b
    rw [e]
    constructor <;> grind
def lnZ (q : Rat) : Rat := (lnM q - ((1 : Int) : Rat)) / (lnM q + ((1 : Int) : Rat))
theorem lnZ_eq {q : Rat} (h : lnOk q = true) : lnZ q * (lnM q + 1) = lnM q - 1 := by
  have := lnM_in h
  exact Rat.div_mul_cancel (by rw [int1]; grind)
theorem lnZ_in {q : Rat} (h : lnOk q = true) : -(1 / 4) ≤ lnZ q ∧ lnZ q ≤ 1 / 4 := by
  obtain ⟨a, b⟩ := lnM_in h
  have e := lnZ_eq h
  have hp : 0 < lnM q + 1 := by grind
  generalize lnZ q = z at *
  generalize lnM q = m at *
  constructor
  · rcases P.rat_lt_or z (-(1 / 4)) with c | c
    · exfalso
      have := Rat.mul_lt_mul_of_pos_right c hp
      grind
    · exact c
  · rcases P.rat_lt_or (1 / 4) z with c | c
    · exfalso
      have := Rat.mul_lt_mul_of_pos_right c hp
      grind
    · exact c
theorem lnM_same {q : Rat} (h : k2Z q = 0) : lnM q = q := by
  unfold lnM hfQ hfN hfD
  rw [h]
  simp only [Int.neg_zero, Int.max_self, Int.toNat_zero, Nat.pow_zero, Nat.mul_one]
  exact qv_self q
theorem lnZ_ne {q : Rat} (h : lnOk q = true) (h1 : q ≠ 1) (hk : k2Z q = 0) : lnZ q ≠ 0 := by
  intro hz
  have e := lnZ_eq h
  rw [hz, lnM_same hk] at e
  grind
theorem rs_lnM {q : Rat} (h : lnOk q = true) : rs (lnM q) ≤ 20 := by
  have := k2_in h
  exact hf_rs h (by omega) (by omega)
theorem rs_lnZ {q : Rat} (h : lnOk q = true) : rs (lnZ q) ≤ 44 := by
  have r := rs_lnM h
  have r1 : rs ((1 : Int) : Rat) ≤ 1 := by decide +kernel
  exact rsb_div (rsb_sub (K := 22) r r1 (by omega)) (rsb_add (K := 22) r r1 (by omega)) (by omega)
theorem num_q {r : Rat} (h1 : -(1 / 4) ≤ r) (h2 : r ≤ 1 / 4) : 4 * r.num ≤ r.den ∧ -(r.den : Int) ≤ 4 * r.num := by
  rw [Rat.le_iff] at h1 h2
  have e1 : (1 / 4 : Rat).num = 1 := by decide +kernel
  have e2 : (1 / 4 : Rat).den = 4 := by decide +kernel
  have e3 : (-(1 / 4) : Rat).num = -1 := by decide +kernel
  have e4 : (-(1 / 4) : Rat).den = 4 := by decide +kernel
  rw [e1, e2] at h2
  rw [e3, e4] at h1
  omega
theorem num_in4 {r : Rat} {w : Int} (h3 : 4 * r.num ≤ r.den) (h4 : -(r.den : Int) ≤ 4 * r.num) (hw : 2 ≤ cN w) : P.within (numZ r w) ((2 ^ (cN w - 2) : Nat) : Int) := by
  have hd : 0 < r.den := r.den_pos
  have e : ((2 ^ cN w : Nat) : Int) = 4 * ((2 ^ (cN w - 2) : Nat) : Int) := by
    have := P.two_add 2 (cN w - 2)
    rw [show 2 + (cN w - 2) = cN w by omega] at this
    exact this
  have hz := P.pow_pos' (cN w - 2)
  unfold numZ fallZ riseZ
  rw [e]
  generalize ((2 ^ (cN w - 2) : Nat) : Int) = u at *
  generalize r.num = a at *
  generalize r.den = d at *
  have k1 : a * (4 * u) ≤ u * (d : Int) := by
    have := Int.mul_le_mul_of_nonneg_left h3 (show 0 ≤ u by omega)
    have e2 : u * (4 * a) = a * (4 * u) := by grind
    omega
  have k2 : -(u * (d : Int)) ≤ a * (4 * u) := by
    have := Int.mul_le_mul_of_nonneg_left h4 (show 0 ≤ u by omega)
    have e2 : u * (4 * a) = a * (4 * u) := by grind
    have e3 : u * -(d : Int) = -(u * (d : Int)) := by grind
    omega
  have p1 := P.idiv_in (x := a * (4 * u)) hd k2 k1 (Int.le_refl _)
  have p2 := P.idiv_in (x := -(a * (4 * u))) hd (by omega) (by omega) (Int.le_refl (u * (d : Int)))
  unfold P.within
  simp only [fallZ]
  omega
theorem den_lt {q : Rat} {K : Nat} (h : rs q ≤ K) : q.den < 2 ^ (32 * K) := by
  have h1 := lt_of_limbs_len (rs_parts h).2
  rw [show (4294967296 : Nat) = 2 ^ 32 from rfl, ← Nat.pow_mul] at h1
  exact h1
theorem num_clear {r : Rat} {w : Int} {B : Nat} (hr : rs r ≤ B) (hB : B ≤ 50) (hw : 2000 ≤ cN w) : (0 < r → 1048600 ≤ (numZ r w).1 ∧ 1048600 ≤ (numZ r w).2) ∧ (r < 0 → (numZ r w).1 ≤ -1048600 ∧ (numZ r w).2 ≤ -1048600) := by
  have hp : 0 < r.den := r.den_pos
  have hd := den_lt hr
  have hb : (1048600 : Int) * (r.den : Int) ≤ ((2 ^ cN w : Nat) : Int) := by
    have h1 : r.den * 2 ^ 21 ≤ 2 ^ cN w := Nat.le_of_lt (lt_pow_mul (k := 21) hd (by omega))
    have h2 : (2 : Nat) ^ 21 = 2097152 := by decide
    rw [h2] at h1
    omega
  have hW := P.pow_pos' (cN w)
  have hdp : (0 : Int) < (r.den : Int) := by omega
  unfold numZ fallZ riseZ fallZ
  generalize ((2 ^ cN w : Nat) : Int) = W at *
  constructor
  · intro h
    have hn : 1 ≤ r.num := by
      rw [Rat.lt_iff, show (0 : Rat).num = 0 from rfl, show (0 : Rat).den = 1 from rfl] at h
      omega
    have m1 := Int.mul_le_mul_of_nonneg_right hn (show 0 ≤ W by omega)
    have a1 : 1048600 ≤ r.num * W / (r.den : Int) := (Int.le_ediv_iff_mul_le hdp).2 (by omega)
    have a2 := Int.ediv_mul_le (-(r.num * W)) (b := (r.den : Int)) (by omega)
    have a3 : -(r.num * W) / (r.den : Int) ≤ -1048600 := Int.le_of_mul_le_mul_right (show _ * (r.den : Int) ≤ -1048600 * (r.den : Int) by omega) hdp
    simp only
    omega
  · intro h
    have hn : r.num ≤ -1 := by
      rw [Rat.lt_iff, show (0 : Rat).num = 0 from rfl, show (0 : Rat).den = 1 from rfl] at h
      omega
    have m1 := Int.mul_le_mul_of_nonneg_right hn (show 0 ≤ W by omega)
    have a1 : 1048600 ≤ -(r.num * W) / (r.den : Int) := (Int.le_ediv_iff_mul_le hdp).2 (by omega)
    have a2 := Int.ediv_mul_le (r.num * W) (b := (r.den : Int)) (by omega)
    have a3 : r.num * W / (r.den : Int) ≤ -1048600 := Int.le_of_mul_le_mul_right (show _ * (r.den : Int) ≤ -1048600 * (r.den : Int) by omega) hdp
    simp only
    omega
theorem third_in {w : Int} (hw : 20 ≤ cN w) : P.within (numZ thQ w) ((2 ^ (cN w - 1) : Nat) : Int) ∧ P.pos (numZ thQ w) ∧ ((2 ^ cN w : Nat) : Int) ≤ 3 * (numZ thQ w).1 + 2 ∧ ((2 ^ cN w : Nat) : Int) ≤ 3 * (numZ thQ w).2 := by
  have e1 : thQ.num = 1 := by decide +kernel
  have e2 : thQ.den = 3 := by decide +kernel
  have e3 := P.two_up (cN w - 1)
  rw [show cN w - 1 + 1 = cN w by omega] at e3
  have h1 : (1024 : Int) ≤ ((2 ^ (cN w - 1) : Nat) : Int) := P.two_mono (m := 10) (by omega)
  unfold numZ fallZ riseZ fallZ P.within P.pos
  rw [e1, e2]
  simp only
  omega
def lnT (w : Int) : Int × Int := P.lgIv (numZ thQ w) (cN w)
theorem lnT_in {w : Int} (hw : 20 ≤ cN w) : P.within (lnT w) ((2 ^ (cN w + 1) : Nat) : Int) ∧ ((2 ^ cN w : Nat) : Int) * 2 ≤ 3 * (lnT w).1 + 28 ∧ ((2 ^ cN w : Nat) : Int) * 2 ≤ 3 * (lnT w).2 + 28 := by
  obtain ⟨h1, h2, h3, h4⟩ := third_in hw
  have a := P.lgIv_ge hw h1 h2
  refine ⟨P.lgIv_in hw h1, ?_⟩
  unfold lnT
  omega
def lnR0 (q : Rat) (w : Int) : Int × Int := P.lgIv (numZ (lnZ q) w) (cN w)
def lnR (q : Rat) (w : Int) : Int × Int := if 0 < k2Z q then P.isum (lnR0 q w) (P.ioften (lnT w) (k2Z q)) else if k2Z q < 0 then P.iminus (lnR0 q w) (P.ioften (lnT w) (-k2Z q)) else lnR0 q w
def lnIv (q : Rat) (w : Int) : Int × Int := P.iback (lnR q (w + 20)) (cN 20)
theorem lnZ_num {q : Rat} {w : Int} (h : lnOk q = true) (hw : 20 ≤ cN w) : P.within (numZ (lnZ q) w) ((2 ^ (cN w - 2) : Nat) : Int) := by
  obtain ⟨h1, h2⟩ := lnZ_in h
  obtain ⟨h3, h4⟩ := num_q h1 h2
  exact num_in4 h3 h4 (by omega)
theorem lnZ_num1 {q : Rat} {w : Int} (h : lnOk q = true) (hw : 20 ≤ cN w) : P.within (numZ (lnZ q) w) ((2 ^ (cN w - 1) : Nat) : Int) := within_mono (lnZ_num h hw) (P.two_mono (by omega))
theorem lnR_in {q : Rat} {w : Int} (h : lnOk q = true) (hw : 20 ≤ cN w) : P.within (lnR0 q w) ((2 ^ (cN w + 1) : Nat) : Int) ∧ (∀ k : Int, 0 ≤ k → k ≤ 256 → P.within (P.ioften (lnT w) k) ((2 ^ (cN w + 9) : Nat) : Int)) ∧ P.within (lnR q w) ((2 ^ (cN w + 10) : Nat) : Int) := by
  have h1 : P.within (lnR0 q w) ((2 ^ (cN w + 1) : Nat) : Int) := P.lgIv_in hw (lnZ_num1 h hw)
  have h2 : ∀ k : Int, 0 ≤ k → k ≤ 256 → P.within (P.ioften (lnT w) k) ((2 ^ (cN w + 9) : Nat) : Int) := by
    intro k k0 k1
    have := P.ioften_in (lnT_in hw).1 k0 k1
    have e : ((2 ^ (cN w + 9) : Nat) : Int) = ((2 ^ (cN w + 1) : Nat) : Int) * 256 := by
      rw [show cN w + 9 = cN w + 1 + 8 by omega, P.two_add]; rfl
    rwa [e]
  refine ⟨h1, h2, ?_⟩
  have hk := k2_in h
  have e1 : ((2 ^ (cN w + 10) : Nat) : Int) = 2 * ((2 ^ (cN w + 9) : Nat) : Int) := P.two_up (cN w + 9)
  have e2 : ((2 ^ (cN w + 1) : Nat) : Int) ≤ ((2 ^ (cN w + 9) : Nat) : Int) := P.two_mono (by omega)
  have e3 : ((2 ^ (cN w + 1) : Nat) : Int) ≤ ((2 ^ (cN w + 10) : Nat) : Int) := P.two_mono (by omega)
  unfold lnR
  split
  · exact within_mono (P.isum_in h1 (h2 _ (by omega) (by omega))) (by omega)
  · split
    · exact within_mono (P.iminus_in h1 (h2 _ (by omega) (by omega))) (by omega)
    · exact within_mono h1 e3
theorem lnR_clear {q : Rat} {w : Int} (h : lnOk q = true) (h1 : q ≠ 1) (hw : 2000 ≤ cN w) : P.clear (lnR q w) := by
  obtain ⟨D, hD, hr⟩ := P.lgIv_in' (by omega) (lnZ_num (w := w) h (by omega))
  obtain ⟨_, ht⟩ := lnT_in (w := w) (by omega)
  unfold lnR
  split
  · exact P.lg_clear_sum (by omega) hr hD (by omega) ht
  · split
    · exact P.lg_clear_minus (by omega) hr hD (by omega) ht
    · have hk : k2Z q = 0 := by omega
      have hz := lnZ_ne h h1 hk
      obtain ⟨c1, c2⟩ := num_clear (w := w) (rs_lnZ h) (by omega) hw
      have hy := lnZ_num1 (w := w) h (by omega)
      rcases P.rat_lt_or (lnZ q) 0 with c | c
      · obtain ⟨d1, d2⟩ := c2 c
        have := P.lgIv_le (by omega) hy ⟨by omega, by omega⟩
        unfold P.clear lnR0
        omega
      · have c : 0 < lnZ q := by grind
        obtain ⟨d1, d2⟩ := c1 c
        have := P.lgIv_ge (by omega) hy ⟨by omega, by omega⟩
        unfold P.clear lnR0
        omega
/-- beyond 4096 digits all is certain -/
theorem lnIv_far {q : Rat} {w p : Int} (h : lnOk q = true) (h1 : q ≠ 1) (h0 : 0 ≤ p) (hw : 4096 + p ≤ w) : lessZ (lnIv q w).1 (w - p) = lessZ (lnIv q w).2 (w - p) := by
  have hW : cN (w + 20) = 4096 := by unfold cN; omega
  have hc : cN (w - p) = 4096 := by unfold cN; omega
  have a := lnR_clear (w := w + 20) h h1 (by omega)
  have b := (lnR_in (w := w + 20) h (by omega)).2.2
  exact P.clear_back (n := cN (w - p)) a b (by omega) (by omega)
theorem lnIv_size {q : Rat} {w : Int} (h : lnOk q = true) (hw : 20 ≤ w) : ZZ (lnIv q w) 100000000 := by
  have hW : cN (w + 20) ≤ 4096 := by unfold cN; omega
  have hW2 : 20 ≤ cN (w + 20) := by unfold cN; omega
  have h1 : ZZ (lnR q (w + 20)) 1000 := ZZ_pow (lnR_in h hW2).2.2 (by omega)
  have h2 := zs_less (lnR q (w + 20)).1 20
  have h3 := zs_more (lnR q (w + 20)).2 20
  obtain ⟨h4, h5⟩ := h1
  have e : lnIv q w = (lessZ (lnR q (w + 20)).1 20, moreZ (lnR q (w + 20)).2 20) := rfl
  rw [e]
  exact ⟨by simp only; omega, by simp only; omega⟩
def lnGo (q : Rat) (p : Int) : Nat → Int → BB
  | 0, w => floorB (lnIv q w) w p
  | f + 1, w => if lessZ (lnIv q w).1 (w - p) = lessZ (lnIv q w).2 (w - p) then floorB (lnIv q w) w p else lnGo q p f (w + 64)
def lnE (q : Rat) (p : Int) : BB := lnGo q p 200 (p + 20)
structure LnI (q : Rat) (p : Int) where
  w : Int
  f : Nat
  w0 : p + 20 ≤ w
  w1 : w ≤ 100000
  hf : 4096 + p ≤ w + 64 * (f : Int)
  hv : lnGo q p f w = lnE q p
def ln7B (q : Rat) (p : Int) : BB := if lnOk q = true then if q = 1 then bb 0 0 else lnE q ((hold p : Nat) : Int) else bb 0 0
end Go.Proofs.YtjfaefgabaimaaaGreat
