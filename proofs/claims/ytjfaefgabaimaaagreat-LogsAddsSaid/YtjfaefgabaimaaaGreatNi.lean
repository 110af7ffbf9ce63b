/- vernierref7: Iv and Ln, by the abstract walk. Conditions: at most 10^5 bits. -/
import Derived.Test.YtjfaefgabaimaaaGreatNf
namespace Go.Proofs.YtjfaefgabaimaaaGreat
open Go.RowKit
set_option linter.unusedSimpArgs false
set_option linter.unusedVariables false
def d_ref7_Iv : Den := den2 aRat aInt (fun a b => a.sz ≤ 1000 ∧ lnOk a.q = true ∧ a.q ≠ 1 ∧ 20 ≤ b ∧ b ≤ 100000) fun a b => ivV (lnIv a.q b)
set_option maxRecDepth 100000 in
set_option maxHeartbeats 8000000 in
theorem s_ref7_Iv : Sound Tryz.prog 55 d_ref7_Iv := by
  refine sound2 (fz := nofz) (l := [(30, d_ref2_Norm), (97, d_ref1_Bits), (98, d_ref7_half), (32, d_ref2_Of), (13, d_ref2_Cmp), (41, d_ref2_Int), (47, d_ref2_Sub), (8, d_ref2_Add), (19, d_ref2_Div), (99, d_ref7_twice), (101, d_i4_Often), (100, d_i4_Sum), (102, d_i4_Minus), (83, d_i4_Back)]) TT_ok ⟨s_ref2_Norm, s_ref1_Bits, s_ref7_half, s_ref2_Of, s_ref2_Cmp, s_ref2_Int, s_ref2_Sub, s_ref2_Add, s_ref2_Div, s_ref7_twice, s_i4_Often, s_i4_Sum, s_i4_Minus, s_i4_Back, trivial⟩ mixed Tryz.func55 Tryz.ntmps55 Tryz.results55 Tryz.call55 rfl (by omega) (fun _ _ => rfl) ?_
  intro a b hp ha hb
  rw [codeK_start]
  obtain ⟨h0, hk, h1, h2, h3⟩ := hp
  generalize hq : a.q = q at *
  have hW : cN (b + 20) ≤ 4096 := by unfold cN; omega
  have hW2 : 20 ≤ cN (b + 20) := by unfold cN; omega
  have r1 := rs_lnOk' hk
  obtain ⟨l3, l4⟩ := rs_parts r1
  obtain ⟨k3, k4⟩ := k0_in hk
  obtain ⟨k5, k6⟩ := k2_in hk
  have ek : ((blen (nm q) : Nat) : Int) - ((blen q.den : Nat) : Int) = k0Z q := rfl
  have t0 : rs (hfQ q (k0Z q)) ≤ 20 := hf_rs hk (by omega) (by omega)
  have t1 : rs (hfQ q (k0Z q + 1)) ≤ 20 := hf_rs hk (by omega) (by omega)
  have t2 : rs (hfQ q (k0Z q + -1)) ≤ 20 := hf_rs hk (by omega) (by omega)
  have t3 : rs four3 ≤ 2 := by decide +kernel
  have t4 : rs two3 ≤ 2 := by decide +kernel
  have t5 : rs ((1 : Int) : Rat) ≤ 1 := by decide +kernel
  have t6 : rs (lnM q - ((1 : Int) : Rat)) ≤ 22 := rsb_sub (rs_lnM hk) t5 (by omega)
  have t7 : rs (lnM q + ((1 : Int) : Rat)) ≤ 22 := rsb_add (rs_lnM hk) t5 (by omega)
  have t8 := rs_lnZ hk
  have t9 : rs thQ ≤ 2 := by decide +kernel
  have z1 := lnZ_num1 (w := b + 20) hk hW2
  have z2 := (third_in (w := b + 20) hW2).1
  obtain ⟨⟨x1, x2⟩, x3, x4⟩ := z1
  obtain ⟨⟨y1, y2⟩, y3, y4⟩ := z2
  have tm := rs_lnM hk
  obtain ⟨w1, w2, w3⟩ := lnR_in (w := b + 20) hk hW2
  obtain ⟨v1, v2⟩ := ZZ_pow w1 (K := 100000000) (by omega)
  obtain ⟨v3, v4⟩ := ZZ_pow (lnT_in (w := b + 20) hW2).1 (K := 100000000) (by omega)
  obtain ⟨v5, v6⟩ := ZZ_pow w3 (K := 100000000) (by omega)
  have c1 : (cr q).sz ≤ 4 := r1
  have e4 : qv false (val [4]) (val [3]) = four3 := rfl
  have e2 : qv false (val [2]) (val [3]) = two3 := rfl
  have e3 : qv false 1 (val [3]) = thQ := rfl
  have eT : P.lgIv (numZ thQ (b + 20)) (cN (b + 20)) = lnT (b + 20) := rfl
  have e0 : P.lgIv (numZ (lnZ q) (b + 20)) (cN (b + 20)) = lnR0 q (b + 20) := rfl
  have eM : hfQ q (k2Z q) = lnM q := rfl
  have eZ : (lnM q - ((1 : Int) : Rat)) / (lnM q + ((1 : Int) : Rat)) = lnZ q := rfl
  have eI : lnIv q b = P.iback (lnR q (b + 20)) (cN 20) := rfl
  have eC : ∀ x : Rat, (⟨ng x, limbs (nm x), limbs x.den⟩ : RR) = cr x := fun _ => rfl
  refine cut_seq fun C hC => ?_
  simp only [go_sem, d_ref2_Norm, d_ref1_Bits, d_ref7_half, d_ref2_Of, d_ref2_Cmp, d_ref2_Int, d_ref2_Sub, d_ref2_Add, d_ref2_Div, d_ref7_twice, d_i4_Often, d_i4_Sum, d_i4_Minus, d_i4_Back, decide_true, decide_false, Bool.not_true, Bool.not_false, zN_val, hq, eC, cr_sz, cr_q, cr_n, cr_d, cr_s, val_limbs, ek, e4, e2, e3, eM, Nat.reduceBEq, Nat.reduceBNe, Nat.reduceLT, Nat.reduceLeDiff, Nat.reduceAdd, Nat.reduceSub, Nat.reduceMul, Nat.reduceEqDiff, Int.reduceNeg, Int.reduceAdd, Int.reduceLT, Int.reduceLE, Int.reduceToNat, ↓reduceIte]
  try and_intros
  all_goals try (first | exact trivial | omega | (show okDraw _ _ = true; kernel_rfl) | assumption)
  subst hC
  refine cut_seq fun C hC => ?_
  simp only [go_sem, d_ref2_Norm, d_ref1_Bits, d_ref7_half, d_ref2_Of, d_ref2_Cmp, d_ref2_Int, d_ref2_Sub, d_ref2_Add, d_ref2_Div, d_ref7_twice, d_i4_Often, d_i4_Sum, d_i4_Minus, d_i4_Back, decide_true, decide_false, Bool.not_true, Bool.not_false, zN_val, hq, eC, cr_sz, cr_q, cr_n, cr_d, cr_s, val_limbs, ek, e4, e2, e3, eM, Nat.reduceBEq, Nat.reduceBNe, Nat.reduceLT, Nat.reduceLeDiff, Nat.reduceAdd, Nat.reduceSub, Nat.reduceMul, Nat.reduceEqDiff, Int.reduceNeg, Int.reduceAdd, Int.reduceLT, Int.reduceLE, Int.reduceToNat, ↓reduceIte]
  try and_intros
  all_goals try (first | exact trivial | omega | (show okDraw _ _ = true; kernel_rfl) | assumption)
  subst hC
  refine cut_seq fun C hC => ?_
  simp only [go_sem, d_ref2_Norm, d_ref1_Bits, d_ref7_half, d_ref2_Of, d_ref2_Cmp, d_ref2_Int, d_ref2_Sub, d_ref2_Add, d_ref2_Div, d_ref7_twice, d_i4_Often, d_i4_Sum, d_i4_Minus, d_i4_Back, decide_true, decide_false, Bool.not_true, Bool.not_false, zN_val, hq, eC, cr_sz, cr_q, cr_n, cr_d, cr_s, val_limbs, ek, e4, e2, e3, eM, Nat.reduceBEq, Nat.reduceBNe, Nat.reduceLT, Nat.reduceLeDiff, Nat.reduceAdd, Nat.reduceSub, Nat.reduceMul, Nat.reduceEqDiff, Int.reduceNeg, Int.reduceAdd, Int.reduceLT, Int.reduceLE, Int.reduceToNat, ↓reduceIte]
  try and_intros
  all_goals try (first | exact trivial | omega | (show okDraw _ _ = true; kernel_rfl) | assumption)
  subst hC
  refine cut_seq fun C hC => ?_
  simp only [go_sem, d_ref2_Norm, d_ref1_Bits, d_ref7_half, d_ref2_Of, d_ref2_Cmp, d_ref2_Int, d_ref2_Sub, d_ref2_Add, d_ref2_Div, d_ref7_twice, d_i4_Often, d_i4_Sum, d_i4_Minus, d_i4_Back, decide_true, decide_false, Bool.not_true, Bool.not_false, zN_val, hq, eC, cr_sz, cr_q, cr_n, cr_d, cr_s, val_limbs, ek, e4, e2, e3, eM, Nat.reduceBEq, Nat.reduceBNe, Nat.reduceLT, Nat.reduceLeDiff, Nat.reduceAdd, Nat.reduceSub, Nat.reduceMul, Nat.reduceEqDiff, Int.reduceNeg, Int.reduceAdd, Int.reduceLT, Int.reduceLE, Int.reduceToNat, ↓reduceIte]
  try and_intros
  all_goals try (first | exact trivial | omega | (show okDraw _ _ = true; kernel_rfl) | assumption)
  subst hC
  rcases k2_cases hk with ⟨ca, cb, ce⟩ | ⟨ca, cb, ce⟩ | ⟨ca, cb, ce⟩
  · have ca' := eq_true ca
    have ce' : k0Z q + 1 = k2Z q := ce.symm
    have cb' : (lnM q < two3) = False := eq_false (by unfold lnM; rw [ce]; exact cb)
    refine cut_seq fun C hC => ?_
    simp only [go_sem, d_ref2_Norm, d_ref1_Bits, d_ref7_half, d_ref2_Of, d_ref2_Cmp, d_ref2_Int, d_ref2_Sub, d_ref2_Add, d_ref2_Div, d_ref7_twice, d_i4_Often, d_i4_Sum, d_i4_Minus, d_i4_Back, decide_true, decide_false, Bool.not_true, Bool.not_false, zN_val, hq, eC, cr_sz, cr_q, cr_n, cr_d, cr_s, val_limbs, ek, e4, e2, e3, ca', cb', ce', eM, eZ, e0, eT, Nat.reduceBEq, Nat.reduceBNe, Nat.reduceLT, Nat.reduceLeDiff, Nat.reduceAdd, Nat.reduceSub, Nat.reduceMul, Nat.reduceEqDiff, Int.reduceNeg, Int.reduceAdd, Int.reduceLT, Int.reduceLE, Int.reduceToNat, ↓reduceIte]
    try and_intros
    all_goals try (first | exact trivial | omega | (show okDraw _ _ = true; kernel_rfl) | assumption)
    subst hC
    refine cut_seq fun C hC => ?_
    simp only [go_sem, d_ref2_Norm, d_ref1_Bits, d_ref7_half, d_ref2_Of, d_ref2_Cmp, d_ref2_Int, d_ref2_Sub, d_ref2_Add, d_ref2_Div, d_ref7_twice, d_i4_Often, d_i4_Sum, d_i4_Minus, d_i4_Back, decide_true, decide_false, Bool.not_true, Bool.not_false, zN_val, hq, eC, cr_sz, cr_q, cr_n, cr_d, cr_s, val_limbs, ek, e4, e2, e3, ca', cb', ce', eM, eZ, e0, eT, Nat.reduceBEq, Nat.reduceBNe, Nat.reduceLT, Nat.reduceLeDiff, Nat.reduceAdd, Nat.reduceSub, Nat.reduceMul, Nat.reduceEqDiff, Int.reduceNeg, Int.reduceAdd, Int.reduceLT, Int.reduceLE, Int.reduceToNat, ↓reduceIte]
    try and_intros
    all_goals try (first | exact trivial | omega | (show okDraw _ _ = true; kernel_rfl) | assumption)
    subst hC
    refine cut_seq fun C hC => ?_
    simp only [go_sem, d_ref2_Norm, d_ref1_Bits, d_ref7_half, d_ref2_Of, d_ref2_Cmp, d_ref2_Int, d_ref2_Sub, d_ref2_Add, d_ref2_Div, d_ref7_twice, d_i4_Often, d_i4_Sum, d_i4_Minus, d_i4_Back, decide_true, decide_false, Bool.not_true, Bool.not_false, zN_val, hq, eC, cr_sz, cr_q, cr_n, cr_d, cr_s, val_limbs, ek, e4, e2, e3, ca', cb', ce', eM, eZ, e0, eT, Nat.reduceBEq, Nat.reduceBNe, Nat.reduceLT, Nat.reduceLeDiff, Nat.reduceAdd, Nat.reduceSub, Nat.reduceMul, Nat.reduceEqDiff, Int.reduceNeg, Int.reduceAdd, Int.reduceLT, Int.reduceLE, Int.reduceToNat, ↓reduceIte]
    try and_intros
    all_goals try (first | exact trivial | omega | (show okDraw _ _ = true; kernel_rfl) | assumption)
    subst hC
    refine cut_seq fun C hC => ?_
    simp only [go_sem, d_ref2_Norm, d_ref1_Bits, d_ref7_half, d_ref2_Of, d_ref2_Cmp, d_ref2_Int, d_ref2_Sub, d_ref2_Add, d_ref2_Div, d_ref7_twice, d_i4_Often, d_i4_Sum, d_i4_Minus, d_i4_Back, decide_true, decide_false, Bool.not_true, Bool.not_false, zN_val, hq, eC, cr_sz, cr_q, cr_n, cr_d, cr_s, val_limbs, ek, e4, e2, e3, ca', cb', ce', eM, eZ, e0, eT, Nat.reduceBEq, Nat.reduceBNe, Nat.reduceLT, Nat.reduceLeDiff, Nat.reduceAdd, Nat.reduceSub, Nat.reduceMul, Nat.reduceEqDiff, Int.reduceNeg, Int.reduceAdd, Int.reduceLT, Int.reduceLE, Int.reduceToNat, ↓reduceIte]
    try and_intros
    all_goals try (first | exact trivial | omega | (show okDraw _ _ = true; kernel_rfl) | assumption)
    subst hC
    refine cut_seq fun C hC => ?_
    simp only [go_sem, d_ref2_Norm, d_ref1_Bits, d_ref7_half, d_ref2_Of, d_ref2_Cmp, d_ref2_Int, d_ref2_Sub, d_ref2_Add, d_ref2_Div, d_ref7_twice, d_i4_Often, d_i4_Sum, d_i4_Minus, d_i4_Back, decide_true, decide_false, Bool.not_true, Bool.not_false, zN_val, hq, eC, cr_sz, cr_q, cr_n, cr_d, cr_s, val_limbs, ek, e4, e2, e3, ca', cb', ce', eM, eZ, e0, eT, Nat.reduceBEq, Nat.reduceBNe, Nat.reduceLT, Nat.reduceLeDiff, Nat.reduceAdd, Nat.reduceSub, Nat.reduceMul, Nat.reduceEqDiff, Int.reduceNeg, Int.reduceAdd, Int.reduceLT, Int.reduceLE, Int.reduceToNat, ↓reduceIte]
    try and_intros
    all_goals try (first | exact trivial | omega | (show okDraw _ _ = true; kernel_rfl) | assumption)
    subst hC
    refine cut_seq fun C hC => ?_
    simp only [go_sem, d_ref2_Norm, d_ref1_Bits, d_ref7_half, d_ref2_Of, d_ref2_Cmp, d_ref2_Int, d_ref2_Sub, d_ref2_Add, d_ref2_Div, d_ref7_twice, d_i4_Often, d_i4_Sum, d_i4_Minus, d_i4_Back, decide_true, decide_false, Bool.not_true, Bool.not_false, zN_val, hq, eC, cr_sz, cr_q, cr_n, cr_d, cr_s, val_limbs, ek, e4, e2, e3, ca', cb', ce', eM, eZ, e0, eT, Nat.reduceBEq, Nat.reduceBNe, Nat.reduceLT, Nat.reduceLeDiff, Nat.reduceAdd, Nat.reduceSub, Nat.reduceMul, Nat.reduceEqDiff, Int.reduceNeg, Int.reduceAdd, Int.reduceLT, Int.reduceLE, Int.reduceToNat, ↓reduceIte]
    try and_intros
    all_goals try (first | exact trivial | omega | (show okDraw _ _ = true; kernel_rfl) | assumption)
    subst hC
    refine cut_seq fun C hC => ?_
    simp only [go_sem, d_ref2_Norm, d_ref1_Bits, d_ref7_half, d_ref2_Of, d_ref2_Cmp, d_ref2_Int, d_ref2_Sub, d_ref2_Add, d_ref2_Div, d_ref7_twice, d_i4_Often, d_i4_Sum, d_i4_Minus, d_i4_Back, decide_true, decide_false, Bool.not_true, Bool.not_false, zN_val, hq, eC, cr_sz, cr_q, cr_n, cr_d, cr_s, val_limbs, ek, e4, e2, e3, ca', cb', ce', eM, eZ, e0, eT, Nat.reduceBEq, Nat.reduceBNe, Nat.reduceLT, Nat.reduceLeDiff, Nat.reduceAdd, Nat.reduceSub, Nat.reduceMul, Nat.reduceEqDiff, Int.reduceNeg, Int.reduceAdd, Int.reduceLT, Int.reduceLE, Int.reduceToNat, ↓reduceIte]
    try and_intros
    all_goals try (first | exact trivial | omega | (show okDraw _ _ = true; kernel_rfl) | assumption)
    subst hC
    rcases Int.lt_trichotomy 0 (k2Z q) with s | s | s
    · have s1 : (0 < k2Z q) = True := eq_true s
      have s2 : (k2Z q < 0) = False := eq_false (by omega)
      have eR : lnR q (b + 20) = P.isum (lnR0 q (b + 20)) (P.ioften (lnT (b + 20)) (k2Z q)) := if_pos s
      obtain ⟨v7, v8⟩ := ZZ_pow (w2 (k2Z q) (by omega) (by omega)) (K := 100000000) (by omega)
      rw [eR] at v5 v6
      refine cut_seq fun C hC => ?_
      simp only [go_sem, d_ref2_Norm, d_ref1_Bits, d_ref7_half, d_ref2_Of, d_ref2_Cmp, d_ref2_Int, d_ref2_Sub, d_ref2_Add, d_ref2_Div, d_ref7_twice, d_i4_Often, d_i4_Sum, d_i4_Minus, d_i4_Back, decide_true, decide_false, Bool.not_true, Bool.not_false, zN_val, hq, eC, cr_sz, cr_q, cr_n, cr_d, cr_s, val_limbs, ek, e4, e2, e3, ca', cb', ce', eM, eZ, e0, eT, s1, s2, eI, eR, Nat.reduceBEq, Nat.reduceBNe, Nat.reduceLT, Nat.reduceLeDiff, Nat.reduceAdd, Nat.reduceSub, Nat.reduceMul, Nat.reduceEqDiff, Int.reduceNeg, Int.reduceAdd, Int.reduceLT, Int.reduceLE, Int.reduceToNat, ↓reduceIte]
      try and_intros
      all_goals try (first | exact trivial | omega | (show okDraw _ _ = true; kernel_rfl) | assumption)
      subst hC
      refine cut_seq fun C hC => ?_
      simp only [go_sem, d_ref2_Norm, d_ref1_Bits, d_ref7_half, d_ref2_Of, d_ref2_Cmp, d_ref2_Int, d_ref2_Sub, d_ref2_Add, d_ref2_Div, d_ref7_twice, d_i4_Often, d_i4_Sum, d_i4_Minus, d_i4_Back, decide_true, decide_false, Bool.not_true, Bool.not_false, zN_val, hq, eC, cr_sz, cr_q, cr_n, cr_d, cr_s, val_limbs, ek, e4, e2, e3, ca', cb', ce', eM, eZ, e0, eT, s1, s2, eI, eR, Nat.reduceBEq, Nat.reduceBNe, Nat.reduceLT, Nat.reduceLeDiff, Nat.reduceAdd, Nat.reduceSub, Nat.reduceMul, Nat.reduceEqDiff, Int.reduceNeg, Int.reduceAdd, Int.reduceLT, Int.reduceLE, Int.reduceToNat, ↓reduceIte]
      try and_intros
      all_goals try (first | exact trivial | omega | (show okDraw _ _ = true; kernel_rfl) | assumption)
      subst hC
      simp only [go_sem, d_ref2_Norm, d_ref1_Bits, d_ref7_half, d_ref2_Of, d_ref2_Cmp, d_ref2_Int, d_ref2_Sub, d_ref2_Add, d_ref2_Div, d_ref7_twice, d_i4_Often, d_i4_Sum, d_i4_Minus, d_i4_Back, decide_true, decide_false, Bool.not_true, Bool.not_false, zN_val, hq, eC, cr_sz, cr_q, cr_n, cr_d, cr_s, val_limbs, ek, e4, e2, e3, ca', cb', ce', eM, eZ, e0, eT, s1, s2, eI, eR, Nat.reduceBEq, Nat.reduceBNe, Nat.reduceLT, Nat.reduceLeDiff, Nat.reduceAdd, Nat.reduceSub, Nat.reduceMul, Nat.reduceEqDiff, Int.reduceNeg, Int.reduceAdd, Int.reduceLT, Int.reduceLE, Int.reduceToNat, ↓reduceIte]
      all_goals ((try and_intros) <;> first | exact trivial | omega | (show okDraw _ _ = true; kernel_rfl) | assumption)
    · have s1 : (0 < k2Z q) = False := eq_false (by omega)
      have s2 : (k2Z q < 0) = False := eq_false (by omega)
      have eR : lnR q (b + 20) = lnR0 q (b + 20) := by unfold lnR; rw [if_neg (by omega), if_neg (by omega)]
      refine cut_seq fun C hC => ?_
      simp only [go_sem, d_ref2_Norm, d_ref1_Bits, d_ref7_half, d_ref2_Of, d_ref2_Cmp, d_ref2_Int, d_ref2_Sub, d_ref2_Add, d_ref2_Div, d_ref7_twice, d_i4_Often, d_i4_Sum, d_i4_Minus, d_i4_Back, decide_true, decide_false, Bool.not_true, Bool.not_false, zN_val, hq, eC, cr_sz, cr_q, cr_n, cr_d, cr_s, val_limbs, ek, e4, e2, e3, ca', cb', ce', eM, eZ, e0, eT, s1, s2, eI, eR, Nat.reduceBEq, Nat.reduceBNe, Nat.reduceLT, Nat.reduceLeDiff, Nat.reduceAdd, Nat.reduceSub, Nat.reduceMul, Nat.reduceEqDiff, Int.reduceNeg, Int.reduceAdd, Int.reduceLT, Int.reduceLE, Int.reduceToNat, ↓reduceIte]
      try and_intros
      all_goals try (first | exact trivial | omega | (show okDraw _ _ = true; kernel_rfl) | assumption)
      subst hC
      refine cut_seq fun C hC => ?_
      simp only [go_sem, d_ref2_Norm, d_ref1_Bits, d_ref7_half, d_ref2_Of, d_ref2_Cmp, d_ref2_Int, d_ref2_Sub, d_ref2_Add, d_ref2_Div, d_ref7_twice, d_i4_Often, d_i4_Sum, d_i4_Minus, d_i4_Back, decide_true, decide_false, Bool.not_true, Bool.not_false, zN_val, hq, eC, cr_sz, cr_q, cr_n, cr_d, cr_s, val_limbs, ek, e4, e2, e3, ca', cb', ce', eM, eZ, e0, eT, s1, s2, eI, eR, Nat.reduceBEq, Nat.reduceBNe, Nat.reduceLT, Nat.reduceLeDiff, Nat.reduceAdd, Nat.reduceSub, Nat.reduceMul, Nat.reduceEqDiff, Int.reduceNeg, Int.reduceAdd, Int.reduceLT, Int.reduceLE, Int.reduceToNat, ↓reduceIte]
      try and_intros
      all_goals try (first | exact trivial | omega | (show okDraw _ _ = true; kernel_rfl) | assumption)
      subst hC
      simp only [go_sem, d_ref2_Norm, d_ref1_Bits, d_ref7_half, d_ref2_Of, d_ref2_Cmp, d_ref2_Int, d_ref2_Sub, d_ref2_Add, d_ref2_Div, d_ref7_twice, d_i4_Often, d_i4_Sum, d_i4_Minus, d_i4_Back, decide_true, decide_false, Bool.not_true, Bool.not_false, zN_val, hq, eC, cr_sz, cr_q, cr_n, cr_d, cr_s, val_limbs, ek, e4, e2, e3, ca', cb', ce', eM, eZ, e0, eT, s1, s2, eI, eR, Nat.reduceBEq, Nat.reduceBNe, Nat.reduceLT, Nat.reduceLeDiff, Nat.reduceAdd, Nat.reduceSub, Nat.reduceMul, Nat.reduceEqDiff, Int.reduceNeg, Int.reduceAdd, Int.reduceLT, Int.reduceLE, Int.reduceToNat, ↓reduceIte]
      all_goals ((try and_intros) <;> first | exact trivial | omega | (show okDraw _ _ = true; kernel_rfl) | assumption)
    · have s1 : (0 < k2Z q) = False := eq_false (by omega)
      have s2 : (k2Z q < 0) = True := eq_true s
      have eR : lnR q (b + 20) = P.iminus (lnR0 q (b + 20)) (P.ioften (lnT (b + 20)) (-k2Z q)) := by unfold lnR; rw [if_neg (by omega), if_pos s]
      have en : 0 - k2Z q = -k2Z q := Int.zero_sub _
      obtain ⟨v7, v8⟩ := ZZ_pow (w2 (-k2Z q) (by omega) (by omega)) (K := 100000000) (by omega)
      rw [eR] at v5 v6
      refine cut_seq fun C hC => ?_
      simp only [go_sem, d_ref2_Norm, d_ref1_Bits, d_ref7_half, d_ref2_Of, d_ref2_Cmp, d_ref2_Int, d_ref2_Sub, d_ref2_Add, d_ref2_Div, d_ref7_twice, d_i4_Often, d_i4_Sum, d_i4_Minus, d_i4_Back, decide_true, decide_false, Bool.not_true, Bool.not_false, zN_val, hq, eC, cr_sz, cr_q, cr_n, cr_d, cr_s, val_limbs, ek, e4, e2, e3, ca', cb', ce', eM, eZ, e0, eT, s1, s2, eI, eR, en, Nat.reduceBEq, Nat.reduceBNe, Nat.reduceLT, Nat.reduceLeDiff, Nat.reduceAdd, Nat.reduceSub, Nat.reduceMul, Nat.reduceEqDiff, Int.reduceNeg, Int.reduceAdd, Int.reduceLT, Int.reduceLE, Int.reduceToNat, ↓reduceIte]
      try and_intros
      all_goals try (first | exact trivial | omega | (show okDraw _ _ = true; kernel_rfl) | assumption)
      subst hC
      refine cut_seq fun C hC => ?_
      simp only [go_sem, d_ref2_Norm, d_ref1_Bits, d_ref7_half, d_ref2_Of, d_ref2_Cmp, d_ref2_Int, d_ref2_Sub, d_ref2_Add, d_ref2_Div, d_ref7_twice, d_i4_Often, d_i4_Sum, d_i4_Minus, d_i4_Back, decide_true, decide_false, Bool.not_true, Bool.not_false, zN_val, hq, eC, cr_sz, cr_q, cr_n, cr_d, cr_s, val_limbs, ek, e4, e2, e3, ca', cb', ce', eM, eZ, e0, eT, s1, s2, eI, eR, en, Nat.reduceBEq, Nat.reduceBNe, Nat.reduceLT, Nat.reduceLeDiff, Nat.reduceAdd, Nat.reduceSub, Nat.reduceMul, Nat.reduceEqDiff, Int.reduceNeg, Int.reduceAdd, Int.reduceLT, Int.reduceLE, Int.reduceToNat, ↓reduceIte]
      try and_intros
      all_goals try (first | exact trivial | omega | (show okDraw _ _ = true; kernel_rfl) | assumption)
      subst hC
      simp only [go_sem, d_ref2_Norm, d_ref1_Bits, d_ref7_half, d_ref2_Of, d_ref2_Cmp, d_ref2_Int, d_ref2_Sub, d_ref2_Add, d_ref2_Div, d_ref7_twice, d_i4_Often, d_i4_Sum, d_i4_Minus, d_i4_Back, decide_true, decide_false, Bool.not_true, Bool.not_false, zN_val, hq, eC, cr_sz, cr_q, cr_n, cr_d, cr_s, val_limbs, ek, e4, e2, e3, ca', cb', ce', eM, eZ, e0, eT, s1, s2, eI, eR, en, Nat.reduceBEq, Nat.reduceBNe, Nat.reduceLT, Nat.reduceLeDiff, Nat.reduceAdd, Nat.reduceSub, Nat.reduceMul, Nat.reduceEqDiff, Int.reduceNeg, Int.reduceAdd, Int.reduceLT, Int.reduceLE, Int.reduceToNat, ↓reduceIte]
      all_goals ((try and_intros) <;> first | exact trivial | omega | (show okDraw _ _ = true; kernel_rfl) | assumption)
  · have ca' := eq_false ca
    have cb' := eq_true cb
    have ce' : k0Z q + -1 = k2Z q := ce.symm
    have cs' : k0Z q - 1 = k2Z q := by omega
    refine cut_seq fun C hC => ?_
    simp only [go_sem, d_ref2_Norm, d_ref1_Bits, d_ref7_half, d_ref2_Of, d_ref2_Cmp, d_ref2_Int, d_ref2_Sub, d_ref2_Add, d_ref2_Div, d_ref7_twice, d_i4_Often, d_i4_Sum, d_i4_Minus, d_i4_Back, decide_true, decide_false, Bool.not_true, Bool.not_false, zN_val, hq, eC, cr_sz, cr_q, cr_n, cr_d, cr_s, val_limbs, ek, e4, e2, e3, ca', cb', cs', ce', eM, eZ, e0, eT, Nat.reduceBEq, Nat.reduceBNe, Nat.reduceLT, Nat.reduceLeDiff, Nat.reduceAdd, Nat.reduceSub, Nat.reduceMul, Nat.reduceEqDiff, Int.reduceNeg, Int.reduceAdd, Int.reduceLT, Int.reduceLE, Int.reduceToNat, ↓reduceIte]
    try and_intros
    all_goals try (first | exact trivial | omega | (show okDraw _ _ = true; kernel_rfl) | assumption)
    subst hC
    refine cut_seq fun C hC => ?_
    simp only [go_sem, d_ref2_Norm, d_ref1_Bits, d_ref7_half, d_ref2_Of, d_ref2_Cmp, d_ref2_Int, d_ref2_Sub, d_ref2_Add, d_ref2_Div, d_ref7_twice, d_i4_Often, d_i4_Sum, d_i4_Minus, d_i4_Back, decide_true, decide_false, Bool.not_true, Bool.not_false, zN_val, hq, eC, cr_sz, cr_q, cr_n, cr_d, cr_s, val_limbs, ek, e4, e2, e3, ca', cb', cs', ce', eM, eZ, e0, eT, Nat.reduceBEq, Nat.reduceBNe, Nat.reduceLT, Nat.reduceLeDiff, Nat.reduceAdd, Nat.reduceSub, Nat.reduceMul, Nat.reduceEqDiff, Int.reduceNeg, Int.reduceAdd, Int.reduceLT, Int.reduceLE, Int.reduceToNat, ↓reduceIte]
    try and_intros
    all_goals try (first | exact trivial | omega | (show okDraw _ _ = true; kernel_rfl) | assumption)
    subst hC
    refine cut_seq fun C hC => ?_
    simp only [go_sem, d_ref2_Norm, d_ref1_Bits, d_ref7_half, d_ref2_Of, d_ref2_Cmp, d_ref2_Int, d_ref2_Sub, d_ref2_Add, d_ref2_Div, d_ref7_twice, d_i4_Often, d_i4_Sum, d_i4_Minus, d_i4_Back, decide_true, decide_false, Bool.not_true, Bool.not_false, zN_val, hq, eC, cr_sz, cr_q, cr_n, cr_d, cr_s, val_limbs, ek, e4, e2, e3, ca', cb', cs', ce', eM, eZ, e0, eT, Nat.reduceBEq, Nat.reduceBNe, Nat.reduceLT, Nat.reduceLeDiff, Nat.reduceAdd, Nat.reduceSub, Nat.reduceMul, Nat.reduceEqDiff, Int.reduceNeg, Int.reduceAdd, Int.reduceLT, Int.reduceLE, Int.reduceToNat, ↓reduceIte]
    try and_intros
    all_goals try (first | exact trivial | omega | (show okDraw _ _ = true; kernel_rfl) | assumption)
    subst hC
    refine cut_seq fun C hC => ?_
    simp only [go_sem, d_ref2_Norm, d_ref1_Bits, d_ref7_half, d_ref2_Of, d_ref2_Cmp, d_ref2_Int, d_ref2_Sub, d_ref2_Add, d_ref2_Div, d_ref7_twice, d_i4_Often, d_i4_Sum, d_i4_Minus, d_i4_Back, decide_true, decide_false, Bool.not_true, Bool.not_false, zN_val, hq, eC, cr_sz, cr_q, cr_n, cr_d, cr_s, val_limbs, ek, e4, e2, e3, ca', cb', cs', ce', eM, eZ, e0, eT, Nat.reduceBEq, Nat.reduceBNe, Nat.reduceLT, Nat.reduceLeDiff, Nat.reduceAdd, Nat.reduceSub, Nat.reduceMul, Nat.reduceEqDiff, Int.reduceNeg, Int.reduceAdd, Int.reduceLT, Int.reduceLE, Int.reduceToNat, ↓reduceIte]
    try and_intros
    all_goals try (first | exact trivial | omega | (show okDraw _ _ = true; kernel_rfl) | assumption)
    subst hC
    refine cut_seq fun C hC => ?_
    simp only [go_sem, d_ref2_Norm, d_ref1_Bits, d_ref7_half, d_ref2_Of, d_ref2_Cmp, d_ref2_Int, d_ref2_Sub, d_ref2_Add, d_ref2_Div, d_ref7_twice, d_i4_Often, d_i4_Sum, d_i4_Minus, d_i4_Back, decide_true, decide_false, Bool.not_true, Bool.not_false, zN_val, hq, eC, cr_sz, cr_q, cr_n, cr_d, cr_s, val_limbs, ek, e4, e2, e3, ca', cb', cs', ce', eM, eZ, e0, eT, Nat.reduceBEq, Nat.reduceBNe, Nat.reduceLT, Nat.reduceLeDiff, Nat.reduceAdd, Nat.reduceSub, Nat.reduceMul, Nat.reduceEqDiff, Int.reduceNeg, Int.reduceAdd, Int.reduceLT, Int.reduceLE, Int.reduceToNat, ↓reduceIte]
    try and_intros
    all_goals try (first | exact trivial | omega | (show okDraw _ _ = true; kernel_rfl) | assumption)
    subst hC
    refine cut_seq fun C hC => ?_
    simp only [go_sem, d_ref2_Norm, d_ref1_Bits, d_ref7_half, d_ref2_Of, d_ref2_Cmp, d_ref2_Int, d_ref2_Sub, d_ref2_Add, d_ref2_Div, d_ref7_twice, d_i4_Often, d_i4_Sum, d_i4_Minus, d_i4_Back, decide_true, decide_false, Bool.not_true, Bool.not_false, zN_val, hq, eC, cr_sz, cr_q, cr_n, cr_d, cr_s, val_limbs, ek, e4, e2, e3, ca', cb', cs', ce', eM, eZ, e0, eT, Nat.reduceBEq, Nat.reduceBNe, Nat.reduceLT, Nat.reduceLeDiff, Nat.reduceAdd, Nat.reduceSub, Nat.reduceMul, Nat.reduceEqDiff, Int.reduceNeg, Int.reduceAdd, Int.reduceLT, Int.reduceLE, Int.reduceToNat, ↓reduceIte]
    try and_intros
    all_goals try (first | exact trivial | omega | (show okDraw _ _ = true; kernel_rfl) | assumption)
    subst hC
    refine cut_seq fun C hC => ?_
    simp only [go_sem, d_ref2_Norm, d_ref1_Bits, d_ref7_half, d_ref2_Of, d_ref2_Cmp, d_ref2_Int, d_ref2_Sub, d_ref2_Add, d_ref2_Div, d_ref7_twice, d_i4_Often, d_i4_Sum, d_i4_Minus, d_i4_Back, decide_true, decide_false, Bool.not_true, Bool.not_false, zN_val, hq, eC, cr_sz, cr_q, cr_n, cr_d, cr_s, val_limbs, ek, e4, e2, e3, ca', cb', cs', ce', eM, eZ, e0, eT, Nat.reduceBEq, Nat.reduceBNe, Nat.reduceLT, Nat.reduceLeDiff, Nat.reduceAdd, Nat.reduceSub, Nat.reduceMul, Nat.reduceEqDiff, Int.reduceNeg, Int.reduceAdd, Int.reduceLT, Int.reduceLE, Int.reduceToNat, ↓reduceIte]
    try and_intros
    all_goals try (first | exact trivial | omega | (show okDraw _ _ = true; kernel_rfl) | assumption)
    subst hC
    rcases Int.lt_trichotomy 0 (k2Z q) with s | s | s
    · have s1 : (0 < k2Z q) = True := eq_true s
      have s2 : (k2Z q < 0) = False := eq_false (by omega)
      have eR : lnR q (b + 20) = P.isum (lnR0 q (b + 20)) (P.ioften (lnT (b + 20)) (k2Z q)) := if_pos s
      obtain ⟨v7, v8⟩ := ZZ_pow (w2 (k2Z q) (by omega) (by omega)) (K := 100000000) (by omega)
      rw [eR] at v5 v6
      refine cut_seq fun C hC => ?_
      simp only [go_sem, d_ref2_Norm, d_ref1_Bits, d_ref7_half, d_ref2_Of, d_ref2_Cmp, d_ref2_Int, d_ref2_Sub, d_ref2_Add, d_ref2_Div, d_ref7_twice, d_i4_Often, d_i4_Sum, d_i4_Minus, d_i4_Back, decide_true, decide_false, Bool.not_true, Bool.not_false, zN_val, hq, eC, cr_sz, cr_q, cr_n, cr_d, cr_s, val_limbs, ek, e4, e2, e3, ca', cb', cs', ce', eM, eZ, e0, eT, s1, s2, eI, eR, Nat.reduceBEq, Nat.reduceBNe, Nat.reduceLT, Nat.reduceLeDiff, Nat.reduceAdd, Nat.reduceSub, Nat.reduceMul, Nat.reduceEqDiff, Int.reduceNeg, Int.reduceAdd, Int.reduceLT, Int.reduceLE, Int.reduceToNat, ↓reduceIte]
      try and_intros
      all_goals try (first | exact trivial | omega | (show okDraw _ _ = true; kernel_rfl) | assumption)
      subst hC
      refine cut_seq fun C hC => ?_
      simp only [go_sem, d_ref2_Norm, d_ref1_Bits, d_ref7_half, d_ref2_Of, d_ref2_Cmp, d_ref2_Int, d_ref2_Sub, d_ref2_Add, d_ref2_Div, d_ref7_twice, d_i4_Often, d_i4_Sum, d_i4_Minus, d_i4_Back, decide_true, decide_false, Bool.not_true, Bool.not_false, zN_val, hq, eC, cr_sz, cr_q, cr_n, cr_d, cr_s, val_limbs, ek, e4, e2, e3, ca', cb', cs', ce', eM, eZ, e0, eT, s1, s2, eI, eR, Nat.reduceBEq, Nat.reduceBNe, Nat.reduceLT, Nat.reduceLeDiff, Nat.reduceAdd, Nat.reduceSub, Nat.reduceMul, Nat.reduceEqDiff, Int.reduceNeg, Int.reduceAdd, Int.reduceLT, Int.reduceLE, Int.reduceToNat, ↓reduceIte]
      try and_intros
      all_goals try (first | exact trivial | omega | (show okDraw _ _ = true; kernel_rfl) | assumption)
      subst hC
      simp only [go_sem, d_ref2_Norm, d_ref1_Bits, d_ref7_half, d_ref2_Of, d_ref2_Cmp, d_ref2_Int, d_ref2_Sub, d_ref2_Add, d_ref2_Div, d_ref7_twice, d_i4_Often, d_i4_Sum, d_i4_Minus, d_i4_Back, decide_true, decide_false, Bool.not_true, Bool.not_false, zN_val, hq, eC, cr_sz, cr_q, cr_n, cr_d, cr_s, val_limbs, ek, e4, e2, e3, ca', cb', cs', ce', eM, eZ, e0, eT, s1, s2, eI, eR, Nat.reduceBEq, Nat.reduceBNe, Nat.reduceLT, Nat.reduceLeDiff, Nat.reduceAdd, Nat.reduceSub, Nat.reduceMul, Nat.reduceEqDiff, Int.reduceNeg, Int.reduceAdd, Int.reduceLT, Int.reduceLE, Int.reduceToNat, ↓reduceIte]
      all_goals ((try and_intros) <;> first | exact trivial | omega | (show okDraw _ _ = true; kernel_rfl) | assumption)
    · have s1 : (0 < k2Z q) = False := eq_false (by omega)
      have s2 : (k2Z q < 0) = False := eq_false (by omega)
      have eR : lnR q (b + 20) = lnR0 q (b + 20) := by unfold lnR; rw [if_neg (by omega), if_neg (by omega)]
      refine cut_seq fun C hC => ?_
      simp only [go_sem, d_ref2_Norm, d_ref1_Bits, d_ref7_half, d_ref2_Of, d_ref2_Cmp, d_ref2_Int, d_ref2_Sub, d_ref2_Add, d_ref2_Div, d_ref7_twice, d_i4_Often, d_i4_Sum, d_i4_Minus, d_i4_Back, decide_true, decide_false, Bool.not_true, Bool.not_false, zN_val, hq, eC, cr_sz, cr_q, cr_n, cr_d, cr_s, val_limbs, ek, e4, e2, e3, ca', cb', cs', ce', eM, eZ, e0, eT, s1, s2, eI, eR, Nat.reduceBEq, Nat.reduceBNe, Nat.reduceLT, Nat.reduceLeDiff, Nat.reduceAdd, Nat.reduceSub, Nat.reduceMul, Nat.reduceEqDiff, Int.reduceNeg, Int.reduceAdd, Int.reduceLT, Int.reduceLE, Int.reduceToNat, ↓reduceIte]
      try and_intros
      all_goals try (first | exact trivial | omega | (show okDraw _ _ = true; kernel_rfl) | assumption)
      subst hC
      refine cut_seq fun C hC => ?_
      simp only [go_sem, d_ref2_Norm, d_ref1_Bits, d_ref7_half, d_ref2_Of, d_ref2_Cmp, d_ref2_Int, d_ref2_Sub, d_ref2_Add, d_ref2_Div, d_ref7_twice, d_i4_Often, d_i4_Sum, d_i4_Minus, d_i4_Back, decide_true, decide_false, Bool.not_true, Bool.not_false, zN_val, hq, eC, cr_sz, cr_q, cr_n, cr_d, cr_s, val_limbs, ek, e4, e2, e3, ca', cb', cs', ce', eM, eZ, e0, eT, s1, s2, eI, eR, Nat.reduceBEq, Nat.reduceBNe, Nat.reduceLT, Nat.reduceLeDiff, Nat.reduceAdd, Nat.reduceSub, Nat.reduceMul, Nat.reduceEqDiff, Int.reduceNeg, Int.reduceAdd, Int.reduceLT, Int.reduceLE, Int.reduceToNat, ↓reduceIte]
      try and_intros
      all_goals try (first | exact trivial | omega | (show okDraw _ _ = true; kernel_rfl) | assumption)
      subst hC
      simp only [go_sem, d_ref2_Norm, d_ref1_Bits, d_ref7_half, d_ref2_Of, d_ref2_Cmp, d_ref2_Int, d_ref2_Sub, d_ref2_Add, d_ref2_Div, d_ref7_twice, d_i4_Often, d_i4_Sum, d_i4_Minus, d_i4_Back, decide_true, decide_false, Bool.not_true, Bool.not_false, zN_val, hq, eC, cr_sz, cr_q, cr_n, cr_d, cr_s, val_limbs, ek, e4, e2, e3, ca', cb', cs', ce', eM, eZ, e0, eT, s1, s2, eI, eR, Nat.reduceBEq, Nat.reduceBNe, Nat.reduceLT, Nat.reduceLeDiff, Nat.reduceAdd, Nat.reduceSub, Nat.reduceMul, Nat.reduceEqDiff, Int.reduceNeg, Int.reduceAdd, Int.reduceLT, Int.reduceLE, Int.reduceToNat, ↓reduceIte]
      all_goals ((try and_intros) <;> first | exact trivial | omega | (show okDraw _ _ = true; kernel_rfl) | assumption)
    · have s1 : (0 < k2Z q) = False := eq_false (by omega)
      have s2 : (k2Z q < 0) = True := eq_true s
      have eR : lnR q (b + 20) = P.iminus (lnR0 q (b + 20)) (P.ioften (lnT (b + 20)) (-k2Z q)) := by unfold lnR; rw [if_neg (by omega), if_pos s]
      have en : 0 - k2Z q = -k2Z q := Int.zero_sub _
      obtain ⟨v7, v8⟩ := ZZ_pow (w2 (-k2Z q) (by omega) (by omega)) (K := 100000000) (by omega)
      rw [eR] at v5 v6
      refine cut_seq fun C hC => ?_
      simp only [go_sem, d_ref2_Norm, d_ref1_Bits, d_ref7_half, d_ref2_Of, d_ref2_Cmp, d_ref2_Int, d_ref2_Sub, d_ref2_Add, d_ref2_Div, d_ref7_twice, d_i4_Often, d_i4_Sum, d_i4_Minus, d_i4_Back, decide_true, decide_false, Bool.not_true, Bool.not_false, zN_val, hq, eC, cr_sz, cr_q, cr_n, cr_d, cr_s, val_limbs, ek, e4, e2, e3, ca', cb', cs', ce', eM, eZ, e0, eT, s1, s2, eI, eR, en, Nat.reduceBEq, Nat.reduceBNe, Nat.reduceLT, Nat.reduceLeDiff, Nat.reduceAdd, Nat.reduceSub, Nat.reduceMul, Nat.reduceEqDiff, Int.reduceNeg, Int.reduceAdd, Int.reduceLT, Int.reduceLE, Int.reduceToNat, ↓reduceIte]
      try and_intros
      all_goals try (first | exact trivial | omega | (show okDraw _ _ = true; kernel_rfl) | assumption)
      subst hC
      refine cut_seq fun C hC => ?_
      simp only [go_sem, d_ref2_Norm, d_ref1_Bits, d_ref7_half, d_ref2_Of, d_ref2_Cmp, d_ref2_Int, d_ref2_Sub, d_ref2_Add, d_ref2_Div, d_ref7_twice, d_i4_Often, d_i4_Sum, d_i4_Minus, d_i4_Back, decide_true, decide_false, Bool.not_true, Bool.not_false, zN_val, hq, eC, cr_sz, cr_q, cr_n, cr_d, cr_s, val_limbs, ek, e4, e2, e3, ca', cb', cs', ce', eM, eZ, e0, eT, s1, s2, eI, eR, en, Nat.reduceBEq, Nat.reduceBNe, Nat.reduceLT, Nat.reduceLeDiff, Nat.reduceAdd, Nat.reduceSub, Nat.reduceMul, Nat.reduceEqDiff, Int.reduceNeg, Int.reduceAdd, Int.reduceLT, Int.reduceLE, Int.reduceToNat, ↓reduceIte]
      try and_intros
      all_goals try (first | exact trivial | omega | (show okDraw _ _ = true; kernel_rfl) | assumption)
      subst hC
      simp only [go_sem, d_ref2_Norm, d_ref1_Bits, d_ref7_half, d_ref2_Of, d_ref2_Cmp, d_ref2_Int, d_ref2_Sub, d_ref2_Add, d_ref2_Div, d_ref7_twice, d_i4_Often, d_i4_Sum, d_i4_Minus, d_i4_Back, decide_true, decide_false, Bool.not_true, Bool.not_false, zN_val, hq, eC, cr_sz, cr_q, cr_n, cr_d, cr_s, val_limbs, ek, e4, e2, e3, ca', cb', cs', ce', eM, eZ, e0, eT, s1, s2, eI, eR, en, Nat.reduceBEq, Nat.reduceBNe, Nat.reduceLT, Nat.reduceLeDiff, Nat.reduceAdd, Nat.reduceSub, Nat.reduceMul, Nat.reduceEqDiff, Int.reduceNeg, Int.reduceAdd, Int.reduceLT, Int.reduceLE, Int.reduceToNat, ↓reduceIte]
      all_goals ((try and_intros) <;> first | exact trivial | omega | (show okDraw _ _ = true; kernel_rfl) | assumption)
  · have ca' : (four3 < lnM q) = False := eq_false (by unfold lnM; rw [ce]; exact ca)
    have cb' : (lnM q < two3) = False := eq_false (by unfold lnM; rw [ce]; exact cb)
    have ce' : k0Z q = k2Z q := ce.symm
    refine cut_seq fun C hC => ?_
    simp only [go_sem, d_ref2_Norm, d_ref1_Bits, d_ref7_half, d_ref2_Of, d_ref2_Cmp, d_ref2_Int, d_ref2_Sub, d_ref2_Add, d_ref2_Div, d_ref7_twice, d_i4_Often, d_i4_Sum, d_i4_Minus, d_i4_Back, decide_true, decide_false, Bool.not_true, Bool.not_false, zN_val, hq, eC, cr_sz, cr_q, cr_n, cr_d, cr_s, val_limbs, ek, e4, e2, e3, ca', cb', ce', eM, eZ, e0, eT, Nat.reduceBEq, Nat.reduceBNe, Nat.reduceLT, Nat.reduceLeDiff, Nat.reduceAdd, Nat.reduceSub, Nat.reduceMul, Nat.reduceEqDiff, Int.reduceNeg, Int.reduceAdd, Int.reduceLT, Int.reduceLE, Int.reduceToNat, ↓reduceIte]
    try and_intros
    all_goals try (first | exact trivial | omega | (show okDraw _ _ = true; kernel_rfl) | assumption)
    subst hC
    refine cut_seq fun C hC => ?_
    simp only [go_sem, d_ref2_Norm, d_ref1_Bits, d_ref7_half, d_ref2_Of, d_ref2_Cmp, d_ref2_Int, d_ref2_Sub, d_ref2_Add, d_ref2_Div, d_ref7_twice, d_i4_Often, d_i4_Sum, d_i4_Minus, d_i4_Back, decide_true, decide_false, Bool.not_true, Bool.not_false, zN_val, hq, eC, cr_sz, cr_q, cr_n, cr_d, cr_s, val_limbs, ek, e4, e2, e3, ca', cb', ce', eM, eZ, e0, eT, Nat.reduceBEq, Nat.reduceBNe, Nat.reduceLT, Nat.reduceLeDiff, Nat.reduceAdd, Nat.reduceSub, Nat.reduceMul, Nat.reduceEqDiff, Int.reduceNeg, Int.reduceAdd, Int.reduceLT, Int.reduceLE, Int.reduceToNat, ↓reduceIte]
    try and_intros
    all_goals try (first | exact trivial | omega | (show okDraw _ _ = true; kernel_rfl) | assumption)
    subst hC
    refine cut_seq fun C hC => ?_
    simp only [go_sem, d_ref2_Norm, d_ref1_Bits, d_ref7_half, d_ref2_Of, d_ref2_Cmp, d_ref2_Int, d_ref2_Sub, d_ref2_Add, d_ref2_Div, d_ref7_twice, d_i4_Often, d_i4_Sum, d_i4_Minus, d_i4_Back, decide_true, decide_false, Bool.not_true, Bool.not_false, zN_val, hq, eC, cr_sz, cr_q, cr_n, cr_d, cr_s, val_limbs, ek, e4, e2, e3, ca', cb', ce', eM, eZ, e0, eT, Nat.reduceBEq, Nat.reduceBNe, Nat.reduceLT, Nat.reduceLeDiff, Nat.reduceAdd, Nat.reduceSub, Nat.reduceMul, Nat.reduceEqDiff, Int.reduceNeg, Int.reduceAdd, Int.reduceLT, Int.reduceLE, Int.reduceToNat, ↓reduceIte]
    try and_intros
    all_goals try (first | exact trivial | omega | (show okDraw _ _ = true; kernel_rfl) | assumption)
    subst hC
    refine cut_seq fun C hC => ?_
    simp only [go_sem, d_ref2_Norm, d_ref1_Bits, d_ref7_half, d_ref2_Of, d_ref2_Cmp, d_ref2_Int, d_ref2_Sub, d_ref2_Add, d_ref2_Div, d_ref7_twice, d_i4_Often, d_i4_Sum, d_i4_Minus, d_i4_Back, decide_true, decide_false, Bool.not_true, Bool.not_false, zN_val, hq, eC, cr_sz, cr_q, cr_n, cr_d, cr_s, val_limbs, ek, e4, e2, e3, ca', cb', ce', eM, eZ, e0, eT, Nat.reduceBEq, Nat.reduceBNe, Nat.reduceLT, Nat.reduceLeDiff, Nat.reduceAdd, Nat.reduceSub, Nat.reduceMul, Nat.reduceEqDiff, Int.reduceNeg, Int.reduceAdd, Int.reduceLT, Int.reduceLE, Int.reduceToNat, ↓reduceIte]
    try and_intros
    all_goals try (first | exact trivial | omega | (show okDraw _ _ = true; kernel_rfl) | assumption)
    subst hC
    refine cut_seq fun C hC => ?_
    simp only [go_sem, d_ref2_Norm, d_ref1_Bits, d_ref7_half, d_ref2_Of, d_ref2_Cmp, d_ref2_Int, d_ref2_Sub, d_ref2_Add, d_ref2_Div, d_ref7_twice, d_i4_Often, d_i4_Sum, d_i4_Minus, d_i4_Back, decide_true, decide_false, Bool.not_true, Bool.not_false, zN_val, hq, eC, cr_sz, cr_q, cr_n, cr_d, cr_s, val_limbs, ek, e4, e2, e3, ca', cb', ce', eM, eZ, e0, eT, Nat.reduceBEq, Nat.reduceBNe, Nat.reduceLT, Nat.reduceLeDiff, Nat.reduceAdd, Nat.reduceSub, Nat.reduceMul, Nat.reduceEqDiff, Int.reduceNeg, Int.reduceAdd, Int.reduceLT, Int.reduceLE, Int.reduceToNat, ↓reduceIte]
    try and_intros
    all_goals try (first | exact trivial | omega | (show okDraw _ _ = true; kernel_rfl) | assumption)
    subst hC
    refine cut_seq fun C hC => ?_
    simp only [go_sem, d_ref2_Norm, d_ref1_Bits, d_ref7_half, d_ref2_Of, d_ref2_Cmp, d_ref2_Int, d_ref2_Sub, d_ref2_Add, d_ref2_Div, d_ref7_twice, d_i4_Often, d_i4_Sum, d_i4_Minus, d_i4_Back, decide_true, decide_false, Bool.not_true, Bool.not_false, zN_val, hq, eC, cr_sz, cr_q, cr_n, cr_d, cr_s, val_limbs, ek, e4, e2, e3, ca', cb', ce', eM, eZ, e0, eT, Nat.reduceBEq, Nat.reduceBNe, Nat.reduceLT, Nat.reduceLeDiff, Nat.reduceAdd, Nat.reduceSub, Nat.reduceMul, Nat.reduceEqDiff, Int.reduceNeg, Int.reduceAdd, Int.reduceLT, Int.reduceLE, Int.reduceToNat, ↓reduceIte]
    try and_intros
    all_goals try (first | exact trivial | omega | (show okDraw _ _ = true; kernel_rfl) | assumption)
    subst hC
    refine cut_seq fun C hC => ?_
    simp only [go_sem, d_ref2_Norm, d_ref1_Bits, d_ref7_half, d_ref2_Of, d_ref2_Cmp, d_ref2_Int, d_ref2_Sub, d_ref2_Add, d_ref2_Div, d_ref7_twice, d_i4_Often, d_i4_Sum, d_i4_Minus, d_i4_Back, decide_true, decide_false, Bool.not_true, Bool.not_false, zN_val, hq, eC, cr_sz, cr_q, cr_n, cr_d, cr_s, val_limbs, ek, e4, e2, e3, ca', cb', ce', eM, eZ, e0, eT, Nat.reduceBEq, Nat.reduceBNe, Nat.reduceLT, Nat.reduceLeDiff, Nat.reduceAdd, Nat.reduceSub, Nat.reduceMul, Nat.reduceEqDiff, Int.reduceNeg, Int.reduceAdd, Int.reduceLT, Int.reduceLE, Int.reduceToNat, ↓reduceIte]
    try and_intros
    all_goals try (first | exact trivial | omega | (show okDraw _ _ = true; kernel_rfl) | assumption)
    subst hC
    rcases Int.lt_trichotomy 0 (k2Z q) with s | s | s
    · have s1 : (0 < k2Z q) = True := eq_true s
      have s2 : (k2Z q < 0) = False := eq_false (by omega)
      have eR : lnR q (b + 20) = P.isum (lnR0 q (b + 20)) (P.ioften (lnT (b + 20)) (k2Z q)) := if_pos s
      obtain ⟨v7, v8⟩ := ZZ_pow (w2 (k2Z q) (by omega) (by omega)) (K := 100000000) (by omega)
      rw [eR] at v5 v6
      refine cut_seq fun C hC => ?_
      simp only [go_sem, d_ref2_Norm, d_ref1_Bits, d_ref7_half, d_ref2_Of, d_ref2_Cmp, d_ref2_Int, d_ref2_Sub, d_ref2_Add, d_ref2_Div, d_ref7_twice, d_i4_Often, d_i4_Sum, d_i4_Minus, d_i4_Back, decide_true, decide_false, Bool.not_true, Bool.not_false, zN_val, hq, eC, cr_sz, cr_q, cr_n, cr_d, cr_s, val_limbs, ek, e4, e2, e3, ca', cb', ce', eM, eZ, e0, eT, s1, s2, eI, eR, Nat.reduceBEq, Nat.reduceBNe, Nat.reduceLT, Nat.reduceLeDiff, Nat.reduceAdd, Nat.reduceSub, Nat.reduceMul, Nat.reduceEqDiff, Int.reduceNeg, Int.reduceAdd, Int.reduceLT, Int.reduceLE, Int.reduceToNat, ↓reduceIte]
      try and_intros
      all_goals try (first | exact trivial | omega | (show okDraw _ _ = true; kernel_rfl) | assumption)
      subst hC
      refine cut_seq fun C hC => ?_
      simp only [go_sem, d_ref2_Norm, d_ref1_Bits, d_ref7_half, d_ref2_Of, d_ref2_Cmp, d_ref2_Int, d_ref2_Sub, d_ref2_Add, d_ref2_Div, d_ref7_twice, d_i4_Often, d_i4_Sum, d_i4_Minus, d_i4_Back, decide_true, decide_false, Bool.not_true, Bool.not_false, zN_val, hq, eC, cr_sz, cr_q, cr_n, cr_d, cr_s, val_limbs, ek, e4, e2, e3, ca', cb', ce', eM, eZ, e0, eT, s1, s2, eI, eR, Nat.reduceBEq, Nat.reduceBNe, Nat.reduceLT, Nat.reduceLeDiff, Nat.reduceAdd, Nat.reduceSub, Nat.reduceMul, Nat.reduceEqDiff, Int.reduceNeg, Int.reduceAdd, Int.reduceLT, Int.reduceLE, Int.reduceToNat, ↓reduceIte]
      try and_intros
      all_goals try (first | exact trivial | omega | (show okDraw _ _ = true; kernel_rfl) | assumption)
      subst hC
      simp only [go_sem, d_ref2_Norm, d_ref1_Bits, d_ref7_half, d_ref2_Of, d_ref2_Cmp, d_ref2_Int, d_ref2_Sub, d_ref2_Add, d_ref2_Div, d_ref7_twice, d_i4_Often, d_i4_Sum, d_i4_Minus, d_i4_Back, decide_true, decide_false, Bool.not_true, Bool.not_false, zN_val, hq, eC, cr_sz, cr_q, cr_n, cr_d, cr_s, val_limbs, ek, e4, e2, e3, ca', cb', ce', eM, eZ, e0, eT, s1, s2, eI, eR, Nat.reduceBEq, Nat.reduceBNe, Nat.reduceLT, Nat.reduceLeDiff, Nat.reduceAdd, Nat.reduceSub, Nat.reduceMul, Nat.reduceEqDiff, Int.reduceNeg, Int.reduceAdd, Int.reduceLT, Int.reduceLE, Int.reduceToNat, ↓reduceIte]
      all_goals ((try and_intros) <;> first | exact trivial | omega | (show okDraw _ _ = true; kernel_rfl) | assumption)
    · have s1 : (0 < k2Z q) = False := eq_false (by omega)
      have s2 : (k2Z q < 0) = False := eq_false (by omega)
      have eR : lnR q (b + 20) = lnR0 q (b + 20) := by unfold lnR; rw [if_neg (by omega), if_neg (by omega)]
      refine cut_seq fun C hC => ?_
      simp only [go_sem, d_ref2_Norm, d_ref1_Bits, d_ref7_half, d_ref2_Of, d_ref2_Cmp, d_ref2_Int, d_ref2_Sub, d_ref2_Add, d_ref2_Div, d_ref7_twice, d_i4_Often, d_i4_Sum, d_i4_Minus, d_i4_Back, decide_true, decide_false, Bool.not_true, Bool.not_false, zN_val, hq, eC, cr_sz, cr_q, cr_n, cr_d, cr_s, val_limbs, ek, e4, e2, e3, ca', cb', ce', eM, eZ, e0, eT, s1, s2, eI, eR, Nat.reduceBEq, Nat.reduceBNe, Nat.reduceLT, Nat.reduceLeDiff, Nat.reduceAdd, Nat.reduceSub, Nat.reduceMul, Nat.reduceEqDiff, Int.reduceNeg, Int.reduceAdd, Int.reduceLT, Int.reduceLE, Int.reduceToNat, ↓reduceIte]
      try and_intros
      all_goals try (first | exact trivial | omega | (show okDraw _ _ = true; kernel_rfl) | assumption)
      subst hC
      refine cut_seq fun C hC => ?_
      simp only [go_sem, d_ref2_Norm, d_ref1_Bits, d_ref7_half, d_ref2_Of, d_ref2_Cmp, d_ref2_Int, d_ref2_Sub, d_ref2_Add, d_ref2_Div, d_ref7_twice, d_i4_Often, d_i4_Sum, d_i4_Minus, d_i4_Back, decide_true, decide_false, Bool.not_true, Bool.not_false, zN_val, hq, eC, cr_sz, cr_q, cr_n, cr_d, cr_s, val_limbs, ek, e4, e2, e3, ca', cb', ce', eM, eZ, e0, eT, s1, s2, eI, eR, Nat.reduceBEq, Nat.reduceBNe, Nat.reduceLT, Nat.reduceLeDiff, Nat.reduceAdd, Nat.reduceSub, Nat.reduceMul, Nat.reduceEqDiff, Int.reduceNeg, Int.reduceAdd, Int.reduceLT, Int.reduceLE, Int.reduceToNat, ↓reduceIte]
      try and_intros
      all_goals try (first | exact trivial | omega | (show okDraw _ _ = true; kernel_rfl) | assumption)
      subst hC
      simp only [go_sem, d_ref2_Norm, d_ref1_Bits, d_ref7_half, d_ref2_Of, d_ref2_Cmp, d_ref2_Int, d_ref2_Sub, d_ref2_Add, d_ref2_Div, d_ref7_twice, d_i4_Often, d_i4_Sum, d_i4_Minus, d_i4_Back, decide_true, decide_false, Bool.not_true, Bool.not_false, zN_val, hq, eC, cr_sz, cr_q, cr_n, cr_d, cr_s, val_limbs, ek, e4, e2, e3, ca', cb', ce', eM, eZ, e0, eT, s1, s2, eI, eR, Nat.reduceBEq, Nat.reduceBNe, Nat.reduceLT, Nat.reduceLeDiff, Nat.reduceAdd, Nat.reduceSub, Nat.reduceMul, Nat.reduceEqDiff, Int.reduceNeg, Int.reduceAdd, Int.reduceLT, Int.reduceLE, Int.reduceToNat, ↓reduceIte]
      all_goals ((try and_intros) <;> first | exact trivial | omega | (show okDraw _ _ = true; kernel_rfl) | assumption)
    · have s1 : (0 < k2Z q) = False := eq_false (by omega)
      have s2 : (k2Z q < 0) = True := eq_true s
      have eR : lnR q (b + 20) = P.iminus (lnR0 q (b + 20)) (P.ioften (lnT (b + 20)) (-k2Z q)) := by unfold lnR; rw [if_neg (by omega), if_pos s]
      have en : 0 - k2Z q = -k2Z q := Int.zero_sub _
      obtain ⟨v7, v8⟩ := ZZ_pow (w2 (-k2Z q) (by omega) (by omega)) (K := 100000000) (by omega)
      rw [eR] at v5 v6
      refine cut_seq fun C hC => ?_
      simp only [go_sem, d_ref2_Norm, d_ref1_Bits, d_ref7_half, d_ref2_Of, d_ref2_Cmp, d_ref2_Int, d_ref2_Sub, d_ref2_Add, d_ref2_Div, d_ref7_twice, d_i4_Often, d_i4_Sum, d_i4_Minus, d_i4_Back, decide_true, decide_false, Bool.not_true, Bool.not_false, zN_val, hq, eC, cr_sz, cr_q, cr_n, cr_d, cr_s, val_limbs, ek, e4, e2, e3, ca', cb', ce', eM, eZ, e0, eT, s1, s2, eI, eR, en, Nat.reduceBEq, Nat.reduceBNe, Nat.reduceLT, Nat.reduceLeDiff, Nat.reduceAdd, Nat.reduceSub, Nat.reduceMul, Nat.reduceEqDiff, Int.reduceNeg, Int.reduceAdd, Int.reduceLT, Int.reduceLE, Int.reduceToNat, ↓reduceIte]
      try and_intros
      all_goals try (first | exact trivial | omega | (show okDraw _ _ = true; kernel_rfl) | assumption)
      subst hC
      refine cut_seq fun C hC => ?_
      simp only [go_sem, d_ref2_Norm, d_ref1_Bits, d_ref7_half, d_ref2_Of, d_ref2_Cmp, d_ref2_Int, d_ref2_Sub, d_ref2_Add, d_ref2_Div, d_ref7_twice, d_i4_Often, d_i4_Sum, d_i4_Minus, d_i4_Back, decide_true, decide_false, Bool.not_true, Bool.not_false, zN_val, hq, eC, cr_sz, cr_q, cr_n, cr_d, cr_s, val_limbs, ek, e4, e2, e3, ca', cb', ce', eM, eZ, e0, eT, s1, s2, eI, eR, en, Nat.reduceBEq, Nat.reduceBNe, Nat.reduceLT, Nat.reduceLeDiff, Nat.reduceAdd, Nat.reduceSub, Nat.reduceMul, Nat.reduceEqDiff, Int.reduceNeg, Int.reduceAdd, Int.reduceLT, Int.reduceLE, Int.reduceToNat, ↓reduceIte]
      try and_intros
      all_goals try (first | exact trivial | omega | (show okDraw _ _ = true; kernel_rfl) | assumption)
      subst hC
      simp only [go_sem, d_ref2_Norm, d_ref1_Bits, d_ref7_half, d_ref2_Of, d_ref2_Cmp, d_ref2_Int, d_ref2_Sub, d_ref2_Add, d_ref2_Div, d_ref7_twice, d_i4_Often, d_i4_Sum, d_i4_Minus, d_i4_Back, decide_true, decide_false, Bool.not_true, Bool.not_false, zN_val, hq, eC, cr_sz, cr_q, cr_n, cr_d, cr_s, val_limbs, ek, e4, e2, e3, ca', cb', ce', eM, eZ, e0, eT, s1, s2, eI, eR, en, Nat.reduceBEq, Nat.reduceBNe, Nat.reduceLT, Nat.reduceLeDiff, Nat.reduceAdd, Nat.reduceSub, Nat.reduceMul, Nat.reduceEqDiff, Int.reduceNeg, Int.reduceAdd, Int.reduceLT, Int.reduceLE, Int.reduceToNat, ↓reduceIte]
      all_goals ((try and_intros) <;> first | exact trivial | omega | (show okDraw _ _ = true; kernel_rfl) | assumption)
def d_ref7_Ln : Den := den2 aRat aInt (fun a _ => a.sz ≤ 1000) fun a b => ballOkV (ln7B a.q b) (lnOk a.q)
set_option maxRecDepth 100000 in
set_option maxHeartbeats 8000000 in
theorem s_ref7_Ln : Sound Tryz.prog 16 d_ref7_Ln := by
  refine sound2 (fz := nofz) (l := [(36, d_ref4_Hold), (30, d_ref2_Norm), (41, d_ref2_Int), (40, d_ref4_Of), (54, d_ref2_Same), (55, d_ref7_Iv), (42, d_i4_Floor)]) TT_ok ⟨s_ref4_Hold, s_ref2_Norm, s_ref2_Int, s_ref4_Of, s_ref2_Same, s_ref7_Iv, s_i4_Floor, trivial⟩ mixed Tryz.func16 Tryz.ntmps16 Tryz.results16 Tryz.call16 rfl (by omega) (fun _ _ => rfl) ?_
  intro a b hp ha hb
  rw [codeK_start]
  have h0 : a.sz ≤ 1000 := hp
  have hqs : rs a.q ≤ 1000 := rs_ok ha h0 (by omega)
  generalize hq : a.q = q at *
  have hl := hold_le b
  have t0 : rs (0 : Rat) ≤ 1 := rs0 (by omega)
  have t1 : rs ((1 : Int) : Rat) ≤ 1 := by decide +kernel
  have eC : ∀ x : Rat, (⟨ng x, limbs (nm x), limbs x.den⟩ : RR) = cr x := fun _ => rfl
  obtain ⟨l1, l2⟩ := rs_parts hqs
  by_cases g1 : ng q = true
  · have e1 : lnOk q = false := by unfold lnOk; rw [g1]; rfl
    have e2 : ln7B q b = bb 0 0 := by unfold ln7B; rw [e1]; rfl
    simp only [go_sem, d_ref4_Hold, d_ref2_Norm, d_ref2_Int, d_ref4_Of, d_ref2_Same, d_ref7_Iv, d_i4_Floor, decide_true, decide_false, Bool.not_true, Bool.not_false, zN_val, hq, eC, cr_sz, cr_q, cr_n, cr_d, cr_s, val_limbs, g1, e1, e2, int0, Nat.reduceBEq, Nat.reduceBNe, Nat.reduceLT, Nat.reduceLeDiff, Nat.reduceAdd, Nat.reduceSub, Nat.reduceMul, Nat.reduceEqDiff, Int.reduceNeg, Int.reduceAdd, Int.reduceLT, Int.reduceLE, Int.reduceToNat, ↓reduceIte]
    all_goals ((try and_intros) <;> first | exact trivial | omega | (show okDraw _ _ = true; kernel_rfl) | assumption)
  have g1 : ng q = false := by simpa using g1
  have eF : (⟨false, limbs (nm q), limbs q.den⟩ : RR) = cr q := by rw [← g1]; rfl
  by_cases g2 : q = 0
  · have e1 : lnOk q = false := by unfold lnOk; rw [decide_eq_true g2, g1]; rfl
    have e2 : ln7B q b = bb 0 0 := by unfold ln7B; rw [e1]; rfl
    have g3 : (((limbs (nm q)).length : Nat) : Int) = 0 := by rw [g2]; decide +kernel
    simp only [go_sem, d_ref4_Hold, d_ref2_Norm, d_ref2_Int, d_ref4_Of, d_ref2_Same, d_ref7_Iv, d_i4_Floor, decide_true, decide_false, Bool.not_true, Bool.not_false, zN_val, hq, eC, cr_sz, cr_q, cr_n, cr_d, cr_s, val_limbs, g1, g3, e1, e2, int0, Nat.reduceBEq, Nat.reduceBNe, Nat.reduceLT, Nat.reduceLeDiff, Nat.reduceAdd, Nat.reduceSub, Nat.reduceMul, Nat.reduceEqDiff, Int.reduceNeg, Int.reduceAdd, Int.reduceLT, Int.reduceLE, Int.reduceToNat, ↓reduceIte]
    all_goals ((try and_intros) <;> first | exact trivial | omega | (show okDraw _ _ = true; kernel_rfl) | assumption)
  have g3 : ((((limbs (nm q)).length : Nat) : Int) = 0) = False := eq_false (by
    have n0 : nm q ≠ 0 := fun h => g2 (Rat.num_eq_zero.1 (Int.natAbs_eq_zero.1 h))
    rw [limbs_pos (Nat.pos_of_ne_zero n0), List.length_cons]
    omega)
  by_cases g4 : 4 < (limbs (nm q)).length
  · have e1 : lnOk q = false := by unfold lnOk; rw [decide_eq_true g4]; simp
    have e2 : ln7B q b = bb 0 0 := by unfold ln7B; rw [e1]; rfl
    have g5 : ((4 : Int) < (((limbs (nm q)).length : Nat) : Int)) = True := eq_true (by omega)
    simp only [go_sem, d_ref4_Hold, d_ref2_Norm, d_ref2_Int, d_ref4_Of, d_ref2_Same, d_ref7_Iv, d_i4_Floor, decide_true, decide_false, Bool.not_true, Bool.not_false, zN_val, hq, eC, cr_sz, cr_q, cr_n, cr_d, cr_s, val_limbs, g1, g3, g5, e1, e2, int0, Nat.reduceBEq, Nat.reduceBNe, Nat.reduceLT, Nat.reduceLeDiff, Nat.reduceAdd, Nat.reduceSub, Nat.reduceMul, Nat.reduceEqDiff, Int.reduceNeg, Int.reduceAdd, Int.reduceLT, Int.reduceLE, Int.reduceToNat, ↓reduceIte]
    all_goals ((try and_intros) <;> first | exact trivial | omega | (show okDraw _ _ = true; kernel_rfl) | assumption)
  have g5 : ((4 : Int) < (((limbs (nm q)).length : Nat) : Int)) = False := eq_false (by omega)
  by_cases g6 : 4 < (limbs q.den).length
  · have e1 : lnOk q = false := by unfold lnOk; rw [decide_eq_true g6]; simp
    have e2 : ln7B q b = bb 0 0 := by unfold ln7B; rw [e1]; rfl
    have g7 : ((4 : Int) < (((limbs q.den).length : Nat) : Int)) = True := eq_true (by omega)
    simp only [go_sem, d_ref4_Hold, d_ref2_Norm, d_ref2_Int, d_ref4_Of, d_ref2_Same, d_ref7_Iv, d_i4_Floor, decide_true, decide_false, Bool.not_true, Bool.not_false, zN_val, hq, eC, cr_sz, cr_q, cr_n, cr_d, cr_s, val_limbs, g1, g3, g5, g7, e1, e2, int0, Nat.reduceBEq, Nat.reduceBNe, Nat.reduceLT, Nat.reduceLeDiff, Nat.reduceAdd, Nat.reduceSub, Nat.reduceMul, Nat.reduceEqDiff, Int.reduceNeg, Int.reduceAdd, Int.reduceLT, Int.reduceLE, Int.reduceToNat, ↓reduceIte]
    all_goals ((try and_intros) <;> first | exact trivial | omega | (show okDraw _ _ = true; kernel_rfl) | assumption)
  have g7 : ((4 : Int) < (((limbs q.den).length : Nat) : Int)) = False := eq_false (by omega)
  have hk : lnOk q = true := by unfold lnOk; rw [g1, decide_eq_false g2, decide_eq_false g4, decide_eq_false g6]; rfl
  have r1 := rs_lnOk' hk
  by_cases g8 : q = 1
  · have e2 : ln7B q b = bb 0 0 := by unfold ln7B; rw [if_pos hk, if_pos g8]
    have g9 : (q = ((1 : Int) : Rat)) = True := eq_true g8
    simp only [go_sem, d_ref4_Hold, d_ref2_Norm, d_ref2_Int, d_ref4_Of, d_ref2_Same, d_ref7_Iv, d_i4_Floor, decide_true, decide_false, Bool.not_true, Bool.not_false, zN_val, hq, eC, cr_sz, cr_q, cr_n, cr_d, cr_s, val_limbs, eF, g1, g3, g5, g7, g9, hk, e2, int0, Nat.reduceBEq, Nat.reduceBNe, Nat.reduceLT, Nat.reduceLeDiff, Nat.reduceAdd, Nat.reduceSub, Nat.reduceMul, Nat.reduceEqDiff, Int.reduceNeg, Int.reduceAdd, Int.reduceLT, Int.reduceLE, Int.reduceToNat, ↓reduceIte]
    all_goals ((try and_intros) <;> first | exact trivial | omega | (show okDraw _ _ = true; kernel_rfl) | assumption)
  have g9 : (q = ((1 : Int) : Rat)) = False := eq_false g8
  have e2 : ln7B q b = lnE q ((hold b : Nat) : Int) := by unfold ln7B; rw [if_pos hk, if_neg g8]
  simp only [go_sem, d_ref4_Hold, d_ref2_Norm, d_ref2_Int, d_ref4_Of, d_ref2_Same, d_ref7_Iv, d_i4_Floor, decide_true, decide_false, Bool.not_true, Bool.not_false, zN_val, hq, eC, cr_sz, cr_q, cr_n, cr_d, cr_s, val_limbs, eF, g1, g3, g5, g7, g9, hk, Nat.reduceBEq, Nat.reduceBNe, Nat.reduceLT, Nat.reduceLeDiff, Nat.reduceAdd, Nat.reduceSub, Nat.reduceMul, Nat.reduceEqDiff, Int.reduceNeg, Int.reduceAdd, Int.reduceLT, Int.reduceLE, Int.reduceToNat, ↓reduceIte]
  and_intros
  all_goals try (first | exact trivial | omega | assumption | (show okDraw _ _ = true; kernel_rfl))
  refine codeK_loop (fun x : LnI q ((hold b : Nat) : Int) => ((7, 0, .av (intV (x.w))) : Nat × Nat × RV) :: ((1, 0, .av (intV (((hold b : Nat) : Int)))) : Nat × Nat × RV) :: (boxRat 6 (cr q) ++ (boxBall 4 ++ [(5, 0, .av (boolV false))]))) (fun x => x.f) ⟨((hold b : Nat) : Int) + 20, 200, by omega, by omega, by omega, rfl⟩ (le_of ?_) ?_
  · simp only [go_sem, leL, Nat.reduceBEq, Nat.reduceBNe, Nat.reduceLT, Nat.reduceLeDiff, Nat.reduceAdd, Nat.reduceSub, Nat.reduceMul, Nat.reduceEqDiff, Int.reduceNeg, Int.reduceAdd, Int.reduceLT, Int.reduceLE, Int.reduceToNat, ↓reduceIte]
    exact ⟨g1.symm, rfl, rfl⟩
  · rintro ⟨w, g, w0, w1, hg, hv⟩
    have zE := lnIv_size (w := w) hk (by omega)
    have zEa := zE.1
    have zEb := zE.2
    by_cases c1 : lessZ (lnIv q w).1 (w - ((hold b : Nat) : Int)) = lessZ (lnIv q w).2 (w - ((hold b : Nat) : Int))
    · have c1' : (lessZ (lnIv q w).1 (w - ((hold b : Nat) : Int)) = lessZ (lnIv q w).2 (w - ((hold b : Nat) : Int))) = True := eq_true c1
      have ev : lnE q ((hold b : Nat) : Int) = floorB (lnIv q w) w ((hold b : Nat) : Int) := by
        rw [← hv]
        cases g with
        | zero => rfl
        | succ g => unfold lnGo; rw [if_pos c1]
      simp only [go_sem, d_ref4_Hold, d_ref2_Norm, d_ref2_Int, d_ref4_Of, d_ref2_Same, d_ref7_Iv, d_i4_Floor, decide_true, decide_false, Bool.not_true, Bool.not_false, zN_val, hq, eC, cr_sz, cr_q, cr_n, cr_d, cr_s, val_limbs, eF, c1', hk, e2, ev, Nat.reduceBEq, Nat.reduceBNe, Nat.reduceLT, Nat.reduceLeDiff, Nat.reduceAdd, Nat.reduceSub, Nat.reduceMul, Nat.reduceEqDiff, Int.reduceNeg, Int.reduceAdd, Int.reduceLT, Int.reduceLE, Int.reduceToNat, ↓reduceIte]
      all_goals ((try and_intros) <;> first | exact trivial | omega | (show okDraw _ _ = true; kernel_rfl) | assumption)
    · have c1' : (lessZ (lnIv q w).1 (w - ((hold b : Nat) : Int)) = lessZ (lnIv q w).2 (w - ((hold b : Nat) : Int))) = False := eq_false c1
      have hw4 : w < 4096 + ((hold b : Nat) : Int) := by
        rcases (show w < 4096 + ((hold b : Nat) : Int) ∨ 4096 + ((hold b : Nat) : Int) ≤ w by omega) with h | h
        · exact h
        · exact absurd (lnIv_far hk g8 (by omega) h) c1
      simp only [go_sem, d_ref4_Hold, d_ref2_Norm, d_ref2_Int, d_ref4_Of, d_ref2_Same, d_ref7_Iv, d_i4_Floor, decide_true, decide_false, Bool.not_true, Bool.not_false, zN_val, hq, eC, cr_sz, cr_q, cr_n, cr_d, cr_s, val_limbs, eF, c1', hk, Nat.reduceBEq, Nat.reduceBNe, Nat.reduceLT, Nat.reduceLeDiff, Nat.reduceAdd, Nat.reduceSub, Nat.reduceMul, Nat.reduceEqDiff, Int.reduceNeg, Int.reduceAdd, Int.reduceLT, Int.reduceLE, Int.reduceToNat, ↓reduceIte]
      and_intros
      all_goals try (first | exact trivial | omega | assumption | (show okDraw _ _ = true; kernel_rfl))
      cases g with
      | zero => omega
      | succ g =>
        refine ⟨⟨w + 64, g, by omega, by omega, by omega, ?_⟩, by show g < g + 1; omega, le_of ?_⟩
        · rw [← hv]
          conv => rhs; unfold lnGo
          rw [if_neg c1]
        · simp only [go_sem, leL, Nat.reduceBEq, Nat.reduceBNe, Nat.reduceLT, Nat.reduceLeDiff, Nat.reduceAdd, Nat.reduceSub, Nat.reduceMul, Nat.reduceEqDiff, Int.reduceNeg, Int.reduceAdd, Int.reduceLT, Int.reduceLE, Int.reduceToNat, ↓reduceIte]
          try omega
end Go.Proofs.YtjfaefgabaimaaaGreat
