/- vernierref6: row, Iv, Exp, by the abstract walk. Conditions: powers at most 64 without their sign, at most 10^6 limbs. -/
import Derived.Test.YtjfaefgabaimaaaGreatNc
namespace Go.Proofs.YtjfaefgabaimaaaGreat
open Go.RowKit
set_option linter.unusedSimpArgs false
set_option linter.unusedVariables false

@[go_sem] theorem iv_eta (p : Int × Int) : (p.1, p.2) = p := rfl
def boxIv (id : Nat) (p : Int × Int) : AS := [(id, 0, .av (.one (.cel (.ptr id 0)))), (id, 1, .cv (.bool (zN p.1).s)), (id, 2, .cv (.lim none (zN p.1).n)), (id, 3, .cv (.bool (zN p.2).s)), (id, 4, .cv (.lim none (zN p.2).n))]
def boxIv0 (id : Nat) : AS := [(id, 0, .av (.one (.cel (.ptr id 0)))), (id, 1, .cv (.bool false)), (id, 2, .cv .nil), (id, 3, .cv (.bool false)), (id, 4, .cv .nil)]
attribute [go_sem] boxIv boxIv0
theorem zs_pow {z : Int} {e : Nat} (h1 : -((2 ^ e : Nat) : Int) ≤ z) (h2 : z ≤ ((2 ^ e : Nat) : Int)) : zs z ≤ (e + 1) / 32 + 1 := by
  refine zs_bits ?_
  have h3 : 2 ^ (e + 1) = 2 * 2 ^ e := by rw [Nat.pow_succ, Nat.mul_comm]
  have h4 : 0 < 2 ^ e := Nat.pow_pos (by omega)
  omega
theorem ZZ_pow {a : Int × Int} {e : Nat} (h : P.within a ((2 ^ e : Nat) : Int)) {K : Nat} (hK : (e + 1) / 32 + 1 ≤ K) : ZZ a K :=
  ⟨Nat.le_trans (zs_pow h.1.1 h.1.2) hK, Nat.le_trans (zs_pow h.2.1 h.2.2) hK⟩
theorem within_mono {a : Int × Int} {A B : Int} (h : P.within a A) (hB : A ≤ B) : P.within a B := by unfold P.within at *; omega
theorem num_one (w : Int) : numZ ((1 : Int) : Rat) w = P.oneI (cN w) := by
  have e1 : (((1 : Int) : Rat)).num = 1 := Rat.num_intCast 1
  have e2 : (((1 : Int) : Rat)).den = 1 := Rat.den_intCast 1
  unfold numZ P.oneI riseZ fallZ
  rw [e1, e2, Int.one_mul]
  have e3 : ((1 : Nat) : Int) = 1 := rfl
  rw [e3, Int.ediv_one, Int.ediv_one, Int.neg_neg]
/-- a round of the row -/
structure RwI (W : Nat) (y : Int × Int) where
  i : Nat
  e : Nat
  f : Nat
  t : Int × Int
  s : Int × Int
  D : Int
  h : P.RowAt W i e t s D
  hf : e + 1 ≤ f
  hv : P.rowGo W y f i t s = P.rowIv y W

def d_ref6_row : Den := den2 aIv aInt (fun a b => P.within a ((2 ^ (cN b - 2) : Nat) : Int) ∧ 20 ≤ b ∧ b ≤ 1000000000) fun a b => ivV (P.rowIv a (cN b))
set_option maxRecDepth 100000 in
set_option maxHeartbeats 4000000 in
theorem s_ref6_row : Sound Tryz.prog 81 d_ref6_row := by
  refine sound2 (fz := nofz) (l := [(41, d_ref2_Int), (79, d_i4_Num), (82, d_i4_Prod), (119, d_i4_By), (100, d_i4_Sum), (120, d_i4_Most), (77, d_i4_Whole), (78, d_i4_Cmp), (121, d_i4_Wide)]) TT_ok ⟨s_ref2_Int, s_i4_Num, s_i4_Prod, s_i4_By, s_i4_Sum, s_i4_Most, s_i4_Whole, s_i4_Cmp, s_i4_Wide, trivial⟩ mixed Tryz.func81 Tryz.ntmps81 Tryz.results81 Tryz.call81 rfl (by omega) (fun _ _ => rfl) ?_
  intro a b hp ha hb
  rw [codeK_start]
  obtain ⟨hy, h1, h2⟩ := hp
  have hW : cN b ≤ 4096 := by unfold cN; omega
  have hW2 : 20 ≤ cN b := by unfold cN; omega
  have zy : ZZ a 100000000 := ZZ_pow hy (by omega)
  have q1 : rs ((1 : Int) : Rat) ≤ 2 := rsb_int (by omega) (by omega) (by omega)
  have q2 : (cr ((1 : Int) : Rat)).sz ≤ 1000000 := by rw [cr_sz]; omega
  have n1 := num_one b
  simp only [go_sem, d_ref2_Int, d_i4_Num, d_i4_Prod, d_i4_By, d_i4_Sum, d_i4_Most, d_i4_Whole, d_i4_Cmp, d_i4_Wide, decide_true, decide_false, Bool.not_true, Bool.not_false, zN_val, n1, Nat.reduceBEq, Nat.reduceBNe, Nat.reduceLT, Nat.reduceLeDiff, Nat.reduceAdd, Nat.reduceSub, Nat.reduceMul, Nat.reduceEqDiff, Int.reduceNeg, Int.reduceAdd, Int.reduceLT, Int.reduceLE, Int.reduceToNat, ↓reduceIte]
  and_intros
  all_goals try (first | exact trivial | omega | assumption | (show okDraw _ _ = true; kernel_rfl))
  refine codeK_loop (fun x : RwI (cN b) a => ((8, 0, .av (intV ((x.i : Nat)))) : Nat × Nat × RV) :: ((1, 0, .av (intV (b))) : Nat × Nat × RV) :: (boxIv 6 x.s ++ (boxIv 7 x.t ++ (boxIv 2 a ++ boxIv0 4)))) (fun x => x.e) ⟨1, cN b, cN b + 5, P.oneI (cN b), P.oneI (cN b), 0, P.row_start (by omega), by omega, rfl⟩ (le_of ?_) ?_
  · simp only [go_sem, leL, Nat.reduceBEq, Nat.reduceBNe, Nat.reduceLT, Nat.reduceLeDiff, Nat.reduceAdd, Nat.reduceSub, Nat.reduceMul, Nat.reduceEqDiff, Int.reduceNeg, Int.reduceAdd, Int.reduceLT, Int.reduceLE, Int.reduceToNat, ↓reduceIte, Int.natCast_one, Int.cast_ofNat_Int]
  · rintro ⟨i, e, g, t, s, D, hR, hg, hv⟩
    obtain ⟨⟨D2, d0, d1, dw, d2, d3, d4, d5⟩, hnx⟩ := P.row_step (by omega) hy hR
    have i1 := hR.i1
    have ie := hR.ie
    have te := hR.te
    have e2 := hR.e2
    obtain ⟨nx1, -⟩ := P.next_in (by omega) hy i1 e2 te
    have hp1 : P.within (P.iprod t a (cN b)) ((2 ^ (e - 2) : Nat) : Int) := by
      refine P.iprod_in te hy ?_
      rw [← P.two_add, ← P.two_add, show e + (cN b - 2) = e - 2 + cN b by omega]
      exact Int.le_refl _
    have zt : ZZ t 100000000 := ZZ_pow te (by omega)
    have zp : ZZ (P.iprod t a (cN b)) 100000000 := ZZ_pow hp1 (by omega)
    have zu : ZZ (P.iby (P.iprod t a (cN b)) i) 100000000 := ZZ_pow nx1 (by omega)
    have hWp := P.pow_pos' (cN b)
    have t1 := P.two_up (cN b)
    have t2 := P.two_up (cN b + 1)
    have zs1 : ZZ s 100000000 := by
      have dd := hR.dd
      have s1 := hR.s1
      have s2 := hR.s2
      have hez := P.pow_pos' e
      refine ZZ_pow (e := cN b + 1 + 1) ?_ (by omega)
      unfold P.within
      rcases dd with ⟨_, _, rfl⟩ | ⟨_, _⟩ <;> omega
    have zs2 : ZZ (P.isum s (P.iby (P.iprod t a (cN b)) i)) 100000000 := ZZ_pow (e := cN b + 1 + 1) (within_mono dw (by omega)) (by omega)
    have zm : zs (P.imost (P.iby (P.iprod t a (cN b)) i)) ≤ 900000000 := by
      have m1 := P.imost_le nx1
      have m0 : 0 ≤ P.imost (P.iby (P.iprod t a (cN b)) i) := by unfold P.imost; split <;> omega
      have := zs_pow (e := e - 2) (by omega) m1
      omega
    have z2 : zs 2 ≤ 900000000 := by
      have := zs_bits (z := 2) (B := 64) (by decide)
      omega
    have zz := (⟨zt.1, zt.2, zp.1, zp.2, zu.1, zu.2, zs1.1, zs1.2, zs2.1, zs2.2, zy.1, zy.2⟩ : _ ∧ _ ∧ _ ∧ _ ∧ _ ∧ _ ∧ _ ∧ _ ∧ _ ∧ _ ∧ _ ∧ _)
    obtain ⟨a1, a2, a3, a4, a5, a6, a7, a8, a9, a10, a11, a12⟩ := zz
    cases g with
    | zero => omega
    | succ g =>
      by_cases hm : P.imost (P.iby (P.iprod t a (cN b)) i) ≤ 2
      · have hm' : (P.imost (P.iby (P.iprod t a (cN b)) i) ≤ 2) = True := eq_true hm
        have ev : P.rowIv a (cN b) = P.iwide (P.isum s (P.iby (P.iprod t a (cN b)) i)) 4 := by
          rw [← hv]
          unfold P.rowGo
          rw [if_pos hm]
        simp only [go_sem, d_ref2_Int, d_i4_Num, d_i4_Prod, d_i4_By, d_i4_Sum, d_i4_Most, d_i4_Whole, d_i4_Cmp, d_i4_Wide, decide_true, decide_false, Bool.not_true, Bool.not_false, zN_val, hm', ev, Int.toNat_natCast, Nat.reduceBEq, Nat.reduceBNe, Nat.reduceLT, Nat.reduceLeDiff, Nat.reduceAdd, Nat.reduceSub, Nat.reduceMul, Nat.reduceEqDiff, Int.reduceNeg, Int.reduceAdd, Int.reduceLT, Int.reduceLE, Int.reduceToNat, ↓reduceIte]
        all_goals ((try and_intros) <;> first | exact trivial | omega | (show okDraw _ _ = true; kernel_rfl) | assumption)
      · have hm' : (P.imost (P.iby (P.iprod t a (cN b)) i) ≤ 2) = False := eq_false hm
        obtain ⟨e', D3, he, hR2⟩ := hnx hm
        simp only [go_sem, d_ref2_Int, d_i4_Num, d_i4_Prod, d_i4_By, d_i4_Sum, d_i4_Most, d_i4_Whole, d_i4_Cmp, d_i4_Wide, decide_true, decide_false, Bool.not_true, Bool.not_false, zN_val, hm', Int.toNat_natCast, Nat.reduceBEq, Nat.reduceBNe, Nat.reduceLT, Nat.reduceLeDiff, Nat.reduceAdd, Nat.reduceSub, Nat.reduceMul, Nat.reduceEqDiff, Int.reduceNeg, Int.reduceAdd, Int.reduceLT, Int.reduceLE, Int.reduceToNat, ↓reduceIte]
        and_intros
        all_goals try (first | exact trivial | omega | assumption | (show okDraw _ _ = true; kernel_rfl))
        refine ⟨⟨i + 1, e', g, _, _, D3, hR2, by omega, ?_⟩, he, le_of ?_⟩
        · rw [← hv]
          conv => rhs; unfold P.rowGo
          rw [if_neg hm]
        · simp only [go_sem, leL, Nat.reduceBEq, Nat.reduceBNe, Nat.reduceLT, Nat.reduceLeDiff, Nat.reduceAdd, Nat.reduceSub, Nat.reduceMul, Nat.reduceEqDiff, Int.reduceNeg, Int.reduceAdd, Int.reduceLT, Int.reduceLE, Int.reduceToNat, ↓reduceIte]
          try omega

/-- x by 256 -/
def qsm (q : Rat) : Rat := q * qv false 1 256
theorem quarter {q : Rat} (h1 : -64 ≤ q) (h2 : q ≤ 64) : 4 * (qsm q).num ≤ (qsm q).den ∧ -((qsm q).den : Int) ≤ 4 * (qsm q).num := by
  have e : qv false 1 256 = (1 : Rat) / 256 := by decide +kernel
  have h3 : qsm q ≤ 1 / 4 := by unfold qsm; rw [e]; grind
  have h4 : -(1 / 4) ≤ qsm q := by unfold qsm; rw [e]; grind
  generalize qsm q = r at *
  rw [Rat.le_iff] at h3 h4
  have e1 : (1 / 4 : Rat).num = 1 := by decide +kernel
  have e2 : (1 / 4 : Rat).den = 4 := by decide +kernel
  have e3 : (-(1 / 4) : Rat).num = -1 := by decide +kernel
  have e4 : (-(1 / 4) : Rat).den = 4 := by decide +kernel
  rw [e1, e2] at h3
  rw [e3, e4] at h4
  omega
theorem num_in {q : Rat} {w : Int} (h1 : -64 ≤ q) (h2 : q ≤ 64) (hw : 20 ≤ cN w) : P.within (numZ (qsm q) w) ((2 ^ (cN w - 2) : Nat) : Int) := by
  obtain ⟨h3, h4⟩ := quarter h1 h2
  have hd : 0 < (qsm q).den := (qsm q).den_pos
  have e : ((2 ^ cN w : Nat) : Int) = 4 * ((2 ^ (cN w - 2) : Nat) : Int) := by
    have := P.two_add 2 (cN w - 2)
    rw [show 2 + (cN w - 2) = cN w by omega] at this
    exact this
  have hz := P.pow_pos' (cN w - 2)
  unfold numZ fallZ riseZ
  rw [e]
  generalize ((2 ^ (cN w - 2) : Nat) : Int) = u at *
  generalize (qsm q).num = a at *
  generalize (qsm q).den = d at *
  have k1 : a * (4 * u) ≤ u * (d : Int) := by
    have := Int.mul_le_mul_of_nonneg_left h3 (show 0 ≤ u by omega)
    have e2 : u * (4 * a) = a * (4 * u) := by grind
    omega
  have k2 : -(u * (d : Int)) ≤ a * (4 * u) := by
    have := Int.mul_le_mul_of_nonneg_left h4 (show 0 ≤ u by omega)
    have e2 : u * (4 * a) = a * (4 * u) := by grind
    have e3 : u * -(d : Int) = -(u * (d : Int)) := by grind
    omega
  have p1 := P.idiv_in (x := a * (4 * u)) hd k2 k1 (Int.le_refl _)
  have p2 := P.idiv_in (x := -(a * (4 * u))) hd (by omega) (by omega) (Int.le_refl (u * (d : Int)))
  unfold P.within
  simp only [fallZ]
  omega
def ivR (q : Rat) (w : Int) : Int × Int := P.rowIv (numZ (qsm q) (w + 130)) (cN (w + 130))
def ivE (q : Rat) (w : Int) : Int × Int := P.iback (P.sqI (cN (w + 130)) (ivR q w) 8) (cN 130)
def farB (q : Rat) : Bool := decide (q < ((-64 : Int) : Rat)) || decide (((64 : Int) : Rat) < q)
theorem far_in {q : Rat} (h : farB q = false) : -64 ≤ q ∧ q ≤ 64 := by
  unfold farB at h
  rw [Bool.or_eq_false_iff] at h
  have h1 := of_decide_eq_false h.1
  have h2 := of_decide_eq_false h.2
  exact ⟨Rat.not_lt.1 h1, Rat.not_lt.1 h2⟩
theorem ivR_btw {q : Rat} {w : Int} (h : farB q = false) (hw : 20 ≤ w) : P.btw (ivR q w) ((2 ^ (cN (w + 130) - 1) : Nat) : Int) (1376 * ((2 ^ (cN (w + 130) - 10) : Nat) : Int)) := by
  obtain ⟨h1, h2⟩ := far_in h
  exact P.rowIv_btw (by unfold cN; omega) (num_in h1 h2 (by unfold cN; omega))
theorem ivR_in {q : Rat} {w : Int} (h : farB q = false) (hw : 20 ≤ w) : P.within (ivR q w) (1376 * ((2 ^ (cN (w + 130) - 10) : Nat) : Int)) := P.btw_in (Int.le_of_lt (P.pow_pos' _)) (ivR_btw h hw)
/-- beyond 4096 digits all is certain -/
theorem ivE_far {q : Rat} {w p : Int} (h : farB q = false) (h0 : 0 ≤ p) (hw : 4096 + p ≤ w) : lessZ (ivE q w).1 (w - p) = lessZ (ivE q w).2 (w - p) := by
  have hW : cN (w + 130) = 4096 := by unfold cN; omega
  have hc : cN (w - p) = 4096 := by unfold cN; omega
  have h1 := P.sqI_btw (by omega) (ivR_btw (w := w) h (by omega)) 8 (by omega)
  have h2 := P.ivback (by omega) h1
  have e : ∀ z : Int, 0 ≤ z → z ≤ ((2 ^ (cN (w + 130) - 20) : Nat) : Int) → lessZ z (w - p) = 0 := fun z z0 z1 => P.iless_zero (m := cN (w + 130) - 20) (n := cN (w - p)) z0 z1 (by omega)
  obtain ⟨⟨a1, a2⟩, a3, a4⟩ := h2
  have e5 : ivE q w = P.iback (P.sqI (cN (w + 130)) (ivR q w) 8) 130 := rfl
  rw [e5, e _ a1 a2, e _ a3 a4]
def expGo (q : Rat) (p : Int) : Nat → Int → BB
  | 0, w => floorB (ivE q w) w p
  | f + 1, w => if lessZ (ivE q w).1 (w - p) = lessZ (ivE q w).2 (w - p) then floorB (ivE q w) w p else expGo q p f (w + 64)
def expE (q : Rat) (p : Int) : BB := expGo q p 200 (p + 20)
structure ExI (q : Rat) (p : Int) where
  w : Int
  f : Nat
  w0 : p + 20 ≤ w
  w1 : w ≤ 100000
  hf : 4096 + p ≤ w + 64 * (f : Int)
  hv : expGo q p f w = expE q p

def d_ref6_far : Den := den1 aRat (fun a => a.sz ≤ 1000000) fun a => boolV (farB a.q)
set_option maxRecDepth 100000 in
set_option maxHeartbeats 4000000 in
theorem s_ref6_far : Sound Tryz.prog 37 d_ref6_far := by
  refine sound1 (fz := nofz) (l := [(41, d_ref2_Int), (13, d_ref2_Cmp)]) TT_ok ⟨s_ref2_Int, s_ref2_Cmp, trivial⟩ mixed Tryz.func37 Tryz.ntmps37 Tryz.results37 Tryz.call37 rfl (by omega) (fun _ => rfl) ?_
  intro a hp ha
  rw [codeK_start]
  have q1 : rs a.q ≤ 1000000 := rs_ok ha hp (by omega)
  have t1 : rs ((-64 : Int) : Rat) ≤ 2 := rsb_int (by omega) (by omega) (by omega)
  have t2 : rs ((64 : Int) : Rat) ≤ 2 := rsb_int (by omega) (by omega) (by omega)
  by_cases c1 : a.q < ((-64 : Int) : Rat)
  · have d1 : (a.q < ((-64 : Int) : Rat)) = True := eq_true c1
    simp only [go_sem, d_ref2_Int, d_ref2_Cmp, decide_true, decide_false, Bool.not_true, Bool.not_false, zN_val, int0, int1, farB, Bool.or_true, Bool.true_or, Bool.or_false, Bool.or_self, d1, Nat.reduceBEq, Nat.reduceBNe, Nat.reduceLT, Nat.reduceLeDiff, Nat.reduceAdd, Nat.reduceSub, Nat.reduceMul, Nat.reduceEqDiff, Int.reduceNeg, Int.reduceAdd, Int.reduceLT, Int.reduceLE, Int.reduceToNat, ↓reduceIte]
    all_goals ((try and_intros) <;> first | exact trivial | omega | (show okDraw _ _ = true; kernel_rfl) | assumption)
  · have d1 : (a.q < ((-64 : Int) : Rat)) = False := eq_false c1
    by_cases c2 : ((64 : Int) : Rat) < a.q
    · have d2 : (((64 : Int) : Rat) < a.q) = True := eq_true c2
      simp only [go_sem, d_ref2_Int, d_ref2_Cmp, decide_true, decide_false, Bool.not_true, Bool.not_false, zN_val, int0, int1, farB, Bool.or_true, Bool.true_or, Bool.or_false, Bool.or_self, d1, d2, Nat.reduceBEq, Nat.reduceBNe, Nat.reduceLT, Nat.reduceLeDiff, Nat.reduceAdd, Nat.reduceSub, Nat.reduceMul, Nat.reduceEqDiff, Int.reduceNeg, Int.reduceAdd, Int.reduceLT, Int.reduceLE, Int.reduceToNat, ↓reduceIte]
      all_goals ((try and_intros) <;> first | exact trivial | omega | (show okDraw _ _ = true; kernel_rfl) | assumption)
    · have d2 : (((64 : Int) : Rat) < a.q) = False := eq_false c2
      simp only [go_sem, d_ref2_Int, d_ref2_Cmp, decide_true, decide_false, Bool.not_true, Bool.not_false, zN_val, int0, int1, farB, Bool.or_true, Bool.true_or, Bool.or_false, Bool.or_self, d1, d2, Nat.reduceBEq, Nat.reduceBNe, Nat.reduceLT, Nat.reduceLeDiff, Nat.reduceAdd, Nat.reduceSub, Nat.reduceMul, Nat.reduceEqDiff, Int.reduceNeg, Int.reduceAdd, Int.reduceLT, Int.reduceLE, Int.reduceToNat, ↓reduceIte]
      all_goals ((try and_intros) <;> first | exact trivial | omega | (show okDraw _ _ = true; kernel_rfl) | assumption)

def d_ref6_zero : Den := den0 (ballV (bb 0 0))
set_option maxRecDepth 100000 in
set_option maxHeartbeats 4000000 in
theorem s_ref6_zero : Sound Tryz.prog 38 d_ref6_zero := by
  refine sound0 (fz := nofz) (l := [(41, d_ref2_Int), (40, d_ref4_Of)]) TT_ok ⟨s_ref2_Int, s_ref4_Of, trivial⟩ mixed Tryz.func38 Tryz.ntmps38 Tryz.results38 Tryz.call38 rfl rfl ?_
  rw [codeK_start]
  have t1 : rs (0 : Rat) ≤ 1 := rs0 (by omega)
  simp only [go_sem, d_ref2_Int, d_ref4_Of, decide_true, decide_false, Bool.not_true, Bool.not_false, zN_val, int0, Nat.reduceBEq, Nat.reduceBNe, Nat.reduceLT, Nat.reduceLeDiff, Nat.reduceAdd, Nat.reduceSub, Nat.reduceMul, Nat.reduceEqDiff, Int.reduceNeg, Int.reduceAdd, Int.reduceLT, Int.reduceLE, Int.reduceToNat, ↓reduceIte]
  all_goals ((try and_intros) <;> first | exact trivial | omega | (show okDraw _ _ = true; kernel_rfl) | assumption)

def d_ref6_Iv : Den := den2 aRat aInt (fun a b => a.sz ≤ 1000 ∧ farB a.q = false ∧ 20 ≤ b ∧ b ≤ 100000) fun a b => ivV (ivE a.q b)
set_option maxRecDepth 100000 in
set_option maxHeartbeats 4000000 in
theorem s_ref6_Iv : Sound Tryz.prog 43 d_ref6_Iv := by
  refine sound2 (fz := nofz) (l := [(80, d_ref1_ShiftC), (32, d_ref2_Of), (18, d_ref2_Mul), (79, d_i4_Num), (81, d_ref6_row), (82, d_i4_Prod), (83, d_i4_Back)]) TT_ok ⟨s_ref1_ShiftC, s_ref2_Of, s_ref2_Mul, s_i4_Num, s_ref6_row, s_i4_Prod, s_i4_Back, trivial⟩ mixed Tryz.func43 Tryz.ntmps43 Tryz.results43 Tryz.call43 rfl (by omega) (fun _ _ => rfl) ?_
  intro a b hp ha hb
  rw [codeK_start]
  obtain ⟨h1, h2, h3, h4⟩ := hp
  have q1 : rs a.q ≤ 1000000 := rs_ok ha (by omega) (by omega)
  have hW : cN (b + 130) ≤ 4096 := by unfold cN; omega
  have hW2 : 20 ≤ cN (b + 130) := by unfold cN; omega
  obtain ⟨f1, f2⟩ := far_in h2
  have hy := num_in (w := b + 130) f1 f2 hW2
  have y1 := hy.1.1
  have y2 := hy.1.2
  have y3 := hy.2.1
  have y4 := hy.2.2
  have s8 : shiftN (val [1]) (clampN 8) = 256 := by decide +kernel
  have s8b : shiftN 1 (clampN 8) = 256 := by decide +kernel
  have t2 : rs (qv false 1 256) ≤ 2 := by decide +kernel
  have t2' : (cr (qv false 1 256)).sz ≤ 10000000000 := by rw [cr_sz]; omega
  have t3 : rs (qsm a.q) ≤ 1000000 := by
    have q0 : rs a.q ≤ 1000 := rs_ok ha h1 (by omega)
    exact rsb_mul q0 t2 (by omega)
  have t4 : (cr (qsm a.q)).sz ≤ 1000000 := by rw [cr_sz]; exact t3
  have eq1 : a.q * qv false 1 256 = qsm a.q := rfl
  have er : P.rowIv (numZ (qsm a.q) (b + 130)) (cN (b + 130)) = ivR a.q b := rfl
  have l256 : (limbs 256).length ≤ 100 := by decide +kernel
  have hin := ivR_in (w := b) h2 h3
  have hsq : ∀ k, k < 9 → ZZ (P.sqI (cN (b + 130)) (ivR a.q b) k) 100000000 := fun k hk => ZZ_pow (P.sqI_pow hW2 hin hk) (by omega)
  simp only [go_sem, d_ref1_ShiftC, d_ref2_Of, d_ref2_Mul, d_i4_Num, d_ref6_row, d_i4_Prod, d_i4_Back, decide_true, decide_false, Bool.not_true, Bool.not_false, zN_val, s8b, s8, val_1, val_limbs, eq1, er, Nat.reduceBEq, Nat.reduceBNe, Nat.reduceLT, Nat.reduceLeDiff, Nat.reduceAdd, Nat.reduceSub, Nat.reduceMul, Nat.reduceEqDiff, Int.reduceNeg, Int.reduceAdd, Int.reduceLT, Int.reduceLE, Int.reduceToNat, ↓reduceIte]
  and_intros
  all_goals try (first | exact trivial | omega | assumption | (show okDraw _ _ = true; kernel_rfl))
  refine codeK_loop (fun i : { i : Nat // i ≤ 8 } => ((9, 0, .av (intV ((i.1 : Nat)))) : Nat × Nat × RV) :: ((6, 0, .av (intV ((8 : Int)))) : Nat × Nat × RV) :: ((5, 0, .av (intV ((130 : Int)))) : Nat × Nat × RV) :: ((1, 0, .av (intV (b))) : Nat × Nat × RV) :: (boxIv 8 (P.sqI (cN (b + 130)) (ivR a.q b) i.1) ++ boxIv0 4)) (fun i => 8 - i.1) ⟨0, by omega⟩ (le_of ?_) ?_
  · simp only [go_sem, leL, P.sqI, Nat.reduceBEq, Nat.reduceBNe, Nat.reduceLT, Nat.reduceLeDiff, Nat.reduceAdd, Nat.reduceSub, Nat.reduceMul, Nat.reduceEqDiff, Int.reduceNeg, Int.reduceAdd, Int.reduceLT, Int.reduceLE, Int.reduceToNat, ↓reduceIte, Int.natCast_zero, Int.ofNat_zero, Int.cast_ofNat_Int]
  · rintro ⟨i, hi0⟩
    have hi0 : i ≤ 8 := hi0
    have z1 := hsq i (by omega)
    have z1a := z1.1
    have z1b := z1.2
    by_cases hi : i < 8
    · have hit : (((i : Nat) : Int) < 8) = True := eq_true (by omega)
      simp only [go_sem, d_ref1_ShiftC, d_ref2_Of, d_ref2_Mul, d_i4_Num, d_ref6_row, d_i4_Prod, d_i4_Back, decide_true, decide_false, Bool.not_true, Bool.not_false, zN_val, hit, Nat.reduceBEq, Nat.reduceBNe, Nat.reduceLT, Nat.reduceLeDiff, Nat.reduceAdd, Nat.reduceSub, Nat.reduceMul, Nat.reduceEqDiff, Int.reduceNeg, Int.reduceAdd, Int.reduceLT, Int.reduceLE, Int.reduceToNat, ↓reduceIte]
      and_intros
      all_goals try (first | exact trivial | omega | assumption | (show okDraw _ _ = true; kernel_rfl))
      refine ⟨⟨i + 1, by omega⟩, by show 8 - (i + 1) < 8 - i; omega, le_of ?_⟩
      simp only [go_sem, leL, P.sqI, Nat.reduceBEq, Nat.reduceBNe, Nat.reduceLT, Nat.reduceLeDiff, Nat.reduceAdd, Nat.reduceSub, Nat.reduceMul, Nat.reduceEqDiff, Int.reduceNeg, Int.reduceAdd, Int.reduceLT, Int.reduceLE, Int.reduceToNat, ↓reduceIte]
      try omega
    · have hit : (((i : Nat) : Int) < 8) = False := eq_false (by omega)
      have e : i = 8 := by omega
      subst e
      simp only [go_sem, d_ref1_ShiftC, d_ref2_Of, d_ref2_Mul, d_i4_Num, d_ref6_row, d_i4_Prod, d_i4_Back, decide_true, decide_false, Bool.not_true, Bool.not_false, zN_val, hit, ivE, Int.lt_irrefl, Int.cast_ofNat_Int, Nat.reduceBEq, Nat.reduceBNe, Nat.reduceLT, Nat.reduceLeDiff, Nat.reduceAdd, Nat.reduceSub, Nat.reduceMul, Nat.reduceEqDiff, Int.reduceNeg, Int.reduceAdd, Int.reduceLT, Int.reduceLE, Int.reduceToNat, ↓reduceIte]
      all_goals ((try and_intros) <;> first | exact trivial | omega | (show okDraw _ _ = true; kernel_rfl) | assumption)

def exp6B (q : Rat) (p : Int) : BB := if farB q = true then bb 0 0 else if q = 0 then bb 1 1 else expE q ((hold p : Nat) : Int)
theorem ivE_size {q : Rat} {w : Int} (h : farB q = false) (hw : 20 ≤ w) : ZZ (ivE q w) 100000000 := by
  have hW : cN (w + 130) ≤ 4096 := by unfold cN; omega
  have hW2 : 20 ≤ cN (w + 130) := by unfold cN; omega
  have h1 : ZZ (P.sqI (cN (w + 130)) (ivR q w) 8) 1000 := ZZ_pow (P.sqI_pow hW2 (ivR_in h hw) (by omega)) (by omega)
  have h2 := zs_less (P.sqI (cN (w + 130)) (ivR q w) 8).1 130
  have h3 := zs_more (P.sqI (cN (w + 130)) (ivR q w) 8).2 130
  obtain ⟨h4, h5⟩ := h1
  have e : ivE q w = (lessZ (P.sqI (cN (w + 130)) (ivR q w) 8).1 130, moreZ (P.sqI (cN (w + 130)) (ivR q w) 8).2 130) := rfl
  rw [e]
  exact ⟨by simp only; omega, by simp only; omega⟩

def d_ref6_Exp : Den := den2 aRat aInt (fun a _ => a.sz ≤ 1000) fun a b => ballOkV (exp6B a.q b) (!farB a.q)
set_option maxRecDepth 100000 in
set_option maxHeartbeats 4000000 in
theorem s_ref6_Exp : Sound Tryz.prog 9 d_ref6_Exp := by
  refine sound2 (fz := nofz) (l := [(36, d_ref4_Hold), (37, d_ref6_far), (38, d_ref6_zero), (39, d_ref2_Zero), (41, d_ref2_Int), (40, d_ref4_Of), (43, d_ref6_Iv), (42, d_i4_Floor)]) TT_ok ⟨s_ref4_Hold, s_ref6_far, s_ref6_zero, s_ref2_Zero, s_ref2_Int, s_ref4_Of, s_ref6_Iv, s_i4_Floor, trivial⟩ mixed Tryz.func9 Tryz.ntmps9 Tryz.results9 Tryz.call9 rfl (by omega) (fun _ _ => rfl) ?_
  intro a b hp ha hb
  rw [codeK_start]
  have q1 : rs a.q ≤ 1000000 := rs_ok ha (by omega) (by omega)
  have t0 : rs (0 : Rat) ≤ 1 := rs0 (by omega)
  have t1 : rs (1 : Rat) ≤ 1 := rs1 (by omega)
  have hl := hold_le b
  by_cases h1 : farB a.q = true
  · have e1 : exp6B a.q b = bb 0 0 := if_pos h1
    simp only [go_sem, d_ref4_Hold, d_ref6_far, d_ref6_zero, d_ref2_Zero, d_ref2_Int, d_ref4_Of, d_ref6_Iv, d_i4_Floor, decide_true, decide_false, Bool.not_true, Bool.not_false, zN_val, h1, e1, Nat.reduceBEq, Nat.reduceBNe, Nat.reduceLT, Nat.reduceLeDiff, Nat.reduceAdd, Nat.reduceSub, Nat.reduceMul, Nat.reduceEqDiff, Int.reduceNeg, Int.reduceAdd, Int.reduceLT, Int.reduceLE, Int.reduceToNat, ↓reduceIte]
    all_goals ((try and_intros) <;> first | exact trivial | omega | (show okDraw _ _ = true; kernel_rfl) | assumption)
  · have h1' : farB a.q = false := by simpa using h1
    by_cases h2 : a.q = 0
    · have h2' : (a.q = 0) = True := eq_true h2
      have e1 : exp6B a.q b = bb 1 1 := by unfold exp6B; rw [if_neg h1, if_pos h2]
      simp only [go_sem, d_ref4_Hold, d_ref6_far, d_ref6_zero, d_ref2_Zero, d_ref2_Int, d_ref4_Of, d_ref6_Iv, d_i4_Floor, decide_true, decide_false, Bool.not_true, Bool.not_false, zN_val, h1', h2', e1, int1, Nat.reduceBEq, Nat.reduceBNe, Nat.reduceLT, Nat.reduceLeDiff, Nat.reduceAdd, Nat.reduceSub, Nat.reduceMul, Nat.reduceEqDiff, Int.reduceNeg, Int.reduceAdd, Int.reduceLT, Int.reduceLE, Int.reduceToNat, ↓reduceIte]
      all_goals ((try and_intros) <;> first | exact trivial | omega | (show okDraw _ _ = true; kernel_rfl) | assumption)
    · have h2' : (a.q = 0) = False := eq_false h2
      have e1 : exp6B a.q b = expE a.q ((hold b : Nat) : Int) := by unfold exp6B; rw [if_neg h1, if_neg h2]
      simp only [go_sem, d_ref4_Hold, d_ref6_far, d_ref6_zero, d_ref2_Zero, d_ref2_Int, d_ref4_Of, d_ref6_Iv, d_i4_Floor, decide_true, decide_false, Bool.not_true, Bool.not_false, zN_val, h1', h2', e1, Nat.reduceBEq, Nat.reduceBNe, Nat.reduceLT, Nat.reduceLeDiff, Nat.reduceAdd, Nat.reduceSub, Nat.reduceMul, Nat.reduceEqDiff, Int.reduceNeg, Int.reduceAdd, Int.reduceLT, Int.reduceLE, Int.reduceToNat, ↓reduceIte]
      and_intros
      all_goals try (first | exact trivial | omega | assumption | (show okDraw _ _ = true; kernel_rfl))
      refine codeK_loop (fun x : ExI a.q ((hold b : Nat) : Int) => ((6, 0, .av (intV (x.w))) : Nat × Nat × RV) :: ((1, 0, .av (intV (((hold b : Nat) : Int)))) : Nat × Nat × RV) :: (boxRat 2 a ++ (boxBall 4 ++ [(5, 0, .av (boolV false))]))) (fun x => x.f) ⟨((hold b : Nat) : Int) + 20, 200, by omega, by omega, by omega, rfl⟩ (le_of ?_) ?_
      · simp only [go_sem, leL, Nat.reduceBEq, Nat.reduceBNe, Nat.reduceLT, Nat.reduceLeDiff, Nat.reduceAdd, Nat.reduceSub, Nat.reduceMul, Nat.reduceEqDiff, Int.reduceNeg, Int.reduceAdd, Int.reduceLT, Int.reduceLE, Int.reduceToNat, ↓reduceIte]
      · rintro ⟨w, g, w0, w1, hg, hv⟩
        have zE := ivE_size (w := w) h1' (by omega)
        have zEa := zE.1
        have zEb := zE.2
        by_cases c1 : lessZ (ivE a.q w).1 (w - ((hold b : Nat) : Int)) = lessZ (ivE a.q w).2 (w - ((hold b : Nat) : Int))
        · have c1' : (lessZ (ivE a.q w).1 (w - ((hold b : Nat) : Int)) = lessZ (ivE a.q w).2 (w - ((hold b : Nat) : Int))) = True := eq_true c1
          have ev : expE a.q ((hold b : Nat) : Int) = floorB (ivE a.q w) w ((hold b : Nat) : Int) := by
            rw [← hv]
            cases g with
            | zero => rfl
            | succ g => unfold expGo; rw [if_pos c1]
          simp only [go_sem, d_ref4_Hold, d_ref6_far, d_ref6_zero, d_ref2_Zero, d_ref2_Int, d_ref4_Of, d_ref6_Iv, d_i4_Floor, decide_true, decide_false, Bool.not_true, Bool.not_false, zN_val, h1', h2', c1', e1, ev, Nat.reduceBEq, Nat.reduceBNe, Nat.reduceLT, Nat.reduceLeDiff, Nat.reduceAdd, Nat.reduceSub, Nat.reduceMul, Nat.reduceEqDiff, Int.reduceNeg, Int.reduceAdd, Int.reduceLT, Int.reduceLE, Int.reduceToNat, ↓reduceIte]
          all_goals ((try and_intros) <;> first | exact trivial | omega | (show okDraw _ _ = true; kernel_rfl) | assumption)
        · have c1' : (lessZ (ivE a.q w).1 (w - ((hold b : Nat) : Int)) = lessZ (ivE a.q w).2 (w - ((hold b : Nat) : Int))) = False := eq_false c1
          have hw4 : w < 4096 + ((hold b : Nat) : Int) := by
            rcases (show w < 4096 + ((hold b : Nat) : Int) ∨ 4096 + ((hold b : Nat) : Int) ≤ w by omega) with h | h
            · exact h
            · exact absurd (ivE_far h1' (by omega) h) c1
          simp only [go_sem, d_ref4_Hold, d_ref6_far, d_ref6_zero, d_ref2_Zero, d_ref2_Int, d_ref4_Of, d_ref6_Iv, d_i4_Floor, decide_true, decide_false, Bool.not_true, Bool.not_false, zN_val, h1', h2', c1', Nat.reduceBEq, Nat.reduceBNe, Nat.reduceLT, Nat.reduceLeDiff, Nat.reduceAdd, Nat.reduceSub, Nat.reduceMul, Nat.reduceEqDiff, Int.reduceNeg, Int.reduceAdd, Int.reduceLT, Int.reduceLE, Int.reduceToNat, ↓reduceIte]
          and_intros
          all_goals try (first | exact trivial | omega | assumption | (show okDraw _ _ = true; kernel_rfl))
          cases g with
          | zero => omega
          | succ g =>
            refine ⟨⟨w + 64, g, by omega, by omega, by omega, ?_⟩, by show g < g + 1; omega, le_of ?_⟩
            · rw [← hv]
              conv => rhs; unfold expGo
              rw [if_neg c1]
            · simp only [go_sem, leL, Nat.reduceBEq, Nat.reduceBNe, Nat.reduceLT, Nat.reduceLeDiff, Nat.reduceAdd, Nat.reduceSub, Nat.reduceMul, Nat.reduceEqDiff, Int.reduceNeg, Int.reduceAdd, Int.reduceLT, Int.reduceLE, Int.reduceToNat, ↓reduceIte]
              try omega

end Go.Proofs.YtjfaefgabaimaaaGreat
