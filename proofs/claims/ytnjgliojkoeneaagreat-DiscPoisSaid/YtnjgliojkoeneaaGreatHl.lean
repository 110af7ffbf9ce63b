/- vernierref13: off, iv, Pois, PoisCdf; vernierref10.Hold; vernierref4.Good, Ball, by the abstract walk. Conditions: counts up to 100, means of at most 1000 limbs, at most 1000 bits. vernierref13: Pois, PoisCdf, by the abstract walk. Conditions: counts up to 100 or above 1024, means of at most 1000 limbs. What the law DiscPois asks: both balls hold the same number, and the program's is narrow. Conditions: counts up to 60, at most 80 bits. -/
import Derived.Test.YtnjgliojkoeneaaGreatHk
import Derived.Test.YtnjgliojkoeneaaGreatNc
import Derived.Test.YtnjgliojkoeneaaGreatPi
import Derived.Test.YtnjgliojkoeneaaGreatBb
import Derived.Test.YtnjgliojkoeneaaGreatBi
import Derived.Test.YtnjgliojkoeneaaGreatBj
namespace Go.Proofs.YtnjgliojkoeneaaGreat
open Go.RowKit
set_option linter.unusedSimpArgs false
set_option linter.unusedVariables false
def d_ref10_Hold : Den := den1 aInt (fun _ => True) fun a => intV ((tP a : Nat) : Int)
set_option maxRecDepth 100000 in
set_option maxHeartbeats 4000000 in
theorem s_ref10_Hold : Sound Tryz.prog 15 d_ref10_Hold := by
  refine sound1 (fz := nofz) (l := []) TT_ok trivial mixed Tryz.func15 Tryz.ntmps15 Tryz.results15 Tryz.call15 rfl (by omega) (fun _ => rfl) ?_
  intro a hp ha
  rw [codeK_start]
  have e : min (max a 0) 200 = ((tP a : Nat) : Int) := by unfold tP; omega
  simp only [go_sem, e, Nat.reduceBEq, Nat.reduceBNe, Nat.reduceLT, Nat.reduceLeDiff, Nat.reduceAdd, Nat.reduceSub, Nat.reduceMul, Nat.reduceEqDiff, Int.reduceNeg, Int.reduceAdd, Int.reduceLT, Int.reduceLE, Int.reduceToNat, ↓reduceIte]
  all_goals try trivial
def ivB (a : Int × Int) (w : Int) : BB := bb (qv (zN a.1).s a.1.natAbs (2 ^ cN w)) (qv (zN a.2).s a.2.natAbs (2 ^ cN w))
def d_i4_Ball : Den := den2 aIv aInt (fun a b => ZZ a 100000000 ∧ 0 ≤ b ∧ b ≤ 1000000000) fun a b => ballV (ivB a b)
set_option maxRecDepth 100000 in
set_option maxHeartbeats 4000000 in
theorem s_i4_Ball : Sound Tryz.prog 17 d_i4_Ball := by
  refine sound2 (fz := nofz) (l := [(48, d_i4_Rat)]) TT_ok ⟨s_i4_Rat, trivial⟩ mixed Tryz.func17 Tryz.ntmps17 Tryz.results17 Tryz.call17 rfl (by omega) (fun _ _ => rfl) ?_
  intro a b hp ha hb
  rw [codeK_start]
  obtain ⟨⟨h1, h2⟩, h3, h4⟩ := hp
  have l1 : SZ a.1 := by unfold SZ; omega
  have l2 : SZ a.2 := by unfold SZ; omega
  simp only [go_sem, d_i4_Rat, decide_true, decide_false, Bool.not_true, Bool.not_false, zN_val, ivB, Nat.reduceBEq, Nat.reduceBNe, Nat.reduceLT, Nat.reduceLeDiff, Nat.reduceAdd, Nat.reduceSub, Nat.reduceMul, Nat.reduceEqDiff, Int.reduceNeg, Int.reduceAdd, Int.reduceLT, Int.reduceLE, Int.reduceToNat, ↓reduceIte]
  all_goals ((try and_intros) <;> first | exact trivial | omega | (show okDraw _ _ = true; kernel_rfl) | assumption)
def goodB (a b : BB) (p : Int) : Bool := isB a && decide (a.hi.q - a.lo.q ≤ qv false 1 (2 ^ hold p)) && decide (sideI a b = 0)
def d_ref4_Good : Den := den3 aBall aBall aInt (fun a b _ => a.sz ≤ 100000000 ∧ b.sz ≤ 100000000) fun a b c => boolV (goodB a b c)
set_option maxRecDepth 100000 in
set_option maxHeartbeats 4000000 in
theorem s_ref4_Good : Sound Tryz.prog 8 d_ref4_Good := by
  refine sound3 (fz := nofz) (l := [(18, d_ref4_Is), (20, d_ref4_Width), (22, d_ref4_Hold), (21, d_ref4_Bit), (19, d_ref2_Cmp), (23, d_ref4_Side)]) TT_ok ⟨s_ref4_Is, s_ref4_Width, s_ref4_Hold, s_ref4_Bit, s_ref2_Cmp, s_ref4_Side, trivial⟩ mixed Tryz.func8 Tryz.ntmps8 Tryz.results8 Tryz.call8 rfl (by omega) (fun _ _ _ => rfl) ?_
  intro a b c hp ha hb hc
  rw [codeK_start]
  have hs := hp.1
  have hs2 := hp.2
  have la : rs a.lo.q ≤ 100000000 := rs_ok ha.1 (Nat.le_trans (Nat.le_max_left _ _) hs) (by omega)
  have lb : rs a.hi.q ≤ 100000000 := rs_ok ha.2 (Nat.le_trans (Nat.le_max_right _ _) hs) (by omega)
  have l3 : rs (a.hi.q - a.lo.q) ≤ 200000001 := rsb_sub lb la (by omega)
  have hh := hold_le c
  have hp2 := pow_bits (hold c)
  have l4 : rs (qv false 1 (2 ^ hold c)) ≤ 1000 := rs_qv _ _ _ _ (by have := len_one; omega) (by omega) (by omega)
  have e : ((hold c : Nat) : Int).toNat = hold c := rfl
  cases h1 : isB a with
  | false =>
    simp only [go_sem, d_ref4_Is, d_ref4_Width, d_ref4_Hold, d_ref4_Bit, d_ref2_Cmp, d_ref4_Side, goodB, h1, e, Bool.false_and, decide_true, decide_false, Bool.not_true, Bool.not_false, zN_val, Nat.reduceBEq, Nat.reduceBNe, Nat.reduceLT, Nat.reduceLeDiff, Nat.reduceAdd, Nat.reduceSub, Nat.reduceMul, Nat.reduceEqDiff, Int.reduceNeg, Int.reduceAdd, Int.reduceLT, Int.reduceLE, Int.reduceToNat, ↓reduceIte]
    all_goals ((try and_intros) <;> first | exact trivial | omega | (show okDraw _ _ = true; kernel_rfl) | assumption)
  | true =>
    by_cases h2 : a.hi.q - a.lo.q ≤ qv false 1 (2 ^ hold c)
    · have h2' : (a.hi.q - a.lo.q ≤ qv false 1 (2 ^ hold c)) = True := eq_true h2
      simp only [go_sem, d_ref4_Is, d_ref4_Width, d_ref4_Hold, d_ref4_Bit, d_ref2_Cmp, d_ref4_Side, goodB, h1, e, h2', Bool.true_and, decide_true, decide_false, Bool.not_true, Bool.not_false, zN_val, Nat.reduceBEq, Nat.reduceBNe, Nat.reduceLT, Nat.reduceLeDiff, Nat.reduceAdd, Nat.reduceSub, Nat.reduceMul, Nat.reduceEqDiff, Int.reduceNeg, Int.reduceAdd, Int.reduceLT, Int.reduceLE, Int.reduceToNat, ↓reduceIte]
      all_goals ((try and_intros) <;> first | exact trivial | omega | (show okDraw _ _ = true; kernel_rfl) | assumption)
    · have h2' : (a.hi.q - a.lo.q ≤ qv false 1 (2 ^ hold c)) = False := eq_false h2
      simp only [go_sem, d_ref4_Is, d_ref4_Width, d_ref4_Hold, d_ref4_Bit, d_ref2_Cmp, d_ref4_Side, goodB, h1, e, h2', Bool.true_and, Bool.false_and, decide_true, decide_false, Bool.not_true, Bool.not_false, zN_val, Nat.reduceBEq, Nat.reduceBNe, Nat.reduceLT, Nat.reduceLeDiff, Nat.reduceAdd, Nat.reduceSub, Nat.reduceMul, Nat.reduceEqDiff, Int.reduceNeg, Int.reduceAdd, Int.reduceLT, Int.reduceLE, Int.reduceToNat, ↓reduceIte]
      all_goals ((try and_intros) <;> first | exact trivial | omega | (show okDraw _ _ = true; kernel_rfl) | assumption)
theorem tOkK_le {k : Int} {q : Rat} (h : ng q = false) : (q < ((0 : Int) : Rat)) = False := by
  refine eq_false (Rat.not_lt.2 ?_)
  have : 0 ≤ q.num := by unfold ng at h; have := of_decide_eq_false h; omega
  exact Rat.num_nonneg.1 this
theorem ng_lt {q : Rat} (h : ng q = true) : (q < ((0 : Int) : Rat)) = True := by
  refine eq_true ?_
  have : q.num < 0 := by unfold ng at h; exact of_decide_eq_true h
  rcases P.rat_lt_or q 0 with c | c
  · exact c
  · have := Rat.num_nonneg.2 c; omega
def d_ref13_off : Den := den2 aInt aRat (fun _ b => b.sz ≤ 1000) fun a b => boolV (!tOkK a b.q)
set_option maxRecDepth 100000 in
set_option maxHeartbeats 4000000 in
theorem s_ref13_off : Sound Tryz.prog 13 d_ref13_off := by
  refine sound2 (fz := nofz) (l := [(12, d_ref2_Int), (19, d_ref2_Cmp)]) TT_ok ⟨s_ref2_Int, s_ref2_Cmp, trivial⟩ mixed Tryz.func13 Tryz.ntmps13 Tryz.results13 Tryz.call13 rfl (by omega) (fun _ _ => rfl) ?_
  intro a b hp ha hb
  rw [codeK_start]
  have q1 : rs b.q ≤ 1000 := rs_ok hb hp (by omega)
  have t1 : rs ((0 : Int) : Rat) ≤ 2 := by decide +kernel
  have t2 : rs ((64 : Int) : Rat) ≤ 2 := by decide +kernel
  by_cases h1 : (1024 : Int) < a
  · have h1' : ((1024 : Int) < a) = True := eq_true h1
    have e : tOkK a b.q = false := by unfold tOkK; rw [decide_eq_true h1]; simp
    simp only [go_sem, d_ref2_Int, d_ref2_Cmp, decide_true, decide_false, Bool.not_true, Bool.not_false, zN_val, h1', e, Bool.not_false, Nat.reduceBEq, Nat.reduceBNe, Nat.reduceLT, Nat.reduceLeDiff, Nat.reduceAdd, Nat.reduceSub, Nat.reduceMul, Nat.reduceEqDiff, Int.reduceNeg, Int.reduceAdd, Int.reduceLT, Int.reduceLE, Int.reduceToNat, ↓reduceIte]
    all_goals ((try and_intros) <;> first | exact trivial | omega | (show okDraw _ _ = true; kernel_rfl) | assumption)
  have h1' : ((1024 : Int) < a) = False := eq_false h1
  cases hn : ng b.q with
  | true =>
    have e : tOkK a b.q = false := by unfold tOkK tOk; rw [hn]; rfl
    have h2 := ng_lt hn
    simp only [go_sem, d_ref2_Int, d_ref2_Cmp, decide_true, decide_false, Bool.not_true, Bool.not_false, zN_val, h1', h2, e, Bool.not_false, Nat.reduceBEq, Nat.reduceBNe, Nat.reduceLT, Nat.reduceLeDiff, Nat.reduceAdd, Nat.reduceSub, Nat.reduceMul, Nat.reduceEqDiff, Int.reduceNeg, Int.reduceAdd, Int.reduceLT, Int.reduceLE, Int.reduceToNat, ↓reduceIte]
    all_goals ((try and_intros) <;> first | exact trivial | omega | (show okDraw _ _ = true; kernel_rfl) | assumption)
  | false =>
    have h2 := tOkK_le (k := a) hn
    by_cases h3 : ((64 : Int) : Rat) < b.q
    · have h3' : (((64 : Int) : Rat) < b.q) = True := eq_true h3
      have e : tOkK a b.q = false := by unfold tOkK tOk; rw [hn, decide_eq_false (show ¬ b.q ≤ 64 from fun h => absurd (show (64 : Rat) < b.q from h3) (Rat.not_lt.2 h))]; rfl
      simp only [go_sem, d_ref2_Int, d_ref2_Cmp, decide_true, decide_false, Bool.not_true, Bool.not_false, zN_val, h1', h2, h3', e, Bool.not_false, Nat.reduceBEq, Nat.reduceBNe, Nat.reduceLT, Nat.reduceLeDiff, Nat.reduceAdd, Nat.reduceSub, Nat.reduceMul, Nat.reduceEqDiff, Int.reduceNeg, Int.reduceAdd, Int.reduceLT, Int.reduceLE, Int.reduceToNat, ↓reduceIte]
      all_goals ((try and_intros) <;> first | exact trivial | omega | (show okDraw _ _ = true; kernel_rfl) | assumption)
    · have h3' : (((64 : Int) : Rat) < b.q) = False := eq_false h3
      have e : tOkK a b.q = true := by unfold tOkK tOk; rw [hn, decide_eq_true (show b.q ≤ 64 from Rat.not_lt.1 h3), decide_eq_false h1]; rfl
      simp only [go_sem, d_ref2_Int, d_ref2_Cmp, decide_true, decide_false, Bool.not_true, Bool.not_false, zN_val, h1', h2, h3', e, Bool.not_true, Nat.reduceBEq, Nat.reduceBNe, Nat.reduceLT, Nat.reduceLeDiff, Nat.reduceAdd, Nat.reduceSub, Nat.reduceMul, Nat.reduceEqDiff, Int.reduceNeg, Int.reduceAdd, Int.reduceLT, Int.reduceLE, Int.reduceToNat, ↓reduceIte]
      all_goals ((try and_intros) <;> first | exact trivial | omega | (show okDraw _ _ = true; kernel_rfl) | assumption)
def pY (q : Rat) (w : Int) : Int × Int := numZ q (w + 20)
def p0 (q : Rat) (w : Int) : Int × Int := P.iback (ivE (-q) (w + 20 + 120)) (cN 120)
def pT (q : Rat) (w : Int) (i : Nat) : Int × Int := P.ivT (p0 q w) (pY q w) (cN (w + 20)) i
def pS (q : Rat) (w : Int) (i : Nat) : Int × Int := P.ivS (p0 q w) (pY q w) (cN (w + 20)) i
def ivV2 (a b : Int × Int) : AV := .tup [.agg (ivC a), .agg (ivC b)]
attribute [go_sem] ivV2
theorem iback_in {a : Int × Int} {n : Nat} {A : Int} (h0 : 0 ≤ A) (h : P.within a A) : P.within (P.iback a n) A := by
  obtain ⟨⟨a1, a2⟩, a3, a4⟩ := h
  have hp := P.pow_pos' n
  have hm : A ≤ A * ((2 ^ n : Nat) : Int) := by
    have := Int.mul_le_mul_of_nonneg_left (show (1 : Int) ≤ ((2 ^ n : Nat) : Int) by omega) h0
    omega
  exact ⟨⟨P.iless_ge (by rw [Int.neg_mul]; omega), P.iless_le (by omega)⟩, P.imore_ge (by rw [Int.neg_mul]; omega), P.imore_le (by omega)⟩
theorem far_neg {q : Rat} (h0 : 0 ≤ q) (h : q ≤ 64) : farB (-q) = false := by
  unfold farB
  rw [decide_eq_false (show ¬ -q < ((-64 : Int) : Rat) from Rat.not_lt.2 (show (-64 : Rat) ≤ -q by grind)), decide_eq_false (show ¬ ((64 : Int) : Rat) < -q from Rat.not_lt.2 (show -q ≤ (64 : Rat) by grind))]
  rfl
theorem p0_in {q : Rat} {w : Int} {e : Nat} (he : 1400 ≤ e) (h0 : 0 ≤ q) (h : q ≤ 64) (hw : 20 ≤ w) (hw2 : w ≤ 1000) : P.within (p0 q w) ((2 ^ e : Nat) : Int) := by
  have hW : 20 ≤ cN (w + 20 + 120 + 130) := by unfold cN; omega
  have hW2 : cN (w + 20 + 120 + 130) ≤ 1270 := by unfold cN; omega
  have h1 := P.sqI_pow hW (ivR_in (w := w + 20 + 120) (far_neg h0 h) (by omega)) (k := 8) (by omega)
  have h2 := iback_in (n := cN 130) (Int.le_of_lt (P.pow_pos' _)) h1
  have h3 := iback_in (n := cN 120) (Int.le_of_lt (P.pow_pos' _)) h2
  exact within_mono h3 (P.two_mono (by omega))
theorem pY_in {q : Rat} {w : Int} (h0 : 0 ≤ q) (h : q ≤ 64) : P.within (pY q w) ((2 ^ (cN (w + 20) + 6) : Nat) : Int) ∧ P.pos (pY q w) := by
  have hd : 0 < q.den := q.den_pos
  have hn : 0 ≤ q.num := Rat.num_nonneg.2 h0
  have hn2 : q.num ≤ 64 * (q.den : Int) := by
    rw [Rat.le_iff, show (64 : Rat).num = 64 from rfl, show (64 : Rat).den = 1 from rfl] at h
    omega
  have hW := P.pow_pos' (cN (w + 20))
  have e : ((2 ^ (cN (w + 20) + 6) : Nat) : Int) = ((2 ^ cN (w + 20) : Nat) : Int) * 64 := P.two_add (cN (w + 20)) 6
  rw [e]
  unfold pY numZ fallZ riseZ fallZ
  generalize ((2 ^ cN (w + 20) : Nat) : Int) = W at *
  have m0 : 0 ≤ q.num * W := Int.mul_nonneg hn (by omega)
  have m1 : q.num * W ≤ W * 64 * (q.den : Int) := by
    have := Int.mul_le_mul_of_nonneg_right hn2 (show 0 ≤ W by omega)
    have e2 : 64 * (q.den : Int) * W = W * 64 * (q.den : Int) := by grind
    omega
  have c1 := P.idiv_in (x := q.num * W) (A := W * 64 * (q.den : Int)) (C := W * 64) hd (by omega) m1 (Int.le_refl _)
  have c2 := P.idiv_in (x := -(q.num * W)) (A := W * 64 * (q.den : Int)) (C := W * 64) hd (by omega) (by omega) (Int.le_refl _)
  have c3 : 0 ≤ q.num * W / (q.den : Int) := Int.ediv_nonneg m0 (by omega)
  have c4 : -(q.num * W) / (q.den : Int) ≤ 0 := by
    have h2 := Int.ediv_mul_le (-(q.num * W)) (b := (q.den : Int)) (by omega)
    exact Int.le_of_mul_le_mul_right (show -(q.num * W) / (q.den : Int) * (q.den : Int) ≤ 0 * (q.den : Int) by rw [Int.zero_mul]; omega) (show (0 : Int) < (q.den : Int) by omega)
  unfold P.within P.pos
  simp only
  omega
theorem pT_in {q : Rat} {w : Int} {e : Nat} (he : 1400 ≤ e) (h0 : 0 ≤ q) (h : q ≤ 64) (hw : 20 ≤ w) (hw2 : w ≤ 1000) : ∀ i, P.within (pT q w i) ((2 ^ (e + 6 * i) : Nat) : Int) ∧ P.within (P.iprod (pT q w i) (pY q w) (cN (w + 20))) ((2 ^ (e + 6 * (i + 1)) : Nat) : Int)
  | 0 => by
    have a := p0_in he h0 h hw hw2
    refine ⟨a, P.iprod_in a (pY_in h0 h).1 ?_⟩
    rw [← P.two_add, ← P.two_add]
    exact P.two_mono (by omega)
  | i + 1 => by
    obtain ⟨_, b⟩ := pT_in he h0 h hw hw2 i
    have a : P.within (pT q w (i + 1)) ((2 ^ (e + 6 * (i + 1)) : Nat) : Int) := P.iby_mono (by omega) (Int.le_of_lt (P.pow_pos' _)) b
    refine ⟨a, P.iprod_in a (pY_in h0 h).1 ?_⟩
    rw [← P.two_add, ← P.two_add]
    exact P.two_mono (by omega)
theorem pS_in {q : Rat} {w : Int} {e : Nat} (he : 1400 ≤ e) (h0 : 0 ≤ q) (h : q ≤ 64) (hw : 20 ≤ w) (hw2 : w ≤ 1000) : ∀ i, P.within (pS q w i) ((2 ^ (e + 7 * i) : Nat) : Int)
  | 0 => p0_in he h0 h hw hw2
  | i + 1 => by
    have a := pS_in he h0 h hw hw2 i
    have b := (pT_in he h0 h hw hw2 (i + 1)).1
    have c := P.isum_in a b
    have d1 : ((2 ^ (e + 7 * i) : Nat) : Int) ≤ ((2 ^ (e + 7 * i + 6) : Nat) : Int) := P.two_mono (by omega)
    have d2 : ((2 ^ (e + 6 * (i + 1)) : Nat) : Int) ≤ ((2 ^ (e + 7 * i + 6) : Nat) : Int) := P.two_mono (by omega)
    have d3 : ((2 ^ (e + 7 * (i + 1)) : Nat) : Int) = 2 * ((2 ^ (e + 7 * i + 6) : Nat) : Int) := P.two_up (e + 7 * i + 6)
    exact within_mono c (by omega)
theorem pow_zz {a : Int × Int} {e : Nat} (h : P.within a ((2 ^ e : Nat) : Int)) (he : e ≤ 3000) : zs a.1 ≤ 100 ∧ zs a.2 ≤ 100 := ZZ_pow h (by omega)
def d_ref13_iv : Den := den3 aInt aRat aInt (fun k m w => k ≤ 100 ∧ m.sz ≤ 1000 ∧ 0 ≤ m.q ∧ m.q ≤ 64 ∧ 20 ≤ w ∧ w ≤ 1000) fun k m w => ivV2 (P.iback (pT m.q w k.toNat) (cN 20)) (P.iback (pS m.q w k.toNat) (cN 20))
set_option maxRecDepth 100000 in
set_option maxHeartbeats 4000000 in
theorem s_ref13_iv : Sound Tryz.prog 16 d_ref13_iv := by
  refine sound3 (fz := nofz) (l := [(41, d_i4_Num), (43, d_ref2_Neg), (42, d_ref6_Iv), (44, d_i4_Back), (46, d_i4_Prod), (45, d_i4_By), (47, d_i4_Sum)]) TT_ok ⟨s_i4_Num, s_ref2_Neg, s_ref6_Iv, s_i4_Back, s_i4_Prod, s_i4_By, s_i4_Sum, trivial⟩ mixed Tryz.func16 Tryz.ntmps16 Tryz.results16 Tryz.call16 rfl (by omega) (fun _ _ _ => rfl) ?_
  intro k m w hp hk hm hw
  rw [codeK_start]
  obtain ⟨hk, hsz, h0, h64, hw, hw2⟩ := hp
  have r1 : rs m.q ≤ 1000 := rs_ok hm hsz (by omega)
  have r2 : rs (-m.q) ≤ 1000 := rsb_neg r1
  have eC : ∀ x : Rat, (⟨ng x, limbs (nm x), limbs x.den⟩ : RR) = cr x := fun _ => rfl
  generalize hq : m.q = q at *
  have hf := far_neg h0 h64
  have e1 : numZ q (w + 20) = pY q w := rfl
  have e2 : P.iback (ivE (-q) (w + 20 + 120)) (cN 120) = p0 q w := rfl
  obtain ⟨v1, v2⟩ := ivE_size (w := w + 20 + 120) hf (by omega)
  obtain ⟨v3, v4⟩ := pow_zz (p0_in (Nat.le_refl _) h0 h64 hw hw2) (by omega)
  have hcN : cN (w + 20) ≤ 1020 := by unfold cN; omega
  obtain ⟨v5, v6⟩ := pow_zz (pY_in (w := w) h0 h64).1 (by omega)
  have key := fun (i : Nat) (hi : i ≤ 100) => pow_zz (pT_in (Nat.le_refl _) h0 h64 hw hw2 i).1 (by omega)
  have key2 := fun (i : Nat) (hi : i ≤ 100) => pow_zz (pT_in (Nat.le_refl _) h0 h64 hw hw2 i).2 (by omega)
  have key3 := fun (i : Nat) (hi : i ≤ 101) => pow_zz (pS_in (Nat.le_refl _) h0 h64 hw hw2 i) (by omega)
  simp only [go_sem, d_i4_Num, d_ref2_Neg, d_ref6_Iv, d_i4_Back, d_i4_Prod, d_i4_By, d_i4_Sum, decide_true, decide_false, Bool.not_true, Bool.not_false, zN_val, hq, eC, cr_sz, cr_q, hf, e1, e2, Nat.reduceBEq, Nat.reduceBNe, Nat.reduceLT, Nat.reduceLeDiff, Nat.reduceAdd, Nat.reduceSub, Nat.reduceMul, Nat.reduceEqDiff, Int.reduceNeg, Int.reduceAdd, Int.reduceLT, Int.reduceLE, Int.reduceToNat, ↓reduceIte]
  and_intros
  all_goals try (first | exact trivial | omega | assumption | (show okDraw _ _ = true; kernel_rfl))
  refine codeK_loop (fun i : { i : Nat // i ≤ k.toNat } => ((12, 0, .av (intV ((i.1 : Nat) + 1))) : Nat × Nat × RV) :: ((8, 0, .av (intV ((20 : Int)))) : Nat × Nat × RV) :: ((0, 0, .av (intV (k))) : Nat × Nat × RV) :: ((2, 0, .av (intV (w))) : Nat × Nat × RV) :: (boxIv 9 (pY q w) ++ (boxIv 10 (pT q w i.1) ++ (boxIv 11 (pS q w i.1) ++ (boxIv0 6 ++ boxIv0 7))))) (fun i => k.toNat - i.1) ⟨0, by omega⟩ (le_of ?_) ?_
  · have z1 : pT q w 0 = p0 q w := rfl
    have z2 : pS q w 0 = p0 q w := rfl
    simp only [go_sem, leL, z1, z2, Nat.reduceBEq, Nat.reduceBNe, Nat.reduceLT, Nat.reduceLeDiff, Nat.reduceAdd, Nat.reduceSub, Nat.reduceMul, Nat.reduceEqDiff, Int.reduceNeg, Int.reduceAdd, Int.reduceLT, Int.reduceLE, Int.reduceToNat, ↓reduceIte, Int.natCast_zero, Int.ofNat_zero, Int.cast_ofNat_Int, Int.zero_add]
  · rintro ⟨i, hi⟩
    have hi : i ≤ k.toNat := hi
    obtain ⟨a1, a2⟩ := key i (by omega)
    obtain ⟨a5, a6⟩ := key3 i (by omega)
    by_cases hik : i < k.toNat
    · have hit : (((i : Nat) : Int) + 1 ≤ k) = True := eq_true (by omega)
      obtain ⟨a3, a4⟩ := key2 i (by omega)
      obtain ⟨a7, a8⟩ := key (i + 1) (by omega)
      have n1 : (((i : Nat) : Int) + 1).toNat = i + 1 := by omega
      have s1 : P.iby (P.iprod (pT q w i) (pY q w) (cN (w + 20))) (i + 1) = pT q w (i + 1) := rfl
      have s2 : P.isum (pS q w i) (pT q w (i + 1)) = pS q w (i + 1) := rfl
      simp only [go_sem, d_i4_Num, d_ref2_Neg, d_ref6_Iv, d_i4_Back, d_i4_Prod, d_i4_By, d_i4_Sum, decide_true, decide_false, Bool.not_true, Bool.not_false, zN_val, hit, n1, s1, s2, Nat.reduceBEq, Nat.reduceBNe, Nat.reduceLT, Nat.reduceLeDiff, Nat.reduceAdd, Nat.reduceSub, Nat.reduceMul, Nat.reduceEqDiff, Int.reduceNeg, Int.reduceAdd, Int.reduceLT, Int.reduceLE, Int.reduceToNat, ↓reduceIte]
      and_intros
      all_goals try (first | exact trivial | omega | assumption | (show okDraw _ _ = true; kernel_rfl))
      refine ⟨⟨i + 1, by omega⟩, by show k.toNat - (i + 1) < k.toNat - i; omega, le_of ?_⟩
      simp only [go_sem, leL, Nat.reduceBEq, Nat.reduceBNe, Nat.reduceLT, Nat.reduceLeDiff, Nat.reduceAdd, Nat.reduceSub, Nat.reduceMul, Nat.reduceEqDiff, Int.reduceNeg, Int.reduceAdd, Int.reduceLT, Int.reduceLE, Int.reduceToNat, ↓reduceIte, Int.natCast_add, Int.natCast_one, Int.cast_ofNat_Int]
      try omega
    · have hit : (((i : Nat) : Int) + 1 ≤ k) = False := eq_false (by omega)
      have e : i = k.toNat := by omega
      subst e
      simp only [go_sem, d_i4_Num, d_ref2_Neg, d_ref6_Iv, d_i4_Back, d_i4_Prod, d_i4_By, d_i4_Sum, decide_true, decide_false, Bool.not_true, Bool.not_false, zN_val, hit, Nat.reduceBEq, Nat.reduceBNe, Nat.reduceLT, Nat.reduceLeDiff, Nat.reduceAdd, Nat.reduceSub, Nat.reduceMul, Nat.reduceEqDiff, Int.reduceNeg, Int.reduceAdd, Int.reduceLT, Int.reduceLE, Int.reduceToNat, ↓reduceIte]
      all_goals ((try and_intros) <;> first | exact trivial | omega | (show okDraw _ _ = true; kernel_rfl) | assumption)
end Go.Proofs.YtnjgliojkoeneaaGreat
namespace Go.Proofs.YtnjgliojkoeneaaGreat
open Go.RowKit
set_option linter.unusedSimpArgs false
set_option linter.unusedVariables false
def pA (all : Bool) (q : Rat) (w : Int) (k : Nat) : Int × Int := if all = true then pS q w k else pT q w k
def pIv (all : Bool) (q : Rat) (w : Int) (k : Nat) : Int × Int := P.iback (pA all q w k) (cN 20)
def rP (all : Bool) (k : Int) (q : Rat) (p : Int) : BB := if tOkK k q = true then if k < 0 ∨ (q = 0 ∧ 0 < k ∧ all = false) then bb ((0 : Int) : Rat) ((0 : Int) : Rat) else if q = 0 then bb ((1 : Int) : Rat) ((1 : Int) : Rat) else ivB (pIv all q (((tP p : Nat) : Int) + 130) k.toNat) (((tP p : Nat) : Int) + 130) else bb ((0 : Int) : Rat) ((0 : Int) : Rat)
theorem tOkK_facts {k : Int} {q : Rat} (h : tOkK k q = true) : ng q = false ∧ 0 ≤ q ∧ q ≤ 64 ∧ k ≤ 1024 ∧ tOk q = true := by
  unfold tOkK at h
  rw [Bool.and_eq_true] at h
  have h1 := h.1
  unfold tOk at h1
  rw [Bool.and_eq_true, Bool.not_eq_true', decide_eq_true_eq] at h1
  have h2 := h.2
  rw [Bool.not_eq_true', decide_eq_false_iff_not] at h2
  refine ⟨h1.1, ?_, h1.2, by omega, h.1⟩
  have : 0 ≤ q.num := by have h3 := h1.1; unfold ng at h3; have := of_decide_eq_false h3; omega
  exact Rat.num_nonneg.1 this
theorem pIv_zz (all : Bool) {q : Rat} {w : Int} (h0 : 0 ≤ q) (h : q ≤ 64) (hw : 20 ≤ w) (hw2 : w ≤ 1000) {k : Nat} (hk : k ≤ 100) : zs (pIv all q w k).1 ≤ 100 ∧ zs (pIv all q w k).2 ≤ 100 := by
  have h1 : P.within (pA all q w k) ((2 ^ (1400 + 7 * k) : Nat) : Int) := by
    unfold pA
    cases all with
    | true => exact pS_in (Nat.le_refl _) h0 h hw hw2 k
    | false => exact within_mono (pT_in (Nat.le_refl _) h0 h hw hw2 k).1 (P.two_mono (by omega))
  exact pow_zz (iback_in (Int.le_of_lt (P.pow_pos' _)) h1) (by omega)
def d_ref13_Pois : Den := den3 aInt aRat aInt (fun k m _ => (k ≤ 100 ∨ 1024 < k) ∧ m.sz ≤ 1000) fun k m p => ballOkV (rP false k m.q p) (tOkK k m.q)
set_option maxRecDepth 100000 in
set_option maxHeartbeats 4000000 in
theorem s_ref13_Pois : Sound Tryz.prog 5 d_ref13_Pois := by
  refine sound3 (fz := nofz) (l := [(12, d_ref2_Int), (11, d_ref4_Of), (13, d_ref13_off), (14, d_ref2_Zero), (15, d_ref10_Hold), (16, d_ref13_iv), (17, d_i4_Ball)]) TT_ok ⟨s_ref2_Int, s_ref4_Of, s_ref13_off, s_ref2_Zero, s_ref10_Hold, s_ref13_iv, s_i4_Ball, trivial⟩ mixed Tryz.func5 Tryz.ntmps5 Tryz.results5 Tryz.call5 rfl (by omega) (fun _ _ _ => rfl) ?_
  intro k m p hp hka hm hpa
  rw [codeK_start]
  obtain ⟨hk, hsz⟩ := hp
  have r1 : rs m.q ≤ 1000 := rs_ok hm hsz (by omega)
  have eC : ∀ x : Rat, (⟨ng x, limbs (nm x), limbs x.den⟩ : RR) = cr x := fun _ => rfl
  have t0 : rs ((0 : Int) : Rat) ≤ 2 := by decide +kernel
  have t1 : rs ((1 : Int) : Rat) ≤ 2 := by decide +kernel
  have hP : tP p ≤ 200 := by unfold tP; omega
  generalize hq : m.q = q at *
  cases hO : tOkK k q with
  | false =>
    have hT : rP false k q p = bb ((0 : Int) : Rat) ((0 : Int) : Rat) := by unfold rP; rw [if_neg (by rw [hO]; decide)]
    simp only [go_sem, d_ref2_Int, d_ref4_Of, d_ref13_off, d_ref2_Zero, d_ref10_Hold, d_ref13_iv, d_i4_Ball, decide_true, decide_false, Bool.not_true, Bool.not_false, zN_val, hq, eC, cr_sz, cr_q, Bool.not_true, Bool.not_false, hO, hT, Nat.reduceBEq, Nat.reduceBNe, Nat.reduceLT, Nat.reduceLeDiff, Nat.reduceAdd, Nat.reduceSub, Nat.reduceMul, Nat.reduceEqDiff, Int.reduceNeg, Int.reduceAdd, Int.reduceLT, Int.reduceLE, Int.reduceToNat, ↓reduceIte]
    all_goals ((try and_intros) <;> first | exact trivial | omega | (show okDraw _ _ = true; kernel_rfl) | assumption)
  | true =>
    obtain ⟨f1, f2, f3, f4, f5⟩ := tOkK_facts hO
    have f6 : k ≤ 100 := by omega
    by_cases hkn : k < 0
    · have hT : rP false k q p = bb ((0 : Int) : Rat) ((0 : Int) : Rat) := by unfold rP; rw [if_pos hO, if_pos (.inl hkn)]
      have hkt : (k < 0) = True := eq_true hkn
      simp only [go_sem, d_ref2_Int, d_ref4_Of, d_ref13_off, d_ref2_Zero, d_ref10_Hold, d_ref13_iv, d_i4_Ball, decide_true, decide_false, Bool.not_true, Bool.not_false, zN_val, hq, eC, cr_sz, cr_q, Bool.not_true, Bool.not_false, hO, hT, hkt, Nat.reduceBEq, Nat.reduceBNe, Nat.reduceLT, Nat.reduceLeDiff, Nat.reduceAdd, Nat.reduceSub, Nat.reduceMul, Nat.reduceEqDiff, Int.reduceNeg, Int.reduceAdd, Int.reduceLT, Int.reduceLE, Int.reduceToNat, ↓reduceIte]
      all_goals ((try and_intros) <;> first | exact trivial | omega | (show okDraw _ _ = true; kernel_rfl) | assumption)
    have hkt : (k < 0) = False := eq_false hkn
    by_cases hq0 : q = 0
    · have hqt : (q = 0) = True := eq_true hq0
      by_cases hk2 : 0 < k
      · have hT : rP false k q p = bb ((0 : Int) : Rat) ((0 : Int) : Rat) := by unfold rP; rw [if_pos hO, if_pos (.inr ⟨hq0, hk2, rfl⟩)]
        have hk2t : (0 < k) = True := eq_true hk2
        simp only [go_sem, d_ref2_Int, d_ref4_Of, d_ref13_off, d_ref2_Zero, d_ref10_Hold, d_ref13_iv, d_i4_Ball, decide_true, decide_false, Bool.not_true, Bool.not_false, zN_val, hq, eC, cr_sz, cr_q, Bool.not_true, Bool.not_false, hO, hT, hkt, hqt, hk2t, Nat.reduceBEq, Nat.reduceBNe, Nat.reduceLT, Nat.reduceLeDiff, Nat.reduceAdd, Nat.reduceSub, Nat.reduceMul, Nat.reduceEqDiff, Int.reduceNeg, Int.reduceAdd, Int.reduceLT, Int.reduceLE, Int.reduceToNat, ↓reduceIte]
        all_goals ((try and_intros) <;> first | exact trivial | omega | (show okDraw _ _ = true; kernel_rfl) | assumption)
      · have hT : rP false k q p = bb ((1 : Int) : Rat) ((1 : Int) : Rat) := by unfold rP; rw [if_pos hO, if_neg (by intro h; rcases h with h | ⟨_, h, _⟩; exact hkn h; exact hk2 h), if_pos hq0]
        have hk2t : (0 < k) = False := eq_false hk2
        simp only [go_sem, d_ref2_Int, d_ref4_Of, d_ref13_off, d_ref2_Zero, d_ref10_Hold, d_ref13_iv, d_i4_Ball, decide_true, decide_false, Bool.not_true, Bool.not_false, zN_val, hq, eC, cr_sz, cr_q, Bool.not_true, Bool.not_false, hO, hT, hkt, hqt, hk2t, Nat.reduceBEq, Nat.reduceBNe, Nat.reduceLT, Nat.reduceLeDiff, Nat.reduceAdd, Nat.reduceSub, Nat.reduceMul, Nat.reduceEqDiff, Int.reduceNeg, Int.reduceAdd, Int.reduceLT, Int.reduceLE, Int.reduceToNat, ↓reduceIte]
        all_goals ((try and_intros) <;> first | exact trivial | omega | (show okDraw _ _ = true; kernel_rfl) | assumption)
    have hqt : (q = 0) = False := eq_false hq0
    have hT : rP false k q p = ivB (pIv false q (((tP p : Nat) : Int) + 130) k.toNat) (((tP p : Nat) : Int) + 130) := by unfold rP; rw [if_pos hO, if_neg (by intro h; rcases h with h | ⟨h, _⟩; exact hkn h; exact hq0 h), if_neg hq0]
    have hI : P.iback (pT q (((tP p : Nat) : Int) + 130) k.toNat) (cN 20) = pIv false q (((tP p : Nat) : Int) + 130) k.toNat := rfl
    obtain ⟨v1, v2⟩ := pIv_zz false (w := ((tP p : Nat) : Int) + 130) f2 f3 (by omega) (by omega) (k := k.toNat) (by omega)
    simp only [go_sem, d_ref2_Int, d_ref4_Of, d_ref13_off, d_ref2_Zero, d_ref10_Hold, d_ref13_iv, d_i4_Ball, decide_true, decide_false, Bool.not_true, Bool.not_false, zN_val, hq, eC, cr_sz, cr_q, Bool.not_true, Bool.not_false, hO, hT, hkt, hqt, hI, Nat.reduceBEq, Nat.reduceBNe, Nat.reduceLT, Nat.reduceLeDiff, Nat.reduceAdd, Nat.reduceSub, Nat.reduceMul, Nat.reduceEqDiff, Int.reduceNeg, Int.reduceAdd, Int.reduceLT, Int.reduceLE, Int.reduceToNat, ↓reduceIte]
    all_goals ((try and_intros) <;> first | exact trivial | omega | (show okDraw _ _ = true; kernel_rfl) | assumption)
def d_ref13_PoisCdf : Den := den3 aInt aRat aInt (fun k m _ => (k ≤ 100 ∨ 1024 < k) ∧ m.sz ≤ 1000) fun k m p => ballOkV (rP true k m.q p) (tOkK k m.q)
set_option maxRecDepth 100000 in
set_option maxHeartbeats 4000000 in
theorem s_ref13_PoisCdf : Sound Tryz.prog 7 d_ref13_PoisCdf := by
  refine sound3 (fz := nofz) (l := [(12, d_ref2_Int), (11, d_ref4_Of), (13, d_ref13_off), (14, d_ref2_Zero), (15, d_ref10_Hold), (16, d_ref13_iv), (17, d_i4_Ball)]) TT_ok ⟨s_ref2_Int, s_ref4_Of, s_ref13_off, s_ref2_Zero, s_ref10_Hold, s_ref13_iv, s_i4_Ball, trivial⟩ mixed Tryz.func7 Tryz.ntmps7 Tryz.results7 Tryz.call7 rfl (by omega) (fun _ _ _ => rfl) ?_
  intro k m p hp hka hm hpa
  rw [codeK_start]
  obtain ⟨hk, hsz⟩ := hp
  have r1 : rs m.q ≤ 1000 := rs_ok hm hsz (by omega)
  have eC : ∀ x : Rat, (⟨ng x, limbs (nm x), limbs x.den⟩ : RR) = cr x := fun _ => rfl
  have t0 : rs ((0 : Int) : Rat) ≤ 2 := by decide +kernel
  have t1 : rs ((1 : Int) : Rat) ≤ 2 := by decide +kernel
  have hP : tP p ≤ 200 := by unfold tP; omega
  generalize hq : m.q = q at *
  cases hO : tOkK k q with
  | false =>
    have hT : rP true k q p = bb ((0 : Int) : Rat) ((0 : Int) : Rat) := by unfold rP; rw [if_neg (by rw [hO]; decide)]
    simp only [go_sem, d_ref2_Int, d_ref4_Of, d_ref13_off, d_ref2_Zero, d_ref10_Hold, d_ref13_iv, d_i4_Ball, decide_true, decide_false, Bool.not_true, Bool.not_false, zN_val, hq, eC, cr_sz, cr_q, Bool.not_true, Bool.not_false, hO, hT, Nat.reduceBEq, Nat.reduceBNe, Nat.reduceLT, Nat.reduceLeDiff, Nat.reduceAdd, Nat.reduceSub, Nat.reduceMul, Nat.reduceEqDiff, Int.reduceNeg, Int.reduceAdd, Int.reduceLT, Int.reduceLE, Int.reduceToNat, ↓reduceIte]
    all_goals ((try and_intros) <;> first | exact trivial | omega | (show okDraw _ _ = true; kernel_rfl) | assumption)
  | true =>
    obtain ⟨f1, f2, f3, f4, f5⟩ := tOkK_facts hO
    have f6 : k ≤ 100 := by omega
    by_cases hkn : k < 0
    · have hT : rP true k q p = bb ((0 : Int) : Rat) ((0 : Int) : Rat) := by unfold rP; rw [if_pos hO, if_pos (.inl hkn)]
      have hkt : (k < 0) = True := eq_true hkn
      simp only [go_sem, d_ref2_Int, d_ref4_Of, d_ref13_off, d_ref2_Zero, d_ref10_Hold, d_ref13_iv, d_i4_Ball, decide_true, decide_false, Bool.not_true, Bool.not_false, zN_val, hq, eC, cr_sz, cr_q, Bool.not_true, Bool.not_false, hO, hT, hkt, Nat.reduceBEq, Nat.reduceBNe, Nat.reduceLT, Nat.reduceLeDiff, Nat.reduceAdd, Nat.reduceSub, Nat.reduceMul, Nat.reduceEqDiff, Int.reduceNeg, Int.reduceAdd, Int.reduceLT, Int.reduceLE, Int.reduceToNat, ↓reduceIte]
      all_goals ((try and_intros) <;> first | exact trivial | omega | (show okDraw _ _ = true; kernel_rfl) | assumption)
    have hkt : (k < 0) = False := eq_false hkn
    by_cases hq0 : q = 0
    · have hqt : (q = 0) = True := eq_true hq0
      have hT : rP true k q p = bb ((1 : Int) : Rat) ((1 : Int) : Rat) := by unfold rP; rw [if_pos hO, if_neg (by intro h; rcases h with h | ⟨_, _, h⟩; exact hkn h; cases h), if_pos hq0]
      simp only [go_sem, d_ref2_Int, d_ref4_Of, d_ref13_off, d_ref2_Zero, d_ref10_Hold, d_ref13_iv, d_i4_Ball, decide_true, decide_false, Bool.not_true, Bool.not_false, zN_val, hq, eC, cr_sz, cr_q, Bool.not_true, Bool.not_false, hO, hT, hkt, hqt, Nat.reduceBEq, Nat.reduceBNe, Nat.reduceLT, Nat.reduceLeDiff, Nat.reduceAdd, Nat.reduceSub, Nat.reduceMul, Nat.reduceEqDiff, Int.reduceNeg, Int.reduceAdd, Int.reduceLT, Int.reduceLE, Int.reduceToNat, ↓reduceIte]
      all_goals ((try and_intros) <;> first | exact trivial | omega | (show okDraw _ _ = true; kernel_rfl) | assumption)
    have hqt : (q = 0) = False := eq_false hq0
    have hT : rP true k q p = ivB (pIv true q (((tP p : Nat) : Int) + 130) k.toNat) (((tP p : Nat) : Int) + 130) := by unfold rP; rw [if_pos hO, if_neg (by intro h; rcases h with h | ⟨h, _⟩; exact hkn h; exact hq0 h), if_neg hq0]
    have hI : P.iback (pS q (((tP p : Nat) : Int) + 130) k.toNat) (cN 20) = pIv true q (((tP p : Nat) : Int) + 130) k.toNat := rfl
    obtain ⟨v1, v2⟩ := pIv_zz true (w := ((tP p : Nat) : Int) + 130) f2 f3 (by omega) (by omega) (k := k.toNat) (by omega)
    simp only [go_sem, d_ref2_Int, d_ref4_Of, d_ref13_off, d_ref2_Zero, d_ref10_Hold, d_ref13_iv, d_i4_Ball, decide_true, decide_false, Bool.not_true, Bool.not_false, zN_val, hq, eC, cr_sz, cr_q, Bool.not_true, Bool.not_false, hO, hT, hkt, hqt, hI, Nat.reduceBEq, Nat.reduceBNe, Nat.reduceLT, Nat.reduceLeDiff, Nat.reduceAdd, Nat.reduceSub, Nat.reduceMul, Nat.reduceEqDiff, Int.reduceNeg, Int.reduceAdd, Int.reduceLT, Int.reduceLE, Int.reduceToNat, ↓reduceIte]
    all_goals ((try and_intros) <;> first | exact trivial | omega | (show okDraw _ _ = true; kernel_rfl) | assumption)
end Go.Proofs.YtnjgliojkoeneaaGreat
namespace Go.Proofs.YtnjgliojkoeneaaGreat
open Go.RowKit
set_option linter.unusedSimpArgs false
set_option linter.unusedVariables false
theorem nm_eq {x : Rat} (hx : 0 ≤ x) : x * ((x.den : Nat) : Rat) = ((nm x : Nat) : Rat) := by
  have h1 := sg_nm x
  have h2 : ng x = false := by
    unfold ng
    have := Rat.num_nonneg.2 hx
    exact decide_eq_false (by omega)
  rw [h2] at h1
  simp only [Bool.false_eq_true, if_false] at h1
  rw [h1, rat_num]
theorem exp_parts2 {q : Rat} (p : Int) (h : expOk q = true) (h0 : q ≠ 0) : expLo q p = P.fr (expF q p) (hold p) ∧ expHi q p = P.fr (expF q p + 1) (hold p) := by
  unfold expLo expHi
  rw [if_pos h, if_pos h, if_neg h0, if_neg h0, fr_qv, fr_qv]
  exact ⟨rfl, rfl⟩
theorem qv_z (z : Int) (w : Nat) : qv (zN z).s z.natAbs (2 ^ w) * P.rp 2 w = ((z : Int) : Rat) := by
  have hne : ((2 ^ w : Nat) : Rat) ≠ 0 := by have := P.nat_pos (P.pow_pos2 w); grind
  rw [P.rp2_nat]
  unfold qv
  rw [Rat.mkRat_eq_div]
  have e : sg (zN z).s z.natAbs = z := by
    unfold sg
    rw [zN_s]
    split
    · rename_i h; have := of_decide_eq_true h; omega
    · rename_i h
      have : ¬ z < 0 := fun h2 => h (decide_eq_true h2)
      omega
  rw [e]
  exact Rat.div_mul_cancel hne
theorem iin_num (q : Rat) (w : Int) : P.Iin (cN w) (numZ q w) q := by
  have hp := P.nat_pos q.den_pos
  have hd : 0 < q.den := q.den_pos
  have a1 := P.ic_le (Int.ediv_mul_le (q.num * ((2 ^ cN w : Nat) : Int)) (b := (q.den : Int)) (by omega))
  have a2 := P.ic_le (Int.ediv_mul_le (-(q.num * ((2 ^ cN w : Nat) : Int))) (b := (q.den : Int)) (by omega))
  rw [P.ic_mul] at a1 a2
  rw [Rat.intCast_neg] at a2
  rw [P.ic_mul q.num, P.ic_pow] at a1 a2
  have e : (((q.den : Int) : Int) : Rat) = ((q.den : Nat) : Rat) := rfl
  rw [e] at a1 a2
  have eq := rat_num q
  have e2 : q * P.rp 2 (cN w) * ((q.den : Nat) : Rat) = (q.num : Rat) * P.rp 2 (cN w) := by rw [← eq]; grind
  refine ⟨Rat.le_of_mul_le_mul_right (c := ((q.den : Nat) : Rat)) ?_ hp, Rat.le_of_mul_le_mul_right (c := ((q.den : Nat) : Rat)) ?_ hp⟩
  · rw [e2]; exact a1
  · rw [e2]
    show _ ≤ ((-(-(q.num * ((2 ^ cN w : Nat) : Int)) / (q.den : Int)) : Int) : Rat) * _
    rw [Rat.intCast_neg]
    grind
theorem iback_pos {a : Int × Int} (n : Nat) (h : P.pos a) : P.pos (P.iback a n) := by
  obtain ⟨h1, h2⟩ := h
  exact ⟨P.iless_ge (by omega), P.imore_ge (by omega)⟩
theorem ivR_pos {q : Rat} {w : Int} (h : farB q = false) (hw : 20 ≤ w) : P.pos (ivR q w) := by
  obtain ⟨⟨a, _⟩, b, _⟩ := ivR_btw h hw
  have := P.pow_pos' (cN (w + 130) - 1)
  exact ⟨by omega, by omega⟩
/-- vernierref6's interval holds e to a power -/
theorem ivE_ex {q : Rat} {w : Nat} (h : farB q = false) (hw : 20 ≤ w) (hw2 : w ≤ 3000) : P.Ex w (ivE q (w : Int)) q ∧ P.pos (ivE q (w : Int)) := by
  obtain ⟨f1, f2⟩ := far_in h
  have hc : cN ((w : Int) + 130) = w + 130 := by unfold cN; omega
  have hc2 : cN 130 = 130 := by decide
  have hx : P.ab (qsm q) ≤ 1 / 4 := by
    have e : qv false 1 256 = (1 : Rat) / 256 := by decide +kernel
    unfold qsm
    rw [e]
    refine P.ab_le.2 ⟨?_, ?_⟩ <;> grind
  have hi := iin_num (qsm q) ((w : Int) + 130)
  have hin := num_in (w := (w : Int) + 130) f1 f2 (by omega)
  have h1 := P.rowIv_ex (by omega) hin hi hx
  have h1 : P.Ex (cN ((w : Int) + 130)) (ivR q w) (qsm q) := h1
  have hp := ivR_pos (w := (w : Int)) h (by omega)
  have h2 := P.sqI_ex h1 hp 8
  have hp2 := P.sqI_pos (W := cN ((w : Int) + 130)) hp 8
  have e8 : P.rp 2 8 * qsm q = q := by
    have e : qv false 1 256 = (1 : Rat) / 256 := by decide +kernel
    have e2 : P.rp 2 8 = 256 := by decide +kernel
    unfold qsm
    rw [e, e2]
    grind
  rw [e8] at h2
  have e3 : ivE q (w : Int) = P.iback (P.sqI (cN ((w : Int) + 130)) (ivR q w) 8) 130 := rfl
  rw [e3]
  refine ⟨?_, iback_pos _ hp2⟩
  rw [hc] at h2 ⊢
  exact h2.back
/-- the number of counts, without e's power -/
def Sv (all : Bool) (q : Rat) (k : Nat) : Rat := if all = true then P.RE q (k + 1) else P.rt q k
theorem Sv_nn (all : Bool) {q : Rat} (h : 0 ≤ q) (k : Nat) : 0 ≤ Sv all q k := by
  unfold Sv; split
  · exact P.RE_nn h _
  · exact P.rt_nn h _
/-- the document's ball -/
theorem ref_in (all : Bool) {q c : Rat} {w k : Nat} (h0 : 0 ≤ q) (h64 : q ≤ 64) (hw : 20 ≤ w) (hw2 : w ≤ 1000) :
    (P.EG (-q) c → Sv all q k * c ≤ (ivB (pIv all q (w : Int) k) (w : Int)).hi.q) ∧ (P.EL (-q) c → (ivB (pIv all q (w : Int) k) (w : Int)).lo.q ≤ Sv all q k * c) := by
  have hcw : cN (w : Int) = w := by unfold cN; omega
  have hcw2 : cN ((w : Int) + 20) = w + 20 := by unfold cN; omega
  have hc20 : cN 20 = 20 := by decide
  have hc120 : cN 120 = 120 := by decide
  obtain ⟨e1, e2⟩ := ivE_ex (w := w + 20 + 120) (far_neg h0 h64) (by omega) (by omega)
  have ecast : ((w + 20 + 120 : Nat) : Int) = (w : Int) + 20 + 120 := by omega
  rw [ecast] at e1 e2
  have ht : P.Ex (w + 20) (p0 q (w : Int)) (-q) := by
    have := P.Ex.back (n := 120) e1
    unfold p0
    rw [hc120]
    exact this
  have htp : P.pos (p0 q (w : Int)) := iback_pos _ e2
  have hy := iin_num q ((w : Int) + 20)
  have hyp := (pY_in (w := (w : Int)) h0 h64).2
  have hA : (((pA all q (w : Int) k).1 : Int) : Rat) ≤ Sv all q k * (((p0 q (w : Int)).1 : Int) : Rat) ∧ Sv all q k * (((p0 q (w : Int)).2 : Int) : Rat) ≤ (((pA all q (w : Int) k).2 : Int) : Rat) := by
    unfold pA Sv
    cases all with
    | true => exact P.ivS_in htp hyp hy h0 k
    | false => exact P.ivT_in htp hyp hy h0 k
  have hS := Sv_nn all h0 k
  have hp := P.rp2_pos w
  have q1 := qv_z (pIv all q (w : Int) k).1 w
  have q2 := qv_z (pIv all q (w : Int) k).2 w
  have e3 : (ivB (pIv all q (w : Int) k) (w : Int)).hi.q = qv (zN (pIv all q (w : Int) k).2).s (pIv all q (w : Int) k).2.natAbs (2 ^ w) := by
    unfold ivB; rw [hcw]; exact cr_q _
  have e4 : (ivB (pIv all q (w : Int) k) (w : Int)).lo.q = qv (zN (pIv all q (w : Int) k).1).s (pIv all q (w : Int) k).1.natAbs (2 ^ w) := by
    unfold ivB; rw [hcw]; exact cr_q _
  rw [e3, e4]
  constructor
  · intro hc
    have := P.iv_hi (w := w) (n := 20) ht hS hA.2 hc
    refine Rat.le_of_mul_le_mul_right (c := P.rp 2 w) ?_ hp
    rw [q2]
    exact this
  · intro hc
    have := P.iv_lo (w := w) (n := 20) ht hS hA.1 hc
    refine Rat.le_of_mul_le_mul_right (c := P.rp 2 w) ?_ hp
    rw [q1]
    exact this
theorem pois_prog (all : Bool) {q : Rat} {p : Int} {k : Nat} (h0 : 0 ≤ q) (h64 : q ≤ 64) (hq : q ≠ 0) (hd : q.den ≤ 2 ^ 200) (hk : k ≤ 60) :
    ∃ c d : Rat, P.EG (-q) c ∧ P.EL (-q) d ∧ (tBall all q p k).lo.q ≤ Sv all q k * c ∧ Sv all q k * d ≤ (tBall all q p k).hi.q ∧ (tBall all q p k).lo.q ≤ (tBall all q p k).hi.q ∧ (tBall all q p k).hi.q ≤ (tBall all q p k).lo.q + P.fr 1 (tP p) := by
  have hP : tP p ≤ 200 := by unfold tP; omega
  generalize hw : tP p + 128 = w
  have hok : expOk (-q) = true := by
    unfold expOk
    rw [decide_eq_true (show (-64 : Rat) ≤ -q by grind), decide_eq_true (show -q ≤ (64 : Rat) by grind)]
    rfl
  have hdn : (-q).den ≤ 2 ^ 200 := by rw [den_neg]; exact hd
  obtain ⟨a1, a2, a3, a4⟩ := exp_ends (q := -q) ((w : Nat) : Int) hok hdn
  obtain ⟨b1, b2⟩ := exp_parts2 ((w : Nat) : Int) hok (show -q ≠ 0 by grind)
  have hh : hold ((w : Nat) : Int) = w := by unfold hold; omega
  rw [hh] at b1 b2
  obtain ⟨t1, t2, t3⟩ := P.ends_three (w := w) b1 b2 (Rat.den_pos _) (Rat.den_pos _) (nm_eq a3) (nm_eq a4)
  have eE : tE q p = ((P.spOf (nm (expLo (-q) ((w : Nat) : Int))) (expLo (-q) ((w : Nat) : Int)).den w).1, (P.spOf (nm (expHi (-q) ((w : Nat) : Int))) (expHi (-q) ((w : Nat) : Int)).den w).2) := by
    have e1 : ∀ x : Rat, val (cr x).n = nm x := fun x => val_limbs _
    have e2 : ∀ x : Rat, val (cr x).d = x.den := fun x => val_limbs _
    unfold tE ballSp
    rw [hw]
    simp only [bb, e1, e2]
  have hE12 : (tE q p).1 ≤ (tE q p).2 := by
    have c1 := P.Cn.le (P.cn_of (Rat.den_pos _) (nm_eq a3) w)
    have c2 := P.Cn.le (P.cn_of (Rat.den_pos _) (nm_eq a4) w)
    have c3 := a2.ge a1
    have c4 := Rat.le_trans c1.1 (Rat.le_trans c3 c2.2)
    rw [eE]
    simp only
    rcases Nat.lt_or_ge (P.spOf (nm (expHi (-q) ((w : Nat) : Int))) (expHi (-q) ((w : Nat) : Int)).den w).2 (P.spOf (nm (expLo (-q) ((w : Nat) : Int))) (expLo (-q) ((w : Nat) : Int)).den w).1 with h | h
    · exfalso
      have m1 := Rat.mul_le_mul_of_nonneg_right c4 (Rat.le_of_lt (P.rp2_pos w))
      rw [P.fr_mul, P.fr_mul] at m1
      have := Rat.natCast_le_natCast.1 m1
      omega
    · exact h
  have hE3 : (tE q p).2 ≤ (tE q p).1 + 3 := by rw [eE]; exact t1
  have f1 : P.EG (-q) (P.fr (tE q p).1 w) := by rw [eE]; exact a1.le t2
  have f2 : P.EL (-q) (P.fr (tE q p).2 w) := by rw [eE]; exact a2.le t3
  have hqd := nm_eq h0
  have hcn : P.Cn w (tS all q p k) (Sv all q k) := by
    unfold tS Sv
    rw [hw]
    cases all with
    | true =>
      have := P.cn_csS (w := w) (k := k) q.den_pos hqd k
      rw [Rat.add_comm, ← P.RE_succ] at this
      exact this
    | false => exact P.cn_cs q.den_pos hqd k
  have hS := Sv_nn all h0 k
  have hs1 := hcn.le
  have hR1 := P.RE_ge1 h0 k
  have hR2 := P.RE_bound h0 h64 (k + 1)
  have hwid : (((tS all q p k).2 : Nat) : Rat) ≤ (((tS all q p k).1 : Nat) : Rat) + 61 * (P.rp 2 105 * P.RE q (k + 1)) ∧ (((tS all q p k).2 : Nat) : Rat) ≤ 61 * (2 * (P.RE q (k + 1) * P.rp 2 w)) := by
    have n1 : (0 : Rat) ≤ P.rp 2 105 * P.RE q (k + 1) := Rat.mul_nonneg (by decide +kernel) (by grind)
    have n2 : (0 : Rat) ≤ 2 * (P.RE q (k + 1) * P.rp 2 w) := Rat.mul_nonneg (by decide) (Rat.mul_nonneg (by grind) (Rat.le_of_lt (P.rp2_pos w)))
    unfold tS
    rw [hw]
    cases all with
    | true =>
      obtain ⟨u, v⟩ := P.csS_width (k := k) q.den_pos hqd h0 h64 (show 128 ≤ w by omega) k (Nat.le_refl k)
      have hk61 : ((k + 1 : Nat) : Rat) ≤ 61 := Rat.natCast_le_natCast.2 (show k + 1 ≤ 61 by omega)
      have g1 := Rat.mul_le_mul_of_nonneg_right hk61 n1
      have g2 := Rat.mul_le_mul_of_nonneg_right hk61 n2
      simp only [if_true]
      exact ⟨by grind, by grind⟩
    | false =>
      have u := P.cs_width q.den_pos hqd h0 h64 (show 128 ≤ w by omega) k
      have v := P.cs_hi q.den_pos hqd h0 (show 128 ≤ w by omega) u
      simp only [Bool.false_eq_true, if_false]
      unfold cF
      exact ⟨by grind, by grind⟩
  have hRE : P.RE q (k + 1) * (((tE q p).1 : Nat) : Rat) ≤ P.rp 2 w := by
    have g := P.EG.add (show (0 : Rat) ≤ P.RE q (k + 1) by grind) (P.EG.sum h0 (k + 1)) f1
    rw [Rat.add_neg_cancel] at g
    have g2 := Rat.mul_le_mul_of_nonneg_right (P.EL.zero.ge g) (Rat.le_of_lt (P.rp2_pos w))
    rw [Rat.mul_assoc, P.fr_mul, Rat.one_mul] at g2
    exact g2
  have hnar := P.told_width hR1 hR2 hwid.1 hwid.2 hE3 hRE
  have hn2 := P.told_narrow (p := tP p) hnar
  have h126 : w - (tP p + 2) = 126 := by omega
  have eB : tBall all q p k = toldB (P.spMul (tS all q p k) (tE q p) w) w (tP p + 2) := by unfold tBall; rw [hw]
  have eLo : (tBall all q p k).lo.q = P.fr ((P.spMul (tS all q p k) (tE q p) w).1 / 2 ^ 126) (tP p + 2) := by
    rw [eB]; unfold toldB; rw [h126, fr_qv]; exact cr_q _
  have eHi : (tBall all q p k).hi.q = P.fr ((P.spMul (tS all q p k) (tE q p) w).2 / 2 ^ 126 + 1) (tP p + 2) := by
    rw [eB]; unfold toldB; rw [h126, fr_qv]; exact cr_q _
  obtain ⟨g1, g2⟩ := P.told_in (s := tS all q p k) (e := tE q p) (w := w) (p := tP p + 2) (by omega) hcn.sp hE12
  have g3 := P.told_hi (s := tS all q p k) (e := tE q p) (w := w) (p := tP p + 2) (by omega)
  rw [h126] at g1 g2 g3
  refine ⟨P.fr (tE q p).1 w, P.fr (tE q p).2 w, f1, f2, ?_, ?_, ?_, ?_⟩
  · rw [eLo]
    exact Rat.le_trans g1 (Rat.mul_le_mul_of_nonneg_right hs1.1 (P.fr_nn _ _))
  · rw [eHi]
    exact Rat.le_trans (Rat.mul_le_mul_of_nonneg_right hs1.2 (P.fr_nn _ _)) g3
  · rw [eLo, eHi]
    exact Rat.le_trans g1 g2
  · rw [eLo, eHi]
    exact hn2
theorem good_same (x : Rat) (p : Int) : goodB (bb x x) (bb x x) p = true := by
  have h1 : isB (bb x x) = true := isB_cr (Rat.le_refl)
  have h2 : (bb x x).hi.q - (bb x x).lo.q ≤ qv false 1 (2 ^ hold p) := by
    rw [← fr_qv]
    simp only [bb, cr_q]
    rw [Rat.sub_self]
    exact P.fr_nn _ _
  have h3 : sideI (bb x x) (bb x x) = 0 := side_zero.2 (by simp only [bb, cr_q]; exact ⟨Rat.le_refl, Rat.le_refl⟩)
  unfold goodB
  rw [h1, decide_eq_true h2, decide_eq_true h3]
  rfl
/-- the program's ball is a good one -/
theorem good_pois (all : Bool) {k : Int} {q : Rat} {p : Int} (h : tOkK k q = true) (hk : k ≤ 60) (hd : q.den ≤ 2 ^ 200) (hp : p ≤ 80) : goodB (tBK all k q p) (rP all k q (max p 0 + 20)) p = true := by
  obtain ⟨f1, f2, f3, f4, f5⟩ := tOkK_facts h
  have e1 : tBK all k q p = tB all k q p := if_neg (by omega)
  rw [e1]
  by_cases c1 : k < 0 ∨ (q = 0 ∧ 0 < k ∧ all = false)
  · have e2 : tB all k q p = bb ((0 : Int) : Rat) ((0 : Int) : Rat) := by unfold tB; rw [if_pos f5, if_pos c1]
    have e3 : rP all k q (max p 0 + 20) = bb ((0 : Int) : Rat) ((0 : Int) : Rat) := by unfold rP; rw [if_pos h, if_pos c1]
    rw [e2, e3]
    exact good_same _ _
  · by_cases c2 : q = 0
    · have e2 : tB all k q p = bb ((1 : Int) : Rat) ((1 : Int) : Rat) := by unfold tB; rw [if_pos f5, if_neg c1, if_pos c2]
      have e3 : rP all k q (max p 0 + 20) = bb ((1 : Int) : Rat) ((1 : Int) : Rat) := by unfold rP; rw [if_pos h, if_neg c1, if_pos c2]
      rw [e2, e3]
      exact good_same _ _
    · have e2 : tB all k q p = tBall all q p k.toNat := by unfold tB; rw [if_pos f5, if_neg c1, if_neg c2]
      have hr : ((tP (max p 0 + 20) : Nat) : Int) + 130 = ((tP (max p 0 + 20) + 130 : Nat) : Int) := by omega
      have e3 : rP all k q (max p 0 + 20) = ivB (pIv all q ((tP (max p 0 + 20) + 130 : Nat) : Int) k.toNat) ((tP (max p 0 + 20) + 130 : Nat) : Int) := by unfold rP; rw [if_pos h, if_neg c1, if_neg c2, hr]
      rw [e2, e3]
      have hw2 : tP (max p 0 + 20) ≤ 200 := by unfold tP; omega
      obtain ⟨c, d, g1, g2, g3, g4, g5, g6⟩ := pois_prog all (p := p) (k := k.toNat) f2 f3 c2 hd (by omega)
      obtain ⟨r1, _⟩ := ref_in all (c := c) (w := tP (max p 0 + 20) + 130) (k := k.toNat) f2 f3 (by omega) (by omega)
      obtain ⟨_, r2⟩ := ref_in all (c := d) (w := tP (max p 0 + 20) + 130) (k := k.toNat) f2 f3 (by omega) (by omega)
      have s1 := Rat.le_trans g3 (r1 g1)
      have s2 := Rat.le_trans (r2 g2) g4
      have hhp : hold p = tP p := by unfold hold tP; omega
      have h3 : sideI (tBall all q p k.toNat) (ivB (pIv all q ((tP (max p 0 + 20) + 130 : Nat) : Int) k.toNat) ((tP (max p 0 + 20) + 130 : Nat) : Int)) = 0 := side_zero.2 ⟨s2, s1⟩
      have h2 : (tBall all q p k.toNat).hi.q - (tBall all q p k.toNat).lo.q ≤ qv false 1 (2 ^ hold p) := by
        rw [← fr_qv, hhp]
        grind
      have h1 : isB (tBall all q p k.toNat) = true := by
        unfold tBall toldB at g5 ⊢
        simp only [bb, cr_q] at g5
        exact isB_cr g5
      unfold goodB
      rw [h1, decide_eq_true h2, decide_eq_true h3]
      rfl
theorem den_64 {x : Rat} (h : rs x ≤ 2) : x.den ≤ 2 ^ 200 := by
  have h2 := lt_of_limbs_len (rs_parts h).2
  have h3 : (2 : Nat) ^ 64 ≤ 2 ^ 200 := Nat.pow_le_pow_right (by omega) (by omega)
  have h4 : (4294967296 : Nat) ^ 2 = 2 ^ 64 := by decide
  omega
end Go.Proofs.YtnjgliojkoeneaaGreat
