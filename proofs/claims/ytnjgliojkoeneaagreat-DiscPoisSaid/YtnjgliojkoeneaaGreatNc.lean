/- vernierref4's intervals by the abstract walk. Conditions: at most 10^8 limbs. vernierref6: row, Iv, Exp, by the abstract walk. Conditions: powers at most 64 without their sign, at most 10^6 limbs. -/
import Derived.Test.YtnjgliojkoeneaaGreatNa
import Derived.Test.YtnjgliojkoeneaaGreatPi
namespace Go.Proofs.YtnjgliojkoeneaaGreat
open Go.RowKit
set_option linter.unusedSimpArgs false
set_option linter.unusedVariables false
def ZZ (p : Int × Int) (K : Nat) : Prop := zs p.1 ≤ K ∧ zs p.2 ≤ K
theorem zs_more (a n : Int) : zs (moreZ a n) ≤ zs a + 2 := by unfold moreZ; rw [zs_neg]; have := zs_less (-a) n; rwa [zs_neg] at this
@[go_sem] theorem cmpZ_lt0 (a b : Int) : (cmpZ a b < 0) = (a < b) := by unfold cmpZ; apply propext; split <;> (try split) <;> omega
@[go_sem] theorem cmpZ_gt0 (a b : Int) : (0 < cmpZ a b) = (b < a) := by unfold cmpZ; apply propext; split <;> (try split) <;> omega
@[go_sem] theorem cmpZ_le0 (a b : Int) : (cmpZ a b ≤ 0) = (a ≤ b) := by unfold cmpZ; apply propext; split <;> (try split) <;> omega
@[go_sem] theorem cmpZ_eq0 (a b : Int) : (cmpZ a b = 0) = (a = b) := by unfold cmpZ; apply propext; split <;> (try split) <;> omega
theorem zs_nat (z : Int) : zs ((z.natAbs : Nat) : Int) = zs z := rfl
def numZ (q : Rat) (w : Int) : Int × Int := (fallZ (q.num * ((2 ^ cN w : Nat) : Int)) q.den, riseZ (q.num * ((2 ^ cN w : Nat) : Int)) q.den)
def d_i4_Sum : Den := den2 aIv aIv (fun a b => ZZ a 100000000 ∧ ZZ b 100000000) fun a b => ivV (P.isum a b)
set_option maxRecDepth 100000 in
set_option maxHeartbeats 2000000 in
theorem s_i4_Sum : Sound Tryz.prog 47 d_i4_Sum := by
  refine sound2 (fz := nofz) (l := [(82, d_i4_Plus)]) TT_ok ⟨s_i4_Plus, trivial⟩ mixed Tryz.func47 Tryz.ntmps47 Tryz.results47 Tryz.call47 rfl (by omega) (fun _ _ => rfl) ?_
  intro a b hp ha hb
  rw [codeK_start]
  obtain ⟨⟨h1, h2⟩, h3, h4⟩ := hp
  have l1 : SZ a.1 := by unfold SZ; omega
  have l2 : SZ a.2 := by unfold SZ; omega
  have l3 : SZ b.1 := by unfold SZ; omega
  have l4 : SZ b.2 := by unfold SZ; omega
  simp only [go_sem, d_i4_Plus, decide_true, decide_false, Bool.not_true, Bool.not_false, zN_val, P.isum, Nat.reduceBEq, Nat.reduceBNe, Nat.reduceLT, Nat.reduceLeDiff, Nat.reduceAdd, Nat.reduceSub, Nat.reduceMul, Nat.reduceEqDiff, Int.reduceNeg, Int.reduceAdd, Int.reduceLT, Int.reduceLE, Int.reduceToNat, ↓reduceIte]
  all_goals ((try and_intros) <;> first | exact trivial | omega | (show okDraw _ _ = true; kernel_rfl) | assumption)
def d_i4_By : Den := den2 aIv aInt (fun a b => ZZ a 100000000 ∧ 0 ≤ b ∧ b ≤ 1000000000) fun a b => ivV (P.iby a b.toNat)
set_option maxRecDepth 100000 in
set_option maxHeartbeats 2000000 in
theorem s_i4_By : Sound Tryz.prog 45 d_i4_By := by
  refine sound2 (fz := nofz) (l := [(40, d_ref1_Of), (74, d_i4_Fall), (75, d_i4_Rise)]) TT_ok ⟨s_ref1_Of, s_i4_Fall, s_i4_Rise, trivial⟩ mixed Tryz.func45 Tryz.ntmps45 Tryz.results45 Tryz.call45 rfl (by omega) (fun _ _ => rfl) ?_
  intro a b hp ha hb
  rw [codeK_start]
  obtain ⟨⟨h1, h2⟩, h3, h4⟩ := hp
  have l1 : SZ a.1 := by unfold SZ; omega
  have l2 : zs a.2 ≤ 900000000 := by omega
  have w1 : IntKind.wrap .u64 b = b := by rw [IntKind.wrap_u64]; omega
  have l3 : (limbs b.toNat).length ≤ 100 := by
    have := len_bits (m := b.toNat) (B := 64) (by omega)
    omega
  have e1 : P.iby a b.toNat = (fallZ a.1 b.toNat, riseZ a.2 b.toNat) := rfl
  simp only [go_sem, d_ref1_Of, d_i4_Fall, d_i4_Rise, decide_true, decide_false, Bool.not_true, Bool.not_false, zN_val, w1, e1, val_limbs, Nat.reduceBEq, Nat.reduceBNe, Nat.reduceLT, Nat.reduceLeDiff, Nat.reduceAdd, Nat.reduceSub, Nat.reduceMul, Nat.reduceEqDiff, Int.reduceNeg, Int.reduceAdd, Int.reduceLT, Int.reduceLE, Int.reduceToNat, ↓reduceIte]
  all_goals ((try and_intros) <;> first | exact trivial | omega | (show okDraw _ _ = true; kernel_rfl) | assumption)
def d_i4_Wide : Den := den2 aIv aInt (fun a b => ZZ a 100000000 ∧ 0 ≤ b ∧ b ≤ 1000000) fun a b => ivV (P.iwide a b)
set_option maxRecDepth 100000 in
set_option maxHeartbeats 2000000 in
theorem s_i4_Wide : Sound Tryz.prog 108 d_i4_Wide := by
  refine sound2 (fz := nofz) (l := [(107, d_i4_Whole), (82, d_i4_Plus)]) TT_ok ⟨s_i4_Whole, s_i4_Plus, trivial⟩ mixed Tryz.func108 Tryz.ntmps108 Tryz.results108 Tryz.call108 rfl (by omega) (fun _ _ => rfl) ?_
  intro a b hp ha hb
  rw [codeK_start]
  obtain ⟨⟨h1, h2⟩, h3, h4⟩ := hp
  have l1 : SZ a.1 := by unfold SZ; omega
  have l2 : SZ a.2 := by unfold SZ; omega
  have l3 : SZ (-b) := by
    have := zs_bits (z := -b) (B := 64) (by omega)
    unfold SZ; omega
  have l4 : SZ b := by
    have := zs_bits (z := b) (B := 64) (by omega)
    unfold SZ; omega
  have e0 : (0 - b : Int) = -b := Int.zero_sub b
  simp only [go_sem, d_i4_Whole, d_i4_Plus, decide_true, decide_false, Bool.not_true, Bool.not_false, zN_val, P.iwide, e0, Nat.reduceBEq, Nat.reduceBNe, Nat.reduceLT, Nat.reduceLeDiff, Nat.reduceAdd, Nat.reduceSub, Nat.reduceMul, Nat.reduceEqDiff, Int.reduceNeg, Int.reduceAdd, Int.reduceLT, Int.reduceLE, Int.reduceToNat, ↓reduceIte]
  all_goals ((try and_intros) <;> first | exact trivial | omega | (show okDraw _ _ = true; kernel_rfl) | assumption)
def d_i4_Most : Den := den1 aIv (fun a => ZZ a 100000000) fun a => zV (P.imost a)
set_option maxRecDepth 100000 in
set_option maxHeartbeats 2000000 in
theorem s_i4_Most : Sound Tryz.prog 106 d_i4_Most := by
  refine sound1 (fz := nofz) (l := [(81, d_i4_Cmp)]) TT_ok ⟨s_i4_Cmp, trivial⟩ mixed Tryz.func106 Tryz.ntmps106 Tryz.results106 Tryz.call106 rfl (by omega) (fun _ => rfl) ?_
  intro a hp ha
  rw [codeK_start]
  obtain ⟨h1, h2⟩ := hp
  have l1 : zs ((a.1.natAbs : Nat) : Int) ≤ 900000000 := by rw [zs_nat]; omega
  have l2 : zs ((a.2.natAbs : Nat) : Int) ≤ 900000000 := by rw [zs_nat]; omega
  by_cases h : ((a.2.natAbs : Nat) : Int) < ((a.1.natAbs : Nat) : Int)
  · have e1 : P.imost a = ((a.1.natAbs : Nat) : Int) := if_pos h
    have e2 : (((a.2.natAbs : Nat) : Int) < ((a.1.natAbs : Nat) : Int)) = True := eq_true h
    have e3 := zN_nat a.1.natAbs
    simp only [go_sem, d_i4_Cmp, decide_true, decide_false, Bool.not_true, Bool.not_false, zN_val, e1, e2, e3, zN_n, Nat.reduceBEq, Nat.reduceBNe, Nat.reduceLT, Nat.reduceLeDiff, Nat.reduceAdd, Nat.reduceSub, Nat.reduceMul, Nat.reduceEqDiff, Int.reduceNeg, Int.reduceAdd, Int.reduceLT, Int.reduceLE, Int.reduceToNat, ↓reduceIte]
    all_goals ((try and_intros) <;> first | exact trivial | omega | (show okDraw _ _ = true; kernel_rfl) | assumption)
  · have e1 : P.imost a = ((a.2.natAbs : Nat) : Int) := if_neg h
    have e2 : (((a.2.natAbs : Nat) : Int) < ((a.1.natAbs : Nat) : Int)) = False := eq_false h
    have e3 := zN_nat a.2.natAbs
    simp only [go_sem, d_i4_Cmp, decide_true, decide_false, Bool.not_true, Bool.not_false, zN_val, e1, e2, e3, zN_n, Nat.reduceBEq, Nat.reduceBNe, Nat.reduceLT, Nat.reduceLeDiff, Nat.reduceAdd, Nat.reduceSub, Nat.reduceMul, Nat.reduceEqDiff, Int.reduceNeg, Int.reduceAdd, Int.reduceLT, Int.reduceLE, Int.reduceToNat, ↓reduceIte]
    all_goals ((try and_intros) <;> first | exact trivial | omega | (show okDraw _ _ = true; kernel_rfl) | assumption)
def d_i4_Back : Den := den2 aIv aInt (fun a b => ZZ a 100000000 ∧ 0 ≤ b ∧ b ≤ 1000000000) fun a b => ivV (P.iback a (cN b))
set_option maxRecDepth 100000 in
set_option maxHeartbeats 2000000 in
theorem s_i4_Back : Sound Tryz.prog 44 d_i4_Back := by
  refine sound2 (fz := nofz) (l := [(78, d_i4_Less), (79, d_i4_More)]) TT_ok ⟨s_i4_Less, s_i4_More, trivial⟩ mixed Tryz.func44 Tryz.ntmps44 Tryz.results44 Tryz.call44 rfl (by omega) (fun _ _ => rfl) ?_
  intro a b hp ha hb
  rw [codeK_start]
  obtain ⟨⟨h1, h2⟩, h3, h4⟩ := hp
  have l1 : SZ a.1 := by unfold SZ; omega
  have l2 : zs a.2 ≤ 900000000 := by omega
  have e1 : P.iback a (cN b) = (lessZ a.1 b, moreZ a.2 b) := rfl
  simp only [go_sem, d_i4_Less, d_i4_More, decide_true, decide_false, Bool.not_true, Bool.not_false, zN_val, e1, Nat.reduceBEq, Nat.reduceBNe, Nat.reduceLT, Nat.reduceLeDiff, Nat.reduceAdd, Nat.reduceSub, Nat.reduceMul, Nat.reduceEqDiff, Int.reduceNeg, Int.reduceAdd, Int.reduceLT, Int.reduceLE, Int.reduceToNat, ↓reduceIte]
  all_goals ((try and_intros) <;> first | exact trivial | omega | (show okDraw _ _ = true; kernel_rfl) | assumption)
def d_i4_Rat : Den := den2 aZ aInt (fun a b => SZ a ∧ 0 ≤ b ∧ b ≤ 1000000000) fun a b => ratV (cr (qv (zN a).s a.natAbs (2 ^ cN b)))
set_option maxRecDepth 100000 in
set_option maxHeartbeats 2000000 in
theorem s_i4_Rat : Sound Tryz.prog 48 d_i4_Rat := by
  refine sound2 (fz := nofz) (l := [(83, d_i4_pow2), (24, d_ref2_Of)]) TT_ok ⟨s_i4_pow2, s_ref2_Of, trivial⟩ mixed Tryz.func48 Tryz.ntmps48 Tryz.results48 Tryz.call48 rfl (by omega) (fun _ _ => rfl) ?_
  intro a b hp ha hb
  rw [codeK_start]
  obtain ⟨h1, h3, h4⟩ := hp
  have h1 : (zN a).n.length ≤ 1000000000 := h1
  have l1 : (zN a).n.length ≤ 100000000000 := by omega
  have l3 : (limbs (2 ^ cN b)).length ≤ 100000 := by
    have h : cN b < cN b + 1 := Nat.lt_succ_self _
    have h2 : cN b ≤ 4096 := by unfold cN; omega
    have := len_bits (m := 2 ^ cN b) (B := cN b + 1) (Nat.pow_lt_pow_right (by omega) h)
    omega
  simp only [go_sem, d_i4_pow2, d_ref2_Of, decide_true, decide_false, Bool.not_true, Bool.not_false, zN_val, val_limbs, Nat.reduceBEq, Nat.reduceBNe, Nat.reduceLT, Nat.reduceLeDiff, Nat.reduceAdd, Nat.reduceSub, Nat.reduceMul, Nat.reduceEqDiff, Int.reduceNeg, Int.reduceAdd, Int.reduceLT, Int.reduceLE, Int.reduceToNat, ↓reduceIte]
  all_goals ((try and_intros) <;> first | exact trivial | omega | (show okDraw _ _ = true; kernel_rfl) | assumption)
theorem num_up (q : Rat) (k : Nat) : zN (q.num * ((2 ^ k : Nat) : Int)) = ⟨ng q, limbs (nm q * 2 ^ k)⟩ := by
  have hp : (0 : Int) < ((2 ^ k : Nat) : Int) := P.pow_pos' k
  have e : (q.num * ((2 ^ k : Nat) : Int)).natAbs = nm q * 2 ^ k := by rw [Int.natAbs_mul]; rfl
  have e2 : decide (q.num * ((2 ^ k : Nat) : Int) < 0) = ng q := by
    unfold ng
    have : (q.num * ((2 ^ k : Nat) : Int) < 0) = (q.num < 0) := propext ⟨fun h => by
      rcases Int.lt_trichotomy q.num 0 with h' | h' | h'
      · exact h'
      · rw [h'] at h; simp at h
      · have := Int.mul_pos h' hp; omega, fun h => Int.mul_neg_of_neg_of_pos h hp⟩
    simp only [this]
  unfold zN
  rw [e, e2]
theorem zs_num {q : Rat} {K : Nat} (h : (limbs (nm q)).length ≤ K) (b : Int) : zs (q.num * ((2 ^ cN b : Nat) : Int)) ≤ K + 200 := by
  have h1 := zs_mul q.num ((2 ^ cN b : Nat) : Int)
  have h2 : zs ((2 ^ cN b : Nat) : Int) ≤ (cN b + 1) / 32 + 1 := zs_bits (B := cN b + 1) (by
    rw [Int.natAbs_natCast]
    exact Nat.pow_lt_pow_right (by omega) (Nat.lt_succ_self _))
  have h4 : cN b ≤ 4096 := by unfold cN; omega
  have h3 : zs q.num = (limbs (nm q)).length := rfl
  omega
def d_i4_Num : Den := den2 aRat aInt (fun a b => a.sz ≤ 1000000 ∧ 0 ≤ b ∧ b ≤ 1000000000) fun a b => ivV (numZ a.q b)
set_option maxRecDepth 100000 in
set_option maxHeartbeats 2000000 in
theorem s_i4_Num : Sound Tryz.prog 41 d_i4_Num := by
  refine sound2 (fz := nofz) (l := [(39, d_ref2_Norm), (51, d_ref1_ShiftC), (74, d_i4_Fall), (75, d_i4_Rise)]) TT_ok ⟨s_ref2_Norm, s_ref1_ShiftC, s_i4_Fall, s_i4_Rise, trivial⟩ mixed Tryz.func41 Tryz.ntmps41 Tryz.results41 Tryz.call41 rfl (by omega) (fun _ _ => rfl) ?_
  intro a b hp ha hb
  rw [codeK_start]
  obtain ⟨h1, h3, h4⟩ := hp
  have q1 : rs a.q ≤ 1000000 := rs_ok ha h1 (by omega)
  have n1 := rs_nm a.q
  have d1 := rs_den a.q
  have s2 : ∀ m, shiftN m (clampN b) = m * 2 ^ cN b := fun m => sh_up h3
  have e0 : (cr a.q).s = ng a.q := rfl
  have e1 : zN (a.q.num * ((2 ^ cN b : Nat) : Int)) = ⟨ng a.q, limbs (nm a.q * 2 ^ cN b)⟩ := num_up a.q (cN b)
  have e1s : ng a.q = (zN (a.q.num * ((2 ^ cN b : Nat) : Int))).s := by rw [e1]
  have e1n : limbs (nm a.q * 2 ^ cN b) = (zN (a.q.num * ((2 ^ cN b : Nat) : Int))).n := by rw [e1]
  have l5 : (limbs a.q.den).length ≤ 1000000000 := by omega
  have l6 : (limbs (nm a.q)).length ≤ 1000000 := by omega
  have l7 : zs (a.q.num * ((2 ^ cN b : Nat) : Int)) ≤ 900000000 := by
    have := zs_num (q := a.q) (K := 1000000) l6 b
    omega
  have l8 : SZ (a.q.num * ((2 ^ cN b : Nat) : Int)) := by unfold SZ; omega
  simp only [go_sem, d_ref2_Norm, d_ref1_ShiftC, d_i4_Fall, d_i4_Rise, decide_true, decide_false, Bool.not_true, Bool.not_false, zN_val, s2, cr_n, cr_d, cr_s, val_limbs, e1s, e1n, numZ, Nat.reduceBEq, Nat.reduceBNe, Nat.reduceLT, Nat.reduceLeDiff, Nat.reduceAdd, Nat.reduceSub, Nat.reduceMul, Nat.reduceEqDiff, Int.reduceNeg, Int.reduceAdd, Int.reduceLT, Int.reduceLE, Int.reduceToNat, ↓reduceIte]
  all_goals ((try and_intros) <;> first | exact trivial | omega | (show okDraw _ _ = true; kernel_rfl) | assumption)
def pr4 (a b : Int × Int) : Nat → Int
  | 0 => a.1 * b.1
  | 1 => a.1 * b.2
  | 2 => a.2 * b.1
  | _ => a.2 * b.2
def lo4 (f : Nat → Int) : Nat → Int
  | 0 => f 0
  | n + 1 => min (lo4 f n) (f (n + 1))
def hi4 (f : Nat → Int) : Nat → Int
  | 0 => f 0
  | n + 1 => max (hi4 f n) (f (n + 1))
theorem lo4_go {f : Nat → Int} {n : Nat} (h : f (n + 1) < lo4 f n) : lo4 f (n + 1) = f (n + 1) := by show min _ _ = _; omega
theorem lo4_no {f : Nat → Int} {n : Nat} (h : ¬ f (n + 1) < lo4 f n) : lo4 f (n + 1) = lo4 f n := by show min _ _ = _; omega
theorem hi4_go {f : Nat → Int} {n : Nat} (h : hi4 f n < f (n + 1)) : hi4 f (n + 1) = f (n + 1) := by show max _ _ = _; omega
theorem hi4_no {f : Nat → Int} {n : Nat} (h : ¬ hi4 f n < f (n + 1)) : hi4 f (n + 1) = hi4 f n := by show max _ _ = _; omega
theorem zs_lo4 {f : Nat → Int} {K : Nat} (h : ∀ i, zs (f i) ≤ K) : ∀ n, zs (lo4 f n) ≤ K
  | 0 => h 0
  | n + 1 => by
    rcases (show lo4 f (n + 1) = lo4 f n ∨ lo4 f (n + 1) = f (n + 1) by show min _ _ = _ ∨ min _ _ = _; omega) with e | e
    · rw [e]; exact zs_lo4 h n
    · rw [e]; exact h _
theorem zs_hi4 {f : Nat → Int} {K : Nat} (h : ∀ i, zs (f i) ≤ K) : ∀ n, zs (hi4 f n) ≤ K
  | 0 => h 0
  | n + 1 => by
    rcases (show hi4 f (n + 1) = hi4 f n ∨ hi4 f (n + 1) = f (n + 1) by show max _ _ = _ ∨ max _ _ = _; omega) with e | e
    · rw [e]; exact zs_hi4 h n
    · rw [e]; exact h _
def rows4 (a b : Int × Int) : List (List CV) := [zC (pr4 a b 0), zC (pr4 a b 1), zC (pr4 a b 2), zC (pr4 a b 3)]
theorem prod_eq (a b : Int × Int) (w : Int) : P.iprod a b (cN w) = (lessZ (lo4 (pr4 a b) 3) w, moreZ (hi4 (pr4 a b) 3) w) := rfl
def d_i4_Prod : Den := den3 aIv aIv aInt (fun a b c => ZZ a 100000000 ∧ ZZ b 100000000 ∧ 0 ≤ c ∧ c ≤ 1000000000) fun a b c => ivV (P.iprod a b (cN c))
set_option maxRecDepth 100000 in
set_option maxHeartbeats 2000000 in
theorem s_i4_Prod : Sound Tryz.prog 46 d_i4_Prod := by
  refine sound3 (fz := nofz) (l := [(80, d_i4_Times), (81, d_i4_Cmp), (78, d_i4_Less), (79, d_i4_More)]) TT_ok ⟨s_i4_Times, s_i4_Cmp, s_i4_Less, s_i4_More, trivial⟩ mixed Tryz.func46 Tryz.ntmps46 Tryz.results46 Tryz.call46 rfl (by omega) (fun _ _ _ => rfl) ?_
  intro a b c hp ha hb hc
  rw [codeK_start]
  obtain ⟨⟨h1, h2⟩, ⟨h3, h4⟩, h5, h6⟩ := hp
  have l1 : SZ a.1 := by unfold SZ; omega
  have l2 : SZ a.2 := by unfold SZ; omega
  have l3 : SZ b.1 := by unfold SZ; omega
  have l4 : SZ b.2 := by unfold SZ; omega
  have hr : ∀ i, zs (pr4 a b i) ≤ 300000000 := by
    have m1 := zs_mul a.1 b.1
    have m2 := zs_mul a.1 b.2
    have m3 := zs_mul a.2 b.1
    have m4 := zs_mul a.2 b.2
    intro i
    unfold pr4
    split <;> omega
  have hlo := zs_lo4 hr
  have hhi := zs_hi4 hr
  simp only [go_sem, d_i4_Times, d_i4_Cmp, d_i4_Less, d_i4_More, decide_true, decide_false, Bool.not_true, Bool.not_false, zN_val, Nat.reduceBEq, Nat.reduceBNe, Nat.reduceLT, Nat.reduceLeDiff, Nat.reduceAdd, Nat.reduceSub, Nat.reduceMul, Nat.reduceEqDiff, Int.reduceNeg, Int.reduceAdd, Int.reduceLT, Int.reduceLE, Int.reduceToNat, ↓reduceIte]
  and_intros
  all_goals try (first | exact trivial | omega | assumption | (show okDraw _ _ = true; kernel_rfl))
  refine codeK_loop (fun i : { i : Nat // i ≤ 3 } => [(10, 0, .av (intV ((i.1 : Nat) + 1 : Int))), (8, 0, .av (.one (.cel (.ptr 8 0)))), (8, 1, .cv (.bool (zN (lo4 (pr4 a b) i.1)).s)), (8, 2, .cv (.lim none (zN (lo4 (pr4 a b) i.1)).n)), (9, 0, .av (.one (.cel (.ptr 9 0)))), (9, 1, .cv (.bool (zN (hi4 (pr4 a b) i.1)).s)), (9, 2, .cv (.lim none (zN (hi4 (pr4 a b) i.1)).n)), (7, 0, .av (.one (.cel (.sl none 2 (rows4 a b))))), (2, 0, .av (intV c)), (6, 0, .av (.one (.cel (.ptr 6 0)))), (6, 1, .cv (.bool false)), (6, 2, .cv .nil), (6, 3, .cv (.bool false)), (6, 4, .cv .nil)]) (fun i => 3 - i.1) ⟨0, by omega⟩ (le_of ?_) ?_
  · simp only [go_sem, leL, rows4, pr4, lo4, hi4, Nat.reduceBEq, Nat.reduceBNe, Nat.reduceLT, Nat.reduceLeDiff, Nat.reduceAdd, Nat.reduceSub, Nat.reduceMul, Nat.reduceEqDiff, Int.reduceNeg, Int.reduceAdd, Int.reduceLT, Int.reduceLE, Int.reduceToNat, ↓reduceIte, Int.ofNat_zero, Int.natCast_zero, Int.cast_ofNat_Int, Int.zero_add]
  · rintro ⟨i, hi⟩
    have hc : i = 0 ∨ i = 1 ∨ i = 2 ∨ i = 3 := by omega
    rcases hc with rfl | rfl | rfl | rfl
    · have k1 := hlo 0
      have k2 := hhi 0
      have k3 := hr 1
      by_cases c1 : pr4 a b 1 < lo4 (pr4 a b) 0
      · have d1 : (pr4 a b 1 < lo4 (pr4 a b) 0) = True := eq_true c1
        have g1 := lo4_go c1
        by_cases c2 : hi4 (pr4 a b) 0 < pr4 a b 1
        · have d2 : (hi4 (pr4 a b) 0 < pr4 a b 1) = True := eq_true c2
          have g2 := hi4_go c2
          simp only [go_sem, d_i4_Times, d_i4_Cmp, d_i4_Less, d_i4_More, decide_true, decide_false, Bool.not_true, Bool.not_false, zN_val, rows4, List.getD_cons_zero, List.getD_cons_succ, d1, d2, Int.cast_ofNat_Int, Int.natCast_zero, Int.ofNat_zero, Int.zero_add, Nat.reduceBEq, Nat.reduceBNe, Nat.reduceLT, Nat.reduceLeDiff, Nat.reduceAdd, Nat.reduceSub, Nat.reduceMul, Nat.reduceEqDiff, Int.reduceNeg, Int.reduceAdd, Int.reduceLT, Int.reduceLE, Int.reduceToNat, ↓reduceIte]
          and_intros
          all_goals try (first | exact trivial | omega | assumption | (show okDraw _ _ = true; kernel_rfl))
          refine ⟨⟨1, by omega⟩, by show 3 - 1 < 3 - 0; omega, le_of ?_⟩
          simp only [go_sem, leL, rows4, g1, g2, Nat.reduceBEq, Nat.reduceBNe, Nat.reduceLT, Nat.reduceLeDiff, Nat.reduceAdd, Nat.reduceSub, Nat.reduceMul, Nat.reduceEqDiff, Int.reduceNeg, Int.reduceAdd, Int.reduceLT, Int.reduceLE, Int.reduceToNat, ↓reduceIte, Int.cast_ofNat_Int, Int.natCast_zero, Int.ofNat_zero, Int.zero_add]
        · have d2 : (hi4 (pr4 a b) 0 < pr4 a b 1) = False := eq_false c2
          have g2 := hi4_no c2
          simp only [go_sem, d_i4_Times, d_i4_Cmp, d_i4_Less, d_i4_More, decide_true, decide_false, Bool.not_true, Bool.not_false, zN_val, rows4, List.getD_cons_zero, List.getD_cons_succ, d1, d2, Int.cast_ofNat_Int, Int.natCast_zero, Int.ofNat_zero, Int.zero_add, Nat.reduceBEq, Nat.reduceBNe, Nat.reduceLT, Nat.reduceLeDiff, Nat.reduceAdd, Nat.reduceSub, Nat.reduceMul, Nat.reduceEqDiff, Int.reduceNeg, Int.reduceAdd, Int.reduceLT, Int.reduceLE, Int.reduceToNat, ↓reduceIte]
          and_intros
          all_goals try (first | exact trivial | omega | assumption | (show okDraw _ _ = true; kernel_rfl))
          refine ⟨⟨1, by omega⟩, by show 3 - 1 < 3 - 0; omega, le_of ?_⟩
          simp only [go_sem, leL, rows4, g1, g2, Nat.reduceBEq, Nat.reduceBNe, Nat.reduceLT, Nat.reduceLeDiff, Nat.reduceAdd, Nat.reduceSub, Nat.reduceMul, Nat.reduceEqDiff, Int.reduceNeg, Int.reduceAdd, Int.reduceLT, Int.reduceLE, Int.reduceToNat, ↓reduceIte, Int.cast_ofNat_Int, Int.natCast_zero, Int.ofNat_zero, Int.zero_add]
      · have d1 : (pr4 a b 1 < lo4 (pr4 a b) 0) = False := eq_false c1
        have g1 := lo4_no c1
        by_cases c2 : hi4 (pr4 a b) 0 < pr4 a b 1
        · have d2 : (hi4 (pr4 a b) 0 < pr4 a b 1) = True := eq_true c2
          have g2 := hi4_go c2
          simp only [go_sem, d_i4_Times, d_i4_Cmp, d_i4_Less, d_i4_More, decide_true, decide_false, Bool.not_true, Bool.not_false, zN_val, rows4, List.getD_cons_zero, List.getD_cons_succ, d1, d2, Int.cast_ofNat_Int, Int.natCast_zero, Int.ofNat_zero, Int.zero_add, Nat.reduceBEq, Nat.reduceBNe, Nat.reduceLT, Nat.reduceLeDiff, Nat.reduceAdd, Nat.reduceSub, Nat.reduceMul, Nat.reduceEqDiff, Int.reduceNeg, Int.reduceAdd, Int.reduceLT, Int.reduceLE, Int.reduceToNat, ↓reduceIte]
          and_intros
          all_goals try (first | exact trivial | omega | assumption | (show okDraw _ _ = true; kernel_rfl))
          refine ⟨⟨1, by omega⟩, by show 3 - 1 < 3 - 0; omega, le_of ?_⟩
          simp only [go_sem, leL, rows4, g1, g2, Nat.reduceBEq, Nat.reduceBNe, Nat.reduceLT, Nat.reduceLeDiff, Nat.reduceAdd, Nat.reduceSub, Nat.reduceMul, Nat.reduceEqDiff, Int.reduceNeg, Int.reduceAdd, Int.reduceLT, Int.reduceLE, Int.reduceToNat, ↓reduceIte, Int.cast_ofNat_Int, Int.natCast_zero, Int.ofNat_zero, Int.zero_add]
        · have d2 : (hi4 (pr4 a b) 0 < pr4 a b 1) = False := eq_false c2
          have g2 := hi4_no c2
          simp only [go_sem, d_i4_Times, d_i4_Cmp, d_i4_Less, d_i4_More, decide_true, decide_false, Bool.not_true, Bool.not_false, zN_val, rows4, List.getD_cons_zero, List.getD_cons_succ, d1, d2, Int.cast_ofNat_Int, Int.natCast_zero, Int.ofNat_zero, Int.zero_add, Nat.reduceBEq, Nat.reduceBNe, Nat.reduceLT, Nat.reduceLeDiff, Nat.reduceAdd, Nat.reduceSub, Nat.reduceMul, Nat.reduceEqDiff, Int.reduceNeg, Int.reduceAdd, Int.reduceLT, Int.reduceLE, Int.reduceToNat, ↓reduceIte]
          and_intros
          all_goals try (first | exact trivial | omega | assumption | (show okDraw _ _ = true; kernel_rfl))
          refine ⟨⟨1, by omega⟩, by show 3 - 1 < 3 - 0; omega, le_of ?_⟩
          simp only [go_sem, leL, rows4, g1, g2, Nat.reduceBEq, Nat.reduceBNe, Nat.reduceLT, Nat.reduceLeDiff, Nat.reduceAdd, Nat.reduceSub, Nat.reduceMul, Nat.reduceEqDiff, Int.reduceNeg, Int.reduceAdd, Int.reduceLT, Int.reduceLE, Int.reduceToNat, ↓reduceIte, Int.cast_ofNat_Int, Int.natCast_zero, Int.ofNat_zero, Int.zero_add]
    · have k1 := hlo 1
      have k2 := hhi 1
      have k3 := hr 2
      by_cases c1 : pr4 a b 2 < lo4 (pr4 a b) 1
      · have d1 : (pr4 a b 2 < lo4 (pr4 a b) 1) = True := eq_true c1
        have g1 := lo4_go c1
        by_cases c2 : hi4 (pr4 a b) 1 < pr4 a b 2
        · have d2 : (hi4 (pr4 a b) 1 < pr4 a b 2) = True := eq_true c2
          have g2 := hi4_go c2
          simp only [go_sem, d_i4_Times, d_i4_Cmp, d_i4_Less, d_i4_More, decide_true, decide_false, Bool.not_true, Bool.not_false, zN_val, rows4, List.getD_cons_zero, List.getD_cons_succ, d1, d2, Int.cast_ofNat_Int, Int.natCast_zero, Int.ofNat_zero, Int.zero_add, Nat.reduceBEq, Nat.reduceBNe, Nat.reduceLT, Nat.reduceLeDiff, Nat.reduceAdd, Nat.reduceSub, Nat.reduceMul, Nat.reduceEqDiff, Int.reduceNeg, Int.reduceAdd, Int.reduceLT, Int.reduceLE, Int.reduceToNat, ↓reduceIte]
          and_intros
          all_goals try (first | exact trivial | omega | assumption | (show okDraw _ _ = true; kernel_rfl))
          refine ⟨⟨2, by omega⟩, by show 3 - 2 < 3 - 1; omega, le_of ?_⟩
          simp only [go_sem, leL, rows4, g1, g2, Nat.reduceBEq, Nat.reduceBNe, Nat.reduceLT, Nat.reduceLeDiff, Nat.reduceAdd, Nat.reduceSub, Nat.reduceMul, Nat.reduceEqDiff, Int.reduceNeg, Int.reduceAdd, Int.reduceLT, Int.reduceLE, Int.reduceToNat, ↓reduceIte, Int.cast_ofNat_Int, Int.natCast_zero, Int.ofNat_zero, Int.zero_add]
        · have d2 : (hi4 (pr4 a b) 1 < pr4 a b 2) = False := eq_false c2
          have g2 := hi4_no c2
          simp only [go_sem, d_i4_Times, d_i4_Cmp, d_i4_Less, d_i4_More, decide_true, decide_false, Bool.not_true, Bool.not_false, zN_val, rows4, List.getD_cons_zero, List.getD_cons_succ, d1, d2, Int.cast_ofNat_Int, Int.natCast_zero, Int.ofNat_zero, Int.zero_add, Nat.reduceBEq, Nat.reduceBNe, Nat.reduceLT, Nat.reduceLeDiff, Nat.reduceAdd, Nat.reduceSub, Nat.reduceMul, Nat.reduceEqDiff, Int.reduceNeg, Int.reduceAdd, Int.reduceLT, Int.reduceLE, Int.reduceToNat, ↓reduceIte]
          and_intros
          all_goals try (first | exact trivial | omega | assumption | (show okDraw _ _ = true; kernel_rfl))
          refine ⟨⟨2, by omega⟩, by show 3 - 2 < 3 - 1; omega, le_of ?_⟩
          simp only [go_sem, leL, rows4, g1, g2, Nat.reduceBEq, Nat.reduceBNe, Nat.reduceLT, Nat.reduceLeDiff, Nat.reduceAdd, Nat.reduceSub, Nat.reduceMul, Nat.reduceEqDiff, Int.reduceNeg, Int.reduceAdd, Int.reduceLT, Int.reduceLE, Int.reduceToNat, ↓reduceIte, Int.cast_ofNat_Int, Int.natCast_zero, Int.ofNat_zero, Int.zero_add]
      · have d1 : (pr4 a b 2 < lo4 (pr4 a b) 1) = False := eq_false c1
        have g1 := lo4_no c1
        by_cases c2 : hi4 (pr4 a b) 1 < pr4 a b 2
        · have d2 : (hi4 (pr4 a b) 1 < pr4 a b 2) = True := eq_true c2
          have g2 := hi4_go c2
          simp only [go_sem, d_i4_Times, d_i4_Cmp, d_i4_Less, d_i4_More, decide_true, decide_false, Bool.not_true, Bool.not_false, zN_val, rows4, List.getD_cons_zero, List.getD_cons_succ, d1, d2, Int.cast_ofNat_Int, Int.natCast_zero, Int.ofNat_zero, Int.zero_add, Nat.reduceBEq, Nat.reduceBNe, Nat.reduceLT, Nat.reduceLeDiff, Nat.reduceAdd, Nat.reduceSub, Nat.reduceMul, Nat.reduceEqDiff, Int.reduceNeg, Int.reduceAdd, Int.reduceLT, Int.reduceLE, Int.reduceToNat, ↓reduceIte]
          and_intros
          all_goals try (first | exact trivial | omega | assumption | (show okDraw _ _ = true; kernel_rfl))
          refine ⟨⟨2, by omega⟩, by show 3 - 2 < 3 - 1; omega, le_of ?_⟩
          simp only [go_sem, leL, rows4, g1, g2, Nat.reduceBEq, Nat.reduceBNe, Nat.reduceLT, Nat.reduceLeDiff, Nat.reduceAdd, Nat.reduceSub, Nat.reduceMul, Nat.reduceEqDiff, Int.reduceNeg, Int.reduceAdd, Int.reduceLT, Int.reduceLE, Int.reduceToNat, ↓reduceIte, Int.cast_ofNat_Int, Int.natCast_zero, Int.ofNat_zero, Int.zero_add]
        · have d2 : (hi4 (pr4 a b) 1 < pr4 a b 2) = False := eq_false c2
          have g2 := hi4_no c2
          simp only [go_sem, d_i4_Times, d_i4_Cmp, d_i4_Less, d_i4_More, decide_true, decide_false, Bool.not_true, Bool.not_false, zN_val, rows4, List.getD_cons_zero, List.getD_cons_succ, d1, d2, Int.cast_ofNat_Int, Int.natCast_zero, Int.ofNat_zero, Int.zero_add, Nat.reduceBEq, Nat.reduceBNe, Nat.reduceLT, Nat.reduceLeDiff, Nat.reduceAdd, Nat.reduceSub, Nat.reduceMul, Nat.reduceEqDiff, Int.reduceNeg, Int.reduceAdd, Int.reduceLT, Int.reduceLE, Int.reduceToNat, ↓reduceIte]
          and_intros
          all_goals try (first | exact trivial | omega | assumption | (show okDraw _ _ = true; kernel_rfl))
          refine ⟨⟨2, by omega⟩, by show 3 - 2 < 3 - 1; omega, le_of ?_⟩
          simp only [go_sem, leL, rows4, g1, g2, Nat.reduceBEq, Nat.reduceBNe, Nat.reduceLT, Nat.reduceLeDiff, Nat.reduceAdd, Nat.reduceSub, Nat.reduceMul, Nat.reduceEqDiff, Int.reduceNeg, Int.reduceAdd, Int.reduceLT, Int.reduceLE, Int.reduceToNat, ↓reduceIte, Int.cast_ofNat_Int, Int.natCast_zero, Int.ofNat_zero, Int.zero_add]
    · have k1 := hlo 2
      have k2 := hhi 2
      have k3 := hr 3
      by_cases c1 : pr4 a b 3 < lo4 (pr4 a b) 2
      · have d1 : (pr4 a b 3 < lo4 (pr4 a b) 2) = True := eq_true c1
        have g1 := lo4_go c1
        by_cases c2 : hi4 (pr4 a b) 2 < pr4 a b 3
        · have d2 : (hi4 (pr4 a b) 2 < pr4 a b 3) = True := eq_true c2
          have g2 := hi4_go c2
          simp only [go_sem, d_i4_Times, d_i4_Cmp, d_i4_Less, d_i4_More, decide_true, decide_false, Bool.not_true, Bool.not_false, zN_val, rows4, List.getD_cons_zero, List.getD_cons_succ, d1, d2, Int.cast_ofNat_Int, Int.natCast_zero, Int.ofNat_zero, Int.zero_add, Nat.reduceBEq, Nat.reduceBNe, Nat.reduceLT, Nat.reduceLeDiff, Nat.reduceAdd, Nat.reduceSub, Nat.reduceMul, Nat.reduceEqDiff, Int.reduceNeg, Int.reduceAdd, Int.reduceLT, Int.reduceLE, Int.reduceToNat, ↓reduceIte]
          and_intros
          all_goals try (first | exact trivial | omega | assumption | (show okDraw _ _ = true; kernel_rfl))
          refine ⟨⟨3, by omega⟩, by show 3 - 3 < 3 - 2; omega, le_of ?_⟩
          simp only [go_sem, leL, rows4, g1, g2, Nat.reduceBEq, Nat.reduceBNe, Nat.reduceLT, Nat.reduceLeDiff, Nat.reduceAdd, Nat.reduceSub, Nat.reduceMul, Nat.reduceEqDiff, Int.reduceNeg, Int.reduceAdd, Int.reduceLT, Int.reduceLE, Int.reduceToNat, ↓reduceIte, Int.cast_ofNat_Int, Int.natCast_zero, Int.ofNat_zero, Int.zero_add]
        · have d2 : (hi4 (pr4 a b) 2 < pr4 a b 3) = False := eq_false c2
          have g2 := hi4_no c2
          simp only [go_sem, d_i4_Times, d_i4_Cmp, d_i4_Less, d_i4_More, decide_true, decide_false, Bool.not_true, Bool.not_false, zN_val, rows4, List.getD_cons_zero, List.getD_cons_succ, d1, d2, Int.cast_ofNat_Int, Int.natCast_zero, Int.ofNat_zero, Int.zero_add, Nat.reduceBEq, Nat.reduceBNe, Nat.reduceLT, Nat.reduceLeDiff, Nat.reduceAdd, Nat.reduceSub, Nat.reduceMul, Nat.reduceEqDiff, Int.reduceNeg, Int.reduceAdd, Int.reduceLT, Int.reduceLE, Int.reduceToNat, ↓reduceIte]
          and_intros
          all_goals try (first | exact trivial | omega | assumption | (show okDraw _ _ = true; kernel_rfl))
          refine ⟨⟨3, by omega⟩, by show 3 - 3 < 3 - 2; omega, le_of ?_⟩
          simp only [go_sem, leL, rows4, g1, g2, Nat.reduceBEq, Nat.reduceBNe, Nat.reduceLT, Nat.reduceLeDiff, Nat.reduceAdd, Nat.reduceSub, Nat.reduceMul, Nat.reduceEqDiff, Int.reduceNeg, Int.reduceAdd, Int.reduceLT, Int.reduceLE, Int.reduceToNat, ↓reduceIte, Int.cast_ofNat_Int, Int.natCast_zero, Int.ofNat_zero, Int.zero_add]
      · have d1 : (pr4 a b 3 < lo4 (pr4 a b) 2) = False := eq_false c1
        have g1 := lo4_no c1
        by_cases c2 : hi4 (pr4 a b) 2 < pr4 a b 3
        · have d2 : (hi4 (pr4 a b) 2 < pr4 a b 3) = True := eq_true c2
          have g2 := hi4_go c2
          simp only [go_sem, d_i4_Times, d_i4_Cmp, d_i4_Less, d_i4_More, decide_true, decide_false, Bool.not_true, Bool.not_false, zN_val, rows4, List.getD_cons_zero, List.getD_cons_succ, d1, d2, Int.cast_ofNat_Int, Int.natCast_zero, Int.ofNat_zero, Int.zero_add, Nat.reduceBEq, Nat.reduceBNe, Nat.reduceLT, Nat.reduceLeDiff, Nat.reduceAdd, Nat.reduceSub, Nat.reduceMul, Nat.reduceEqDiff, Int.reduceNeg, Int.reduceAdd, Int.reduceLT, Int.reduceLE, Int.reduceToNat, ↓reduceIte]
          and_intros
          all_goals try (first | exact trivial | omega | assumption | (show okDraw _ _ = true; kernel_rfl))
          refine ⟨⟨3, by omega⟩, by show 3 - 3 < 3 - 2; omega, le_of ?_⟩
          simp only [go_sem, leL, rows4, g1, g2, Nat.reduceBEq, Nat.reduceBNe, Nat.reduceLT, Nat.reduceLeDiff, Nat.reduceAdd, Nat.reduceSub, Nat.reduceMul, Nat.reduceEqDiff, Int.reduceNeg, Int.reduceAdd, Int.reduceLT, Int.reduceLE, Int.reduceToNat, ↓reduceIte, Int.cast_ofNat_Int, Int.natCast_zero, Int.ofNat_zero, Int.zero_add]
        · have d2 : (hi4 (pr4 a b) 2 < pr4 a b 3) = False := eq_false c2
          have g2 := hi4_no c2
          simp only [go_sem, d_i4_Times, d_i4_Cmp, d_i4_Less, d_i4_More, decide_true, decide_false, Bool.not_true, Bool.not_false, zN_val, rows4, List.getD_cons_zero, List.getD_cons_succ, d1, d2, Int.cast_ofNat_Int, Int.natCast_zero, Int.ofNat_zero, Int.zero_add, Nat.reduceBEq, Nat.reduceBNe, Nat.reduceLT, Nat.reduceLeDiff, Nat.reduceAdd, Nat.reduceSub, Nat.reduceMul, Nat.reduceEqDiff, Int.reduceNeg, Int.reduceAdd, Int.reduceLT, Int.reduceLE, Int.reduceToNat, ↓reduceIte]
          and_intros
          all_goals try (first | exact trivial | omega | assumption | (show okDraw _ _ = true; kernel_rfl))
          refine ⟨⟨3, by omega⟩, by show 3 - 3 < 3 - 2; omega, le_of ?_⟩
          simp only [go_sem, leL, rows4, g1, g2, Nat.reduceBEq, Nat.reduceBNe, Nat.reduceLT, Nat.reduceLeDiff, Nat.reduceAdd, Nat.reduceSub, Nat.reduceMul, Nat.reduceEqDiff, Int.reduceNeg, Int.reduceAdd, Int.reduceLT, Int.reduceLE, Int.reduceToNat, ↓reduceIte, Int.cast_ofNat_Int, Int.natCast_zero, Int.ofNat_zero, Int.zero_add]
    · have k1 := hlo 3
      have k2 := hhi 3
      have k4 : SZ (lo4 (pr4 a b) 3) := by unfold SZ; omega
      have k5 : zs (hi4 (pr4 a b) 3) ≤ 900000000 := by omega
      simp only [go_sem, d_i4_Times, d_i4_Cmp, d_i4_Less, d_i4_More, decide_true, decide_false, Bool.not_true, Bool.not_false, zN_val, prod_eq, Int.cast_ofNat_Int, Int.natCast_zero, Int.ofNat_zero, Int.zero_add, Nat.reduceBEq, Nat.reduceBNe, Nat.reduceLT, Nat.reduceLeDiff, Nat.reduceAdd, Nat.reduceSub, Nat.reduceMul, Nat.reduceEqDiff, Int.reduceNeg, Int.reduceAdd, Int.reduceLT, Int.reduceLE, Int.reduceToNat, ↓reduceIte]
      all_goals ((try and_intros) <;> first | exact trivial | omega | (show okDraw _ _ = true; kernel_rfl) | assumption)
end Go.Proofs.YtnjgliojkoeneaaGreat
namespace Go.Proofs.YtnjgliojkoeneaaGreat
open Go.RowKit
set_option linter.unusedSimpArgs false
set_option linter.unusedVariables false
@[go_sem] theorem iv_eta (p : Int × Int) : (p.1, p.2) = p := rfl
def boxIv (id : Nat) (p : Int × Int) : AS := [(id, 0, .av (.one (.cel (.ptr id 0)))), (id, 1, .cv (.bool (zN p.1).s)), (id, 2, .cv (.lim none (zN p.1).n)), (id, 3, .cv (.bool (zN p.2).s)), (id, 4, .cv (.lim none (zN p.2).n))]
def boxIv0 (id : Nat) : AS := [(id, 0, .av (.one (.cel (.ptr id 0)))), (id, 1, .cv (.bool false)), (id, 2, .cv .nil), (id, 3, .cv (.bool false)), (id, 4, .cv .nil)]
attribute [go_sem] boxIv boxIv0
theorem zs_pow {z : Int} {e : Nat} (h1 : -((2 ^ e : Nat) : Int) ≤ z) (h2 : z ≤ ((2 ^ e : Nat) : Int)) : zs z ≤ (e + 1) / 32 + 1 := by
  refine zs_bits ?_
  have h3 : 2 ^ (e + 1) = 2 * 2 ^ e := by rw [Nat.pow_succ, Nat.mul_comm]
  have h4 : 0 < 2 ^ e := Nat.pow_pos (by omega)
  omega
theorem ZZ_pow {a : Int × Int} {e : Nat} (h : P.within a ((2 ^ e : Nat) : Int)) {K : Nat} (hK : (e + 1) / 32 + 1 ≤ K) : ZZ a K :=
  ⟨Nat.le_trans (zs_pow h.1.1 h.1.2) hK, Nat.le_trans (zs_pow h.2.1 h.2.2) hK⟩
theorem within_mono {a : Int × Int} {A B : Int} (h : P.within a A) (hB : A ≤ B) : P.within a B := by unfold P.within at *; omega
theorem num_one (w : Int) : numZ ((1 : Int) : Rat) w = P.oneI (cN w) := by
  have e1 : (((1 : Int) : Rat)).num = 1 := Rat.num_intCast 1
  have e2 : (((1 : Int) : Rat)).den = 1 := Rat.den_intCast 1
  unfold numZ P.oneI riseZ fallZ
  rw [e1, e2, Int.one_mul]
  have e3 : ((1 : Nat) : Int) = 1 := rfl
  rw [e3, Int.ediv_one, Int.ediv_one, Int.neg_neg]
/-- a round of the row -/
structure RwI (W : Nat) (y : Int × Int) where
  i : Nat
  e : Nat
  f : Nat
  t : Int × Int
  s : Int × Int
  D : Int
  h : P.RowAt W i e t s D
  hf : e + 1 ≤ f
  hv : P.rowGo W y f i t s = P.rowIv y W
def d_ref6_row : Den := den2 aIv aInt (fun a b => P.within a ((2 ^ (cN b - 2) : Nat) : Int) ∧ 20 ≤ b ∧ b ≤ 1000000000) fun a b => ivV (P.rowIv a (cN b))
set_option maxRecDepth 100000 in
set_option maxHeartbeats 4000000 in
theorem s_ref6_row : Sound Tryz.prog 77 d_ref6_row := by
  refine sound2 (fz := nofz) (l := [(12, d_ref2_Int), (41, d_i4_Num), (46, d_i4_Prod), (45, d_i4_By), (47, d_i4_Sum), (106, d_i4_Most), (107, d_i4_Whole), (81, d_i4_Cmp), (108, d_i4_Wide)]) TT_ok ⟨s_ref2_Int, s_i4_Num, s_i4_Prod, s_i4_By, s_i4_Sum, s_i4_Most, s_i4_Whole, s_i4_Cmp, s_i4_Wide, trivial⟩ mixed Tryz.func77 Tryz.ntmps77 Tryz.results77 Tryz.call77 rfl (by omega) (fun _ _ => rfl) ?_
  intro a b hp ha hb
  rw [codeK_start]
  obtain ⟨hy, h1, h2⟩ := hp
  have hW : cN b ≤ 4096 := by unfold cN; omega
  have hW2 : 20 ≤ cN b := by unfold cN; omega
  have zy : ZZ a 100000000 := ZZ_pow hy (by omega)
  have q1 : rs ((1 : Int) : Rat) ≤ 2 := rsb_int (by omega) (by omega) (by omega)
  have q2 : (cr ((1 : Int) : Rat)).sz ≤ 1000000 := by rw [cr_sz]; omega
  have n1 := num_one b
  simp only [go_sem, d_ref2_Int, d_i4_Num, d_i4_Prod, d_i4_By, d_i4_Sum, d_i4_Most, d_i4_Whole, d_i4_Cmp, d_i4_Wide, decide_true, decide_false, Bool.not_true, Bool.not_false, zN_val, n1, Nat.reduceBEq, Nat.reduceBNe, Nat.reduceLT, Nat.reduceLeDiff, Nat.reduceAdd, Nat.reduceSub, Nat.reduceMul, Nat.reduceEqDiff, Int.reduceNeg, Int.reduceAdd, Int.reduceLT, Int.reduceLE, Int.reduceToNat, ↓reduceIte]
  and_intros
  all_goals try (first | exact trivial | omega | assumption | (show okDraw _ _ = true; kernel_rfl))
  refine codeK_loop (fun x : RwI (cN b) a => ((8, 0, .av (intV ((x.i : Nat)))) : Nat × Nat × RV) :: ((1, 0, .av (intV (b))) : Nat × Nat × RV) :: (boxIv 6 x.s ++ (boxIv 7 x.t ++ (boxIv 2 a ++ boxIv0 4)))) (fun x => x.e) ⟨1, cN b, cN b + 5, P.oneI (cN b), P.oneI (cN b), 0, P.row_start (by omega), by omega, rfl⟩ (le_of ?_) ?_
  · simp only [go_sem, leL, Nat.reduceBEq, Nat.reduceBNe, Nat.reduceLT, Nat.reduceLeDiff, Nat.reduceAdd, Nat.reduceSub, Nat.reduceMul, Nat.reduceEqDiff, Int.reduceNeg, Int.reduceAdd, Int.reduceLT, Int.reduceLE, Int.reduceToNat, ↓reduceIte, Int.natCast_one, Int.cast_ofNat_Int]
  · rintro ⟨i, e, g, t, s, D, hR, hg, hv⟩
    obtain ⟨⟨D2, d0, d1, dw, d2, d3, d4, d5⟩, hnx⟩ := P.row_step (by omega) hy hR
    have i1 := hR.i1
    have ie := hR.ie
    have te := hR.te
    have e2 := hR.e2
    obtain ⟨nx1, -⟩ := P.next_in (by omega) hy i1 e2 te
    have hp1 : P.within (P.iprod t a (cN b)) ((2 ^ (e - 2) : Nat) : Int) := by
      refine P.iprod_in te hy ?_
      rw [← P.two_add, ← P.two_add, show e + (cN b - 2) = e - 2 + cN b by omega]
      exact Int.le_refl _
    have zt : ZZ t 100000000 := ZZ_pow te (by omega)
    have zp : ZZ (P.iprod t a (cN b)) 100000000 := ZZ_pow hp1 (by omega)
    have zu : ZZ (P.iby (P.iprod t a (cN b)) i) 100000000 := ZZ_pow nx1 (by omega)
    have hWp := P.pow_pos' (cN b)
    have t1 := P.two_up (cN b)
    have t2 := P.two_up (cN b + 1)
    have zs1 : ZZ s 100000000 := by
      have dd := hR.dd
      have s1 := hR.s1
      have s2 := hR.s2
      have hez := P.pow_pos' e
      refine ZZ_pow (e := cN b + 1 + 1) ?_ (by omega)
      unfold P.within
      rcases dd with ⟨_, _, rfl⟩ | ⟨_, _⟩ <;> omega
    have zs2 : ZZ (P.isum s (P.iby (P.iprod t a (cN b)) i)) 100000000 := ZZ_pow (e := cN b + 1 + 1) (within_mono dw (by omega)) (by omega)
    have zm : zs (P.imost (P.iby (P.iprod t a (cN b)) i)) ≤ 900000000 := by
      have m1 := P.imost_le nx1
      have m0 : 0 ≤ P.imost (P.iby (P.iprod t a (cN b)) i) := by unfold P.imost; split <;> omega
      have := zs_pow (e := e - 2) (by omega) m1
      omega
    have z2 : zs 2 ≤ 900000000 := by
      have := zs_bits (z := 2) (B := 64) (by decide)
      omega
    have zz := (⟨zt.1, zt.2, zp.1, zp.2, zu.1, zu.2, zs1.1, zs1.2, zs2.1, zs2.2, zy.1, zy.2⟩ : _ ∧ _ ∧ _ ∧ _ ∧ _ ∧ _ ∧ _ ∧ _ ∧ _ ∧ _ ∧ _ ∧ _)
    obtain ⟨a1, a2, a3, a4, a5, a6, a7, a8, a9, a10, a11, a12⟩ := zz
    cases g with
    | zero => omega
    | succ g =>
      by_cases hm : P.imost (P.iby (P.iprod t a (cN b)) i) ≤ 2
      · have hm' : (P.imost (P.iby (P.iprod t a (cN b)) i) ≤ 2) = True := eq_true hm
        have ev : P.rowIv a (cN b) = P.iwide (P.isum s (P.iby (P.iprod t a (cN b)) i)) 4 := by
          rw [← hv]
          unfold P.rowGo
          rw [if_pos hm]
        simp only [go_sem, d_ref2_Int, d_i4_Num, d_i4_Prod, d_i4_By, d_i4_Sum, d_i4_Most, d_i4_Whole, d_i4_Cmp, d_i4_Wide, decide_true, decide_false, Bool.not_true, Bool.not_false, zN_val, hm', ev, Int.toNat_natCast, Nat.reduceBEq, Nat.reduceBNe, Nat.reduceLT, Nat.reduceLeDiff, Nat.reduceAdd, Nat.reduceSub, Nat.reduceMul, Nat.reduceEqDiff, Int.reduceNeg, Int.reduceAdd, Int.reduceLT, Int.reduceLE, Int.reduceToNat, ↓reduceIte]
        all_goals ((try and_intros) <;> first | exact trivial | omega | (show okDraw _ _ = true; kernel_rfl) | assumption)
      · have hm' : (P.imost (P.iby (P.iprod t a (cN b)) i) ≤ 2) = False := eq_false hm
        obtain ⟨e', D3, he, hR2⟩ := hnx hm
        simp only [go_sem, d_ref2_Int, d_i4_Num, d_i4_Prod, d_i4_By, d_i4_Sum, d_i4_Most, d_i4_Whole, d_i4_Cmp, d_i4_Wide, decide_true, decide_false, Bool.not_true, Bool.not_false, zN_val, hm', Int.toNat_natCast, Nat.reduceBEq, Nat.reduceBNe, Nat.reduceLT, Nat.reduceLeDiff, Nat.reduceAdd, Nat.reduceSub, Nat.reduceMul, Nat.reduceEqDiff, Int.reduceNeg, Int.reduceAdd, Int.reduceLT, Int.reduceLE, Int.reduceToNat, ↓reduceIte]
        and_intros
        all_goals try (first | exact trivial | omega | assumption | (show okDraw _ _ = true; kernel_rfl))
        refine ⟨⟨i + 1, e', g, _, _, D3, hR2, by omega, ?_⟩, he, le_of ?_⟩
        · rw [← hv]
          conv => rhs; unfold P.rowGo
          rw [if_neg hm]
        · simp only [go_sem, leL, Nat.reduceBEq, Nat.reduceBNe, Nat.reduceLT, Nat.reduceLeDiff, Nat.reduceAdd, Nat.reduceSub, Nat.reduceMul, Nat.reduceEqDiff, Int.reduceNeg, Int.reduceAdd, Int.reduceLT, Int.reduceLE, Int.reduceToNat, ↓reduceIte]
          try omega
/-- x by 256 -/
def qsm (q : Rat) : Rat := q * qv false 1 256
theorem quarter {q : Rat} (h1 : -64 ≤ q) (h2 : q ≤ 64) : 4 * (qsm q).num ≤ (qsm q).den ∧ -((qsm q).den : Int) ≤ 4 * (qsm q).num := by
  have e : qv false 1 256 = (1 : Rat) / 256 := by decide +kernel
  have h3 : qsm q ≤ 1 / 4 := by unfold qsm; rw [e]; grind
  have h4 : -(1 / 4) ≤ qsm q := by unfold qsm; rw [e]; grind
  generalize qsm q = r at *
  rw [Rat.le_iff] at h3 h4
  have e1 : (1 / 4 : Rat).num = 1 := by decide +kernel
  have e2 : (1 / 4 : Rat).den = 4 := by decide +kernel
  have e3 : (-(1 / 4) : Rat).num = -1 := by decide +kernel
  have e4 : (-(1 / 4) : Rat).den = 4 := by decide +kernel
  rw [e1, e2] at h3
  rw [e3, e4] at h4
  omega
theorem num_in {q : Rat} {w : Int} (h1 : -64 ≤ q) (h2 : q ≤ 64) (hw : 20 ≤ cN w) : P.within (numZ (qsm q) w) ((2 ^ (cN w - 2) : Nat) : Int) := by
  obtain ⟨h3, h4⟩ := quarter h1 h2
  have hd : 0 < (qsm q).den := (qsm q).den_pos
  have e : ((2 ^ cN w : Nat) : Int) = 4 * ((2 ^ (cN w - 2) : Nat) : Int) := by
    have := P.two_add 2 (cN w - 2)
    rw [show 2 + (cN w - 2) = cN w by omega] at this
    exact this
  have hz := P.pow_pos' (cN w - 2)
  unfold numZ fallZ riseZ
  rw [e]
  generalize ((2 ^ (cN w - 2) : Nat) : Int) = u at *
  generalize (qsm q).num = a at *
  generalize (qsm q).den = d at *
  have k1 : a * (4 * u) ≤ u * (d : Int) := by
    have := Int.mul_le_mul_of_nonneg_left h3 (show 0 ≤ u by omega)
    have e2 : u * (4 * a) = a * (4 * u) := by grind
    omega
  have k2 : -(u * (d : Int)) ≤ a * (4 * u) := by
    have := Int.mul_le_mul_of_nonneg_left h4 (show 0 ≤ u by omega)
    have e2 : u * (4 * a) = a * (4 * u) := by grind
    have e3 : u * -(d : Int) = -(u * (d : Int)) := by grind
    omega
  have p1 := P.idiv_in (x := a * (4 * u)) hd k2 k1 (Int.le_refl _)
  have p2 := P.idiv_in (x := -(a * (4 * u))) hd (by omega) (by omega) (Int.le_refl (u * (d : Int)))
  unfold P.within
  simp only [fallZ]
  omega
def ivR (q : Rat) (w : Int) : Int × Int := P.rowIv (numZ (qsm q) (w + 130)) (cN (w + 130))
def ivE (q : Rat) (w : Int) : Int × Int := P.iback (P.sqI (cN (w + 130)) (ivR q w) 8) (cN 130)
def farB (q : Rat) : Bool := decide (q < ((-64 : Int) : Rat)) || decide (((64 : Int) : Rat) < q)
theorem far_in {q : Rat} (h : farB q = false) : -64 ≤ q ∧ q ≤ 64 := by
  unfold farB at h
  rw [Bool.or_eq_false_iff] at h
  have h1 := of_decide_eq_false h.1
  have h2 := of_decide_eq_false h.2
  exact ⟨Rat.not_lt.1 h1, Rat.not_lt.1 h2⟩
theorem ivR_btw {q : Rat} {w : Int} (h : farB q = false) (hw : 20 ≤ w) : P.btw (ivR q w) ((2 ^ (cN (w + 130) - 1) : Nat) : Int) (1376 * ((2 ^ (cN (w + 130) - 10) : Nat) : Int)) := by
  obtain ⟨h1, h2⟩ := far_in h
  exact P.rowIv_btw (by unfold cN; omega) (num_in h1 h2 (by unfold cN; omega))
theorem ivR_in {q : Rat} {w : Int} (h : farB q = false) (hw : 20 ≤ w) : P.within (ivR q w) (1376 * ((2 ^ (cN (w + 130) - 10) : Nat) : Int)) := P.btw_in (Int.le_of_lt (P.pow_pos' _)) (ivR_btw h hw)
def d_ref6_Iv : Den := den2 aRat aInt (fun a b => a.sz ≤ 1000 ∧ farB a.q = false ∧ 20 ≤ b ∧ b ≤ 100000) fun a b => ivV (ivE a.q b)
set_option maxRecDepth 100000 in
set_option maxHeartbeats 4000000 in
theorem s_ref6_Iv : Sound Tryz.prog 42 d_ref6_Iv := by
  refine sound2 (fz := nofz) (l := [(51, d_ref1_ShiftC), (24, d_ref2_Of), (76, d_ref2_Mul), (41, d_i4_Num), (77, d_ref6_row), (46, d_i4_Prod), (44, d_i4_Back)]) TT_ok ⟨s_ref1_ShiftC, s_ref2_Of, s_ref2_Mul, s_i4_Num, s_ref6_row, s_i4_Prod, s_i4_Back, trivial⟩ mixed Tryz.func42 Tryz.ntmps42 Tryz.results42 Tryz.call42 rfl (by omega) (fun _ _ => rfl) ?_
  intro a b hp ha hb
  rw [codeK_start]
  obtain ⟨h1, h2, h3, h4⟩ := hp
  have q1 : rs a.q ≤ 1000000 := rs_ok ha (by omega) (by omega)
  have hW : cN (b + 130) ≤ 4096 := by unfold cN; omega
  have hW2 : 20 ≤ cN (b + 130) := by unfold cN; omega
  obtain ⟨f1, f2⟩ := far_in h2
  have hy := num_in (w := b + 130) f1 f2 hW2
  have y1 := hy.1.1
  have y2 := hy.1.2
  have y3 := hy.2.1
  have y4 := hy.2.2
  have s8 : shiftN (val [1]) (clampN 8) = 256 := by decide +kernel
  have s8b : shiftN 1 (clampN 8) = 256 := by decide +kernel
  have t2 : rs (qv false 1 256) ≤ 2 := by decide +kernel
  have t2' : (cr (qv false 1 256)).sz ≤ 10000000000 := by rw [cr_sz]; omega
  have t3 : rs (qsm a.q) ≤ 1000000 := by
    have q0 : rs a.q ≤ 1000 := rs_ok ha h1 (by omega)
    exact rsb_mul q0 t2 (by omega)
  have t4 : (cr (qsm a.q)).sz ≤ 1000000 := by rw [cr_sz]; exact t3
  have eq1 : a.q * qv false 1 256 = qsm a.q := rfl
  have er : P.rowIv (numZ (qsm a.q) (b + 130)) (cN (b + 130)) = ivR a.q b := rfl
  have l256 : (limbs 256).length ≤ 100 := by decide +kernel
  have hin := ivR_in (w := b) h2 h3
  have hsq : ∀ k, k < 9 → ZZ (P.sqI (cN (b + 130)) (ivR a.q b) k) 100000000 := fun k hk => ZZ_pow (P.sqI_pow hW2 hin hk) (by omega)
  simp only [go_sem, d_ref1_ShiftC, d_ref2_Of, d_ref2_Mul, d_i4_Num, d_ref6_row, d_i4_Prod, d_i4_Back, decide_true, decide_false, Bool.not_true, Bool.not_false, zN_val, s8b, s8, val_1, val_limbs, eq1, er, Nat.reduceBEq, Nat.reduceBNe, Nat.reduceLT, Nat.reduceLeDiff, Nat.reduceAdd, Nat.reduceSub, Nat.reduceMul, Nat.reduceEqDiff, Int.reduceNeg, Int.reduceAdd, Int.reduceLT, Int.reduceLE, Int.reduceToNat, ↓reduceIte]
  and_intros
  all_goals try (first | exact trivial | omega | assumption | (show okDraw _ _ = true; kernel_rfl))
  refine codeK_loop (fun i : { i : Nat // i ≤ 8 } => ((9, 0, .av (intV ((i.1 : Nat)))) : Nat × Nat × RV) :: ((6, 0, .av (intV ((8 : Int)))) : Nat × Nat × RV) :: ((5, 0, .av (intV ((130 : Int)))) : Nat × Nat × RV) :: ((1, 0, .av (intV (b))) : Nat × Nat × RV) :: (boxIv 8 (P.sqI (cN (b + 130)) (ivR a.q b) i.1) ++ boxIv0 4)) (fun i => 8 - i.1) ⟨0, by omega⟩ (le_of ?_) ?_
  · simp only [go_sem, leL, P.sqI, Nat.reduceBEq, Nat.reduceBNe, Nat.reduceLT, Nat.reduceLeDiff, Nat.reduceAdd, Nat.reduceSub, Nat.reduceMul, Nat.reduceEqDiff, Int.reduceNeg, Int.reduceAdd, Int.reduceLT, Int.reduceLE, Int.reduceToNat, ↓reduceIte, Int.natCast_zero, Int.ofNat_zero, Int.cast_ofNat_Int]
  · rintro ⟨i, hi0⟩
    have hi0 : i ≤ 8 := hi0
    have z1 := hsq i (by omega)
    have z1a := z1.1
    have z1b := z1.2
    by_cases hi : i < 8
    · have hit : (((i : Nat) : Int) < 8) = True := eq_true (by omega)
      simp only [go_sem, d_ref1_ShiftC, d_ref2_Of, d_ref2_Mul, d_i4_Num, d_ref6_row, d_i4_Prod, d_i4_Back, decide_true, decide_false, Bool.not_true, Bool.not_false, zN_val, hit, Nat.reduceBEq, Nat.reduceBNe, Nat.reduceLT, Nat.reduceLeDiff, Nat.reduceAdd, Nat.reduceSub, Nat.reduceMul, Nat.reduceEqDiff, Int.reduceNeg, Int.reduceAdd, Int.reduceLT, Int.reduceLE, Int.reduceToNat, ↓reduceIte]
      and_intros
      all_goals try (first | exact trivial | omega | assumption | (show okDraw _ _ = true; kernel_rfl))
      refine ⟨⟨i + 1, by omega⟩, by show 8 - (i + 1) < 8 - i; omega, le_of ?_⟩
      simp only [go_sem, leL, P.sqI, Nat.reduceBEq, Nat.reduceBNe, Nat.reduceLT, Nat.reduceLeDiff, Nat.reduceAdd, Nat.reduceSub, Nat.reduceMul, Nat.reduceEqDiff, Int.reduceNeg, Int.reduceAdd, Int.reduceLT, Int.reduceLE, Int.reduceToNat, ↓reduceIte]
      try omega
    · have hit : (((i : Nat) : Int) < 8) = False := eq_false (by omega)
      have e : i = 8 := by omega
      subst e
      simp only [go_sem, d_ref1_ShiftC, d_ref2_Of, d_ref2_Mul, d_i4_Num, d_ref6_row, d_i4_Prod, d_i4_Back, decide_true, decide_false, Bool.not_true, Bool.not_false, zN_val, hit, ivE, Int.lt_irrefl, Int.cast_ofNat_Int, Nat.reduceBEq, Nat.reduceBNe, Nat.reduceLT, Nat.reduceLeDiff, Nat.reduceAdd, Nat.reduceSub, Nat.reduceMul, Nat.reduceEqDiff, Int.reduceNeg, Int.reduceAdd, Int.reduceLT, Int.reduceLE, Int.reduceToNat, ↓reduceIte]
      all_goals ((try and_intros) <;> first | exact trivial | omega | (show okDraw _ _ = true; kernel_rfl) | assumption)
theorem ivE_size {q : Rat} {w : Int} (h : farB q = false) (hw : 20 ≤ w) : ZZ (ivE q w) 100000000 := by
  have hW : cN (w + 130) ≤ 4096 := by unfold cN; omega
  have hW2 : 20 ≤ cN (w + 130) := by unfold cN; omega
  have h1 : ZZ (P.sqI (cN (w + 130)) (ivR q w) 8) 1000 := ZZ_pow (P.sqI_pow hW2 (ivR_in h hw) (by omega)) (by omega)
  have h2 := zs_less (P.sqI (cN (w + 130)) (ivR q w) 8).1 130
  have h3 := zs_more (P.sqI (cN (w + 130)) (ivR q w) 8).2 130
  obtain ⟨h4, h5⟩ := h1
  have e : ivE q w = (lessZ (P.sqI (cN (w + 130)) (ivR q w) 8).1 130, moreZ (P.sqI (cN (w + 130)) (ivR q w) 8).2 130) := rfl
  rw [e]
  exact ⟨by simp only; omega, by simp only; omega⟩
end Go.Proofs.YtnjgliojkoeneaaGreat
