/- disc.told, Pois, PoisCdf for any count up to 100 or above 1024. Condition: means of at most 1000 limbs. -/
import Derived.Test.YtnjgliojkoeneaaGreatHi
namespace Go.Proofs.YtnjgliojkoeneaaGreat
open Go.RowKit
set_option linter.unusedSimpArgs false
set_option linter.unusedVariables false
def tOkK (k : Int) (q : Rat) : Bool := tOk q && !decide (1024 < k)
def tBK (all : Bool) (k : Int) (q : Rat) (p : Int) : BB := if 1024 < k then bb ((0 : Int) : Rat) ((0 : Int) : Rat) else tB all k q p
def d_disc_told2 : Den := den4 aInt aRat aInt aBool (fun k m z all => (k ≤ 100 ∨ 1024 < k) ∧ m.sz ≤ 1000 ∧ m.q.den ≤ 2 ^ 200) fun k m z all => ballOkV (tBK all k m.q z) (tOkK k m.q)
set_option maxRecDepth 100000 in
set_option maxHeartbeats 2000000 in
theorem s_disc_told2 : Sound Tryz.prog 10 d_disc_told2 := by
  refine sound4 (fz := nofz) (l := [(27, d_rat_Norm), (29, d_rat_Int), (28, d_rat_Cmp), (30, d_ball_Of), (31, d_rat_Zero), (32, d_disc_counts), (33, d_fix_Add), (35, d_rat_Neg), (34, d_exps_Exp), (38, d_fix_Ball), (37, d_fix_Mul), (36, d_fix_Told)]) TT_ok ⟨s_rat_Norm, s_rat_Int, s_rat_Cmp, s_ball_Of, s_rat_Zero, s_disc_counts, s_fix_Add, s_rat_Neg, s_exps_Exp, s_fix_Ball, s_fix_Mul, s_fix_Told, trivial⟩ mixed Tryz.func10 Tryz.ntmps10 Tryz.results10 Tryz.call10 rfl (by omega) (fun _ _ _ _ => rfl) ?_
  intro k m z all hp hk hm hz hall
  rw [codeK_start]
  obtain ⟨hk1, hsz, hden⟩ := hp
  have hr : rs m.q ≤ 1000 := rs_ok hm hsz (by omega)
  have hrp := rs_parts hr
  have hv1 : val (cr m.q).n = nm m.q := val_limbs _
  have hv2 : val (cr m.q).d = m.q.den := val_limbs _
  have hv3 : (cr m.q).s = ng m.q := rfl
  have r0 : rs ((0 : Int) : Rat) ≤ 10 := by decide +kernel
  have r1 : rs ((1 : Int) : Rat) ≤ 10 := by decide +kernel
  have r64 : rs ((64 : Int) : Rat) ≤ 10 := by decide +kernel
  rcases hk1 with hk1 | hk1
  rotate_left
  · have hkb : ((1024 : Int) < k) = True := eq_true hk1
    have hKO : tOkK k m.q = false := by unfold tOkK; rw [decide_eq_true hk1]; simp
    have hKT : tBK all k m.q z = bb ((0 : Int) : Rat) ((0 : Int) : Rat) := if_pos hk1
    cases hn : ng m.q with
    | true =>
      have hfold : (⟨true, (cr m.q).n, (cr m.q).d⟩ : RR) = cr m.q := by rw [← hn]; rfl
      simp only [go_sem, d_rat_Norm, d_rat_Int, d_rat_Cmp, d_ball_Of, d_rat_Zero, d_disc_counts, d_fix_Add, d_rat_Neg, d_exps_Exp, d_fix_Ball, d_fix_Mul, d_fix_Told, hv3, hkb, hKO, hKT, decide_true, decide_false, Bool.not_true, Bool.not_false, beq_self_eq_true, eq_self, hn, hfold, Nat.reduceBEq, Nat.reduceBNe, Nat.reduceLT, Nat.reduceLeDiff, Nat.reduceAdd, Nat.reduceSub, Nat.reduceMul, Nat.reduceEqDiff, Int.reduceNeg, Int.reduceAdd, Int.reduceLT, Int.reduceLE, Int.reduceToNat, ↓reduceIte]
      ((try and_intros) <;> first | exact trivial | omega | (show okDraw _ _ = true; kernel_rfl) | rfl | assumption)
    | false =>
      have hfold : (⟨false, (cr m.q).n, (cr m.q).d⟩ : RR) = cr m.q := by rw [← hn]; rfl
      by_cases h64 : ((64 : Int) : Rat) < m.q
      · have h64t : (((64 : Int) : Rat) < m.q) = True := eq_true h64
        simp only [go_sem, d_rat_Norm, d_rat_Int, d_rat_Cmp, d_ball_Of, d_rat_Zero, d_disc_counts, d_fix_Add, d_rat_Neg, d_exps_Exp, d_fix_Ball, d_fix_Mul, d_fix_Told, hv3, hkb, hKO, hKT, decide_true, decide_false, Bool.not_true, Bool.not_false, beq_self_eq_true, eq_self, hn, hfold, h64t, Nat.reduceBEq, Nat.reduceBNe, Nat.reduceLT, Nat.reduceLeDiff, Nat.reduceAdd, Nat.reduceSub, Nat.reduceMul, Nat.reduceEqDiff, Int.reduceNeg, Int.reduceAdd, Int.reduceLT, Int.reduceLE, Int.reduceToNat, ↓reduceIte]
        ((try and_intros) <;> first | exact trivial | omega | (show okDraw _ _ = true; kernel_rfl) | rfl | assumption)
      have h64f : (((64 : Int) : Rat) < m.q) = False := eq_false h64
      simp only [go_sem, d_rat_Norm, d_rat_Int, d_rat_Cmp, d_ball_Of, d_rat_Zero, d_disc_counts, d_fix_Add, d_rat_Neg, d_exps_Exp, d_fix_Ball, d_fix_Mul, d_fix_Told, hv3, hkb, hKO, hKT, decide_true, decide_false, Bool.not_true, Bool.not_false, beq_self_eq_true, eq_self, hn, hfold, h64f, Nat.reduceBEq, Nat.reduceBNe, Nat.reduceLT, Nat.reduceLeDiff, Nat.reduceAdd, Nat.reduceSub, Nat.reduceMul, Nat.reduceEqDiff, Int.reduceNeg, Int.reduceAdd, Int.reduceLT, Int.reduceLE, Int.reduceToNat, ↓reduceIte]
      ((try and_intros) <;> first | exact trivial | omega | (show okDraw _ _ = true; kernel_rfl) | rfl | assumption)
  have hkb : ((1024 : Int) < k) = False := eq_false (by omega)
  have hKO : tOkK k m.q = tOk m.q := by unfold tOkK; rw [decide_eq_false (show ¬ (1024 : Int) < k by omega)]; simp
  have hKT : tBK all k m.q z = tB all k m.q z := if_neg (by omega)
  cases hn : ng m.q with
  | true =>
    have hfold : (⟨true, (cr m.q).n, (cr m.q).d⟩ : RR) = cr m.q := by rw [← hn]; rfl
    have hO : tOk m.q = false := by unfold tOk; rw [hn]; rfl
    have hT : tB all k m.q z = bb ((0 : Int) : Rat) ((0 : Int) : Rat) := by unfold tB; rw [hO, if_neg (by decide)]
    simp only [go_sem, d_rat_Norm, d_rat_Int, d_rat_Cmp, d_ball_Of, d_rat_Zero, d_disc_counts, d_fix_Add, d_rat_Neg, d_exps_Exp, d_fix_Ball, d_fix_Mul, d_fix_Told, hv3, hkb, hKO, hKT, decide_true, decide_false, Bool.not_true, Bool.not_false, beq_self_eq_true, eq_self, hn, hfold, hO, hT, Nat.reduceBEq, Nat.reduceBNe, Nat.reduceLT, Nat.reduceLeDiff, Nat.reduceAdd, Nat.reduceSub, Nat.reduceMul, Nat.reduceEqDiff, Int.reduceNeg, Int.reduceAdd, Int.reduceLT, Int.reduceLE, Int.reduceToNat, ↓reduceIte]
    ((try and_intros) <;> first | exact trivial | omega | (show okDraw _ _ = true; kernel_rfl) | rfl | assumption)
  | false =>
    have hfold : (⟨false, (cr m.q).n, (cr m.q).d⟩ : RR) = cr m.q := by rw [← hn]; rfl
    by_cases h64 : ((64 : Int) : Rat) < m.q
    · have h64t : (((64 : Int) : Rat) < m.q) = True := eq_true h64
      have hO : tOk m.q = false := by unfold tOk; rw [hn, decide_eq_false (show ¬ m.q ≤ 64 from fun h => absurd (show (64 : Rat) < m.q from h64) (Rat.not_lt.2 h))]; rfl
      have hT : tB all k m.q z = bb ((0 : Int) : Rat) ((0 : Int) : Rat) := by unfold tB; rw [hO, if_neg (by decide)]
      simp only [go_sem, d_rat_Norm, d_rat_Int, d_rat_Cmp, d_ball_Of, d_rat_Zero, d_disc_counts, d_fix_Add, d_rat_Neg, d_exps_Exp, d_fix_Ball, d_fix_Mul, d_fix_Told, hv3, hkb, hKO, hKT, decide_true, decide_false, Bool.not_true, Bool.not_false, beq_self_eq_true, eq_self, hn, hfold, hO, hT, h64t, Nat.reduceBEq, Nat.reduceBNe, Nat.reduceLT, Nat.reduceLeDiff, Nat.reduceAdd, Nat.reduceSub, Nat.reduceMul, Nat.reduceEqDiff, Int.reduceNeg, Int.reduceAdd, Int.reduceLT, Int.reduceLE, Int.reduceToNat, ↓reduceIte]
      ((try and_intros) <;> first | exact trivial | omega | (show okDraw _ _ = true; kernel_rfl) | rfl | assumption)
    have h64f : (((64 : Int) : Rat) < m.q) = False := eq_false h64
    have hle : m.q ≤ 64 := Rat.not_lt.1 h64
    have hO : tOk m.q = true := by unfold tOk; rw [hn, decide_eq_true hle]; rfl
    by_cases hkn : k < 0
    · have hT : tB all k m.q z = bb ((0 : Int) : Rat) ((0 : Int) : Rat) := by unfold tB; rw [if_pos hO, if_pos (.inl hkn)]
      have hknt : (k < 0) = True := eq_true hkn
      simp only [go_sem, d_rat_Norm, d_rat_Int, d_rat_Cmp, d_ball_Of, d_rat_Zero, d_disc_counts, d_fix_Add, d_rat_Neg, d_exps_Exp, d_fix_Ball, d_fix_Mul, d_fix_Told, hv3, hkb, hKO, hKT, decide_true, decide_false, Bool.not_true, Bool.not_false, beq_self_eq_true, eq_self, hn, hfold, hO, h64f, hT, hknt, Nat.reduceBEq, Nat.reduceBNe, Nat.reduceLT, Nat.reduceLeDiff, Nat.reduceAdd, Nat.reduceSub, Nat.reduceMul, Nat.reduceEqDiff, Int.reduceNeg, Int.reduceAdd, Int.reduceLT, Int.reduceLE, Int.reduceToNat, ↓reduceIte]
      ((try and_intros) <;> first | exact trivial | omega | (show okDraw _ _ = true; kernel_rfl) | rfl | assumption)
    have hknf : (k < 0) = False := eq_false hkn
    by_cases hq0 : m.q = 0
    · have hq0t : (m.q = 0) = True := eq_true hq0
      by_cases hk2 : 0 < k
      · have hk2t : (0 < k) = True := eq_true hk2
        cases all with
        | false =>
          have hT : tB false k m.q z = bb ((0 : Int) : Rat) ((0 : Int) : Rat) := by unfold tB; rw [if_pos hO, if_pos (.inr ⟨hq0, hk2, rfl⟩)]
          simp only [go_sem, d_rat_Norm, d_rat_Int, d_rat_Cmp, d_ball_Of, d_rat_Zero, d_disc_counts, d_fix_Add, d_rat_Neg, d_exps_Exp, d_fix_Ball, d_fix_Mul, d_fix_Told, hv3, hkb, hKO, hKT, decide_true, decide_false, Bool.not_true, Bool.not_false, beq_self_eq_true, eq_self, hn, hfold, hO, h64f, hknf, hT, hq0t, hk2t, Nat.reduceBEq, Nat.reduceBNe, Nat.reduceLT, Nat.reduceLeDiff, Nat.reduceAdd, Nat.reduceSub, Nat.reduceMul, Nat.reduceEqDiff, Int.reduceNeg, Int.reduceAdd, Int.reduceLT, Int.reduceLE, Int.reduceToNat, ↓reduceIte]
          ((try and_intros) <;> first | exact trivial | omega | (show okDraw _ _ = true; kernel_rfl) | rfl | assumption)
        | true =>
          have hT : tB true k m.q z = bb ((1 : Int) : Rat) ((1 : Int) : Rat) := by unfold tB; rw [if_pos hO, if_neg (by intro h; rcases h with h | ⟨_, _, h⟩; exact hkn h; cases h), if_pos hq0]
          simp only [go_sem, d_rat_Norm, d_rat_Int, d_rat_Cmp, d_ball_Of, d_rat_Zero, d_disc_counts, d_fix_Add, d_rat_Neg, d_exps_Exp, d_fix_Ball, d_fix_Mul, d_fix_Told, hv3, hkb, hKO, hKT, decide_true, decide_false, Bool.not_true, Bool.not_false, beq_self_eq_true, eq_self, hn, hfold, hO, h64f, hknf, hT, hq0t, hk2t, Nat.reduceBEq, Nat.reduceBNe, Nat.reduceLT, Nat.reduceLeDiff, Nat.reduceAdd, Nat.reduceSub, Nat.reduceMul, Nat.reduceEqDiff, Int.reduceNeg, Int.reduceAdd, Int.reduceLT, Int.reduceLE, Int.reduceToNat, ↓reduceIte]
          ((try and_intros) <;> first | exact trivial | omega | (show okDraw _ _ = true; kernel_rfl) | rfl | assumption)
      have hk2f : (0 < k) = False := eq_false hk2
      have hT : tB all k m.q z = bb ((1 : Int) : Rat) ((1 : Int) : Rat) := by unfold tB; rw [if_pos hO, if_neg (by intro h; rcases h with h | ⟨_, h, _⟩; exact hkn h; exact hk2 h), if_pos hq0]
      simp only [go_sem, d_rat_Norm, d_rat_Int, d_rat_Cmp, d_ball_Of, d_rat_Zero, d_disc_counts, d_fix_Add, d_rat_Neg, d_exps_Exp, d_fix_Ball, d_fix_Mul, d_fix_Told, hv3, hkb, hKO, hKT, decide_true, decide_false, Bool.not_true, Bool.not_false, beq_self_eq_true, eq_self, hn, hfold, hO, h64f, hknf, hT, hq0t, hk2f, Nat.reduceBEq, Nat.reduceBNe, Nat.reduceLT, Nat.reduceLeDiff, Nat.reduceAdd, Nat.reduceSub, Nat.reduceMul, Nat.reduceEqDiff, Int.reduceNeg, Int.reduceAdd, Int.reduceLT, Int.reduceLE, Int.reduceToNat, ↓reduceIte]
      ((try and_intros) <;> first | exact trivial | omega | (show okDraw _ _ = true; kernel_rfl) | rfl | assumption)
    have hq0f : (m.q = 0) = False := eq_false hq0
    have hT : tB all k m.q z = tBall all m.q z k.toNat := by unfold tB; rw [if_pos hO, if_neg (by intro h; rcases h with h | ⟨h, _⟩; exact hkn h; exact hq0 h), if_neg hq0]
    obtain ⟨K, rfl⟩ := Int.eq_ofNat_of_zero_le (show 0 ≤ k by omega)
    have hKt : ((K : Nat) : Int).toNat = K := rfl
    have hK : K ≤ 100 := by omega
    have hPP : tP z ≤ 200 := by unfold tP; omega
    have hPm : min (max z 0) 200 = ((tP z : Nat) : Int) := by unfold tP; omega
    have hPw : ((tP z : Nat) : Int) + 128 = ((tP z + 128 : Nat) : Int) := by omega
    have hPe : ((tP z : Nat) : Int) + 2 = ((tP z + 2 : Nat) : Int) := by omega
    generalize hW : tP z + 128 = W at *
    have hW1 : W ≤ 328 := by omega
    have hWt : ((W : Nat) : Int).toNat = W := rfl
    have hm0 : 0 ≤ m.q := Rat.num_nonneg.1 (by
      unfold ng at hn
      have := of_decide_eq_false hn
      omega)
    have hnn : nm m.q ≤ 64 * m.q.den := nm_le (k := 64) (by rw [show ((64 : Nat) : Rat) = 64 from rfl]; grind) hle
    have key := fun j hj => cF_sz (w := W) m.q.den_pos hnn (by omega) (j := j) hj
    have hln := spRow_len (cF (nm m.q) m.q.den W) (K + 1)
    have hgd := spRow_at (cF (nm m.q) m.q.den W) (m := K + 1) (i := K) (by omega)
    have htk := spRow_take (cF (nm m.q) m.q.den W) (k := K) (m := K + 1) (by omega)
    have hlk := spRow_len (cF (nm m.q) m.q.den W) K
    have hKle : ((K : Nat) : Int) < ((K + 1 : Nat) : Int) := by omega
    simp only [go_sem, d_rat_Norm, d_rat_Int, d_rat_Cmp, d_ball_Of, d_rat_Zero, d_disc_counts, d_fix_Add, d_rat_Neg, d_exps_Exp, d_fix_Ball, d_fix_Mul, d_fix_Told, hv3, hkb, hKO, hKT, decide_true, decide_false, Bool.not_true, Bool.not_false, beq_self_eq_true, eq_self, hn, hfold, hO, h64f, hknf, hv1, hv2, hq0f, hT, hKt, hPm, hPw, hPe, hWt, hgd, htk, hln, hlk, List.length_map, Option.toList_none, Option.toList_some, List.nil_append, Nat.reduceBEq, Nat.reduceBNe, Nat.reduceLT, Nat.reduceLeDiff, Nat.reduceAdd, Nat.reduceSub, Nat.reduceMul, Nat.reduceEqDiff, Int.reduceNeg, Int.reduceAdd, Int.reduceLT, Int.reduceLE, Int.reduceToNat, ↓reduceIte]
    and_intros
    all_goals try (first | omega | exact m.q.den_pos | (show okDraw _ _ = true; kernel_rfl))
    refine cut_bs2 fun C0 hC0 => ?_
    have hB := cF_by (w := W) m.q.den_pos hnn
    have hcs : ∀ i, i ≤ K → (spN (sAt all (P.spOf (nm m.q) m.q.den W) W K i)).sz ≤ 200 ∧ (limbs (sAt all (P.spOf (nm m.q) m.q.den W) W K i).1).length ≤ 200 ∧ (limbs (sAt all (P.spOf (nm m.q) m.q.den W) W K i).2).length ≤ 200 := fun i hi => sAt_sz hB.1 hB.2 hW1 hK hi
    refine codeK_loop (fun i : { i : Nat // i ≤ K } => (73, 0, .av (intV ((i.1 : Nat) : Int))) :: (72, 0, .av (intV ((K : Nat) : Int))) :: (71, 0, .av (rowV celSpan (spRow (cF (nm m.q) m.q.den W) K))) :: (3, 0, .av (boolV all)) :: (10, 0, .av (intV ((W : Nat) : Int))) :: (2, 0, .av (intV ((tP z : Nat) : Int))) :: (boxSp 12 (limbs (sAt all (P.spOf (nm m.q) m.q.den W) W K i.1).1) (limbs (sAt all (P.spOf (nm m.q) m.q.den W) W K i.1).2) ++ (boxRat 5 (cr m.q) ++ boxBall 8))) (fun i => K - i.1) ⟨0, by omega⟩ (le_of ?_) ?_
    · have hz0 : sAt all (P.spOf (nm m.q) m.q.den W) W K 0 = cF (nm m.q) m.q.den W K := by unfold sAt; cases all <;> rfl
      simp only [go_sem, leL, hv3, hn, hz0, Nat.reduceBEq, Nat.reduceBNe, Nat.reduceLT, Nat.reduceLeDiff, Nat.reduceAdd, Nat.reduceSub, Nat.reduceMul, Nat.reduceEqDiff, Int.reduceNeg, Int.reduceAdd, Int.reduceLT, Int.reduceLE, Int.reduceToNat, ↓reduceIte]
      and_intros
      all_goals first | exact .inl rfl | rfl | trivial
    · rintro ⟨i, hi⟩
      obtain ⟨z1, z2, z3⟩ := hcs i hi
      by_cases hiK : i < K
      · have hit : (((i : Nat) : Int) < ((K : Nat) : Int)) = True := eq_true (by omega)
        have hiN : i ≤ K := hi
        have hgd2 := spRow_at (cF (nm m.q) m.q.den W) (m := K) (i := i) hiK
        have hti : ((i : Nat) : Int).toNat = i := rfl
        obtain ⟨y1, y2, y3⟩ := key i (by omega)
        cases all with
        | true =>
          have hst : P.spAdd (sAt true (P.spOf (nm m.q) m.q.den W) W K i) (cF (nm m.q) m.q.den W i) = sAt true (P.spOf (nm m.q) m.q.den W) W K (i + 1) := rfl
          simp only [go_sem, d_rat_Norm, d_rat_Int, d_rat_Cmp, d_ball_Of, d_rat_Zero, d_disc_counts, d_fix_Add, d_rat_Neg, d_exps_Exp, d_fix_Ball, d_fix_Mul, d_fix_Told, hv3, hn, hfold, hit, hgd2, hti, hlk, List.length_map, hKO, hKT, hst, Nat.reduceBEq, Nat.reduceBNe, Nat.reduceLT, Nat.reduceLeDiff, Nat.reduceAdd, Nat.reduceSub, Nat.reduceMul, Nat.reduceEqDiff, Int.reduceNeg, Int.reduceAdd, Int.reduceLT, Int.reduceLE, Int.reduceToNat, ↓reduceIte]
          and_intros
          all_goals try (first | omega | (show okDraw _ _ = true; kernel_rfl))
          refine ⟨⟨i + 1, by omega⟩, by show K - (i + 1) < K - i; omega, le_of ?_⟩
          simp only [go_sem, leL, hv3, hn, Nat.reduceBEq, Nat.reduceBNe, Nat.reduceLT, Nat.reduceLeDiff, Nat.reduceAdd, Nat.reduceSub, Nat.reduceMul, Nat.reduceEqDiff, Int.reduceNeg, Int.reduceAdd, Int.reduceLT, Int.reduceLE, Int.reduceToNat, ↓reduceIte]
          and_intros
          all_goals first | exact .inl rfl | rfl | trivial
        | false =>
          have hst : sAt false (P.spOf (nm m.q) m.q.den W) W K (i + 1) = sAt false (P.spOf (nm m.q) m.q.den W) W K i := rfl
          simp only [go_sem, d_rat_Norm, d_rat_Int, d_rat_Cmp, d_ball_Of, d_rat_Zero, d_disc_counts, d_fix_Add, d_rat_Neg, d_exps_Exp, d_fix_Ball, d_fix_Mul, d_fix_Told, hv3, hn, hfold, hit, hgd2, hti, hlk, List.length_map, hKO, hKT, Nat.reduceBEq, Nat.reduceBNe, Nat.reduceLT, Nat.reduceLeDiff, Nat.reduceAdd, Nat.reduceSub, Nat.reduceMul, Nat.reduceEqDiff, Int.reduceNeg, Int.reduceAdd, Int.reduceLT, Int.reduceLE, Int.reduceToNat, ↓reduceIte]
          and_intros
          all_goals try (first | omega | (show okDraw _ _ = true; kernel_rfl))
          refine ⟨⟨i + 1, by omega⟩, by show K - (i + 1) < K - i; omega, le_of ?_⟩
          simp only [go_sem, leL, hv3, hn, hst, Nat.reduceBEq, Nat.reduceBNe, Nat.reduceLT, Nat.reduceLeDiff, Nat.reduceAdd, Nat.reduceSub, Nat.reduceMul, Nat.reduceEqDiff, Int.reduceNeg, Int.reduceAdd, Int.reduceLT, Int.reduceLE, Int.reduceToNat, ↓reduceIte]
          and_intros
          all_goals first | exact .inl rfl | rfl | trivial
      have ei : i = K := by omega
      subst ei
      have hit : (((i : Nat) : Int) < ((i : Nat) : Int)) = False := eq_false (by omega)
      have hden2 : (-m.q).den ≤ 2 ^ 200 := by rw [den_neg]; exact hden
      obtain ⟨x1, x2⟩ := rs_exp (q := -m.q) ((W : Nat) : Int) hden2
      have hrn := rs_neg m.q
      have hE := ballSp_sz x1 x2 hW1
      have hms : (spN (P.spMul (sAt all (P.spOf (nm m.q) m.q.den W) W i i) (ballSp (bb (expLo (-m.q) ((W : Nat) : Int)) (expHi (-m.q) ((W : Nat) : Int))) W) W)).sz ≤ 1000 := mul_sz (L := 200) (M := 100) z2 z3 hE.1 hE.2 (by omega)
      have hres : toldB (P.spMul (sAt all (P.spOf (nm m.q) m.q.den W) W i i) (ballSp (bb (expLo (-m.q) ((W : Nat) : Int)) (expHi (-m.q) ((W : Nat) : Int))) W) W) W (tP z + 2) = tBall all m.q z i := by
        unfold tBall tS tE sAt
        rw [hW]
        rfl
      have hPt : ((tP z + 2 : Nat) : Int).toNat = tP z + 2 := rfl
      subst hC0
      have hbs : (⟨cr (expLo (-m.q) ((W : Nat) : Int)), cr (expHi (-m.q) ((W : Nat) : Int))⟩ : BB).sz ≤ 30 := Nat.max_le.2 ⟨x1, x2⟩
      simp only [go_sem, d_rat_Norm, d_rat_Int, d_rat_Cmp, d_ball_Of, d_rat_Zero, d_disc_counts, d_fix_Add, d_rat_Neg, d_exps_Exp, d_fix_Ball, d_fix_Mul, d_fix_Told, hv3, hn, hfold, hit, hPe, hPt, hWt, Nat.reduceBEq, Nat.reduceBNe, Nat.reduceLT, Nat.reduceLeDiff, Nat.reduceAdd, Nat.reduceSub, Nat.reduceMul, Nat.reduceEqDiff, Int.reduceNeg, Int.reduceAdd, Int.reduceLT, Int.reduceLE, Int.reduceToNat, ↓reduceIte]
      have hEs := spN_sz hE.1 hE.2
      simp only [bb] at hres hEs hms
      rw [hres]
      and_intros
      all_goals first | omega | exact hden2 | (show okDraw _ _ = true; kernel_rfl) | rfl
def d_disc_Pois2 : Den := den3 aInt aRat aInt (fun k m _ => (k ≤ 100 ∨ 1024 < k) ∧ m.sz ≤ 1000 ∧ m.q.den ≤ 2 ^ 200) fun k m p => ballOkV (tBK false k m.q p) (tOkK k m.q)
set_option maxRecDepth 100000 in
set_option maxHeartbeats 1000000 in
theorem s_disc_Pois2 : Sound Tryz.prog 4 d_disc_Pois2 := by
  refine sound3 (fz := nofz) (l := [(10, d_disc_told2)]) TT_ok ⟨s_disc_told2, trivial⟩ mixed Tryz.func4 Tryz.ntmps4 Tryz.results4 Tryz.call4 rfl (by omega) (fun _ _ _ => rfl) ?_
  intro a b c hp ha hb hc
  rw [codeK_start]
  simp only [go_sem, d_disc_told2, Nat.reduceBEq, Nat.reduceBNe, Nat.reduceLT, Nat.reduceLeDiff, Nat.reduceAdd, Nat.reduceSub, Nat.reduceMul, Nat.reduceEqDiff, Int.reduceNeg, Int.reduceAdd, Int.reduceLT, Int.reduceLE, Int.reduceToNat, ↓reduceIte]
  and_intros
  all_goals first | exact hp.1 | exact hp.2.1 | exact hp.2.2 | rfl
def d_disc_PoisCdf2 : Den := den3 aInt aRat aInt (fun k m _ => (k ≤ 100 ∨ 1024 < k) ∧ m.sz ≤ 1000 ∧ m.q.den ≤ 2 ^ 200) fun k m p => ballOkV (tBK true k m.q p) (tOkK k m.q)
set_option maxRecDepth 100000 in
set_option maxHeartbeats 1000000 in
theorem s_disc_PoisCdf2 : Sound Tryz.prog 6 d_disc_PoisCdf2 := by
  refine sound3 (fz := nofz) (l := [(10, d_disc_told2)]) TT_ok ⟨s_disc_told2, trivial⟩ mixed Tryz.func6 Tryz.ntmps6 Tryz.results6 Tryz.call6 rfl (by omega) (fun _ _ _ => rfl) ?_
  intro a b c hp ha hb hc
  rw [codeK_start]
  simp only [go_sem, d_disc_told2, Nat.reduceBEq, Nat.reduceBNe, Nat.reduceLT, Nat.reduceLeDiff, Nat.reduceAdd, Nat.reduceSub, Nat.reduceMul, Nat.reduceEqDiff, Int.reduceNeg, Int.reduceAdd, Int.reduceLT, Int.reduceLE, Int.reduceToNat, ↓reduceIte]
  and_intros
  all_goals first | exact hp.1 | exact hp.2.1 | exact hp.2.2 | rfl
end Go.Proofs.YtnjgliojkoeneaaGreat
