/- Package exps: e to a power, as the program reckons it. Conditions: rows as each one says. -/
import Derived.Test.YtnjgliojkoeneaaGreatMa
import Derived.Test.YtnjgliojkoeneaaGreatPa
import Derived.Test.YtnjgliojkoeneaaGreatAu
namespace Go.Proofs.YtnjgliojkoeneaaGreat
open Go.RowKit
set_option linter.unusedSimpArgs false
set_option linter.unusedVariables false
theorem blen_small (m : Nat) : decide (((blen m : Nat) : Int) ≤ 1) = decide (m ≤ 1) := by
  refine decide_eq_decide.2 ⟨fun h => ?_, fun h => ?_⟩
  · have h1 := blen_lt m
    have h2 : 2 ^ blen m ≤ 2 ^ 1 := Nat.pow_le_pow_right (by omega) (by omega)
    omega
  · rcases Nat.lt_or_ge (blen m) 2 with h1 | h1
    · omega
    · have hm : m ≠ 0 := by rintro rfl; rw [blen_zero] at h1; omega
      have h2 := blen_le hm
      have h3 : 2 ^ 1 ≤ 2 ^ (blen m - 1) := Nat.pow_le_pow_right (by omega) (by omega)
      omega
def u64V (n : Int) : AV := .one (.cel (.int .u64 n))
/-- a box with two rows -/
def boxSp (id : Nat) (x : List Nat) (y : List Nat) : AS := [(id, 0, .av (.one (.cel (.ptr id 0)))), (id, 1, .cv (.lim none x)), (id, 2, .cv (.lim none y))]
def boxNil (id : Nat) : AS := [(id, 0, .av (.one (.cel (.ptr id 0)))), (id, 1, .cv .nil), (id, 2, .cv .nil)]
theorem sp_fold (p : Nat × Nat) : (⟨limbs p.1, limbs p.2⟩ : SpL) = spN p := rfl
theorem sp_eta (s : SpL) : (⟨s.lo, s.hi⟩ : SpL) = s := rfl
theorem spN_lo (p : Nat × Nat) : (spN p).lo = limbs p.1 := rfl
theorem spN_hi (p : Nat × Nat) : (spN p).hi = limbs p.2 := rfl
theorem toNat_succ (j : Nat) : ((j : Int) + 1).toNat = j + 1 := by omega
theorem spN_sz {p : Nat × Nat} {L : Nat} (h1 : (limbs p.1).length ≤ L) (h2 : (limbs p.2).length ≤ L) : (spN p).sz ≤ L := Nat.max_le.2 ⟨h1, h2⟩
theorem u64_wrap {n : Int} (h0 : 0 ≤ n) (h1 : n < 18446744073709551616) : IntKind.u64.wrap n = n := by
  show n % 18446744073709551616 = n
  omega
theorem mul_sz {a b : Nat × Nat} {w L M K : Nat} (h1 : (limbs a.1).length ≤ L) (h2 : (limbs a.2).length ≤ L) (h3 : (limbs b.1).length ≤ M) (h4 : (limbs b.2).length ≤ M) (hK : L + M + 2 ≤ K) : (spN (P.spMul a b w)).sz ≤ K := by
  have k1 := limbs_len_mul a.1 b.1
  have k2 := limbs_len_mul a.2 b.2
  have k3 := len_div (m := a.1 * b.1) (2 ^ w)
  have k4 := len_div (m := a.2 * b.2) (2 ^ w)
  have k5 := limbs_len_add (a.2 * b.2 / 2 ^ w) 1
  have k6 := len_one
  exact spN_sz (show (limbs (a.1 * b.1 / 2 ^ w)).length ≤ K by omega) (show (limbs (a.2 * b.2 / 2 ^ w + 1)).length ≤ K by omega)
attribute [go_sem] u64V boxSp boxNil sp_fold sp_eta spN_v spN_lo spN_hi toNat_succ
structure RowI (y : Nat × Nat) (w : Nat) where
  j : Nat
  le : j ≤ P.xJ y w
def d_exps_row : Den := den2 aSpan aInt (fun a w => a.sz ≤ 90000000000 ∧ a.v.2 = a.v.1 + 1 ∧ 4 * a.v.2 ≤ 2 ^ w.toNat ∧ 160 ≤ w ∧ w ≤ 100000000000) fun a w => spanV (spN (P.xR a.v w.toNat))
set_option maxRecDepth 100000 in
set_option maxHeartbeats 1000000 in
theorem s_exps_row : Sound Tryz.prog 96 d_exps_row := by
  refine sound2 (fz := nofz) (l := [(60, d_fix_Unit), (115, d_fix_Small), (37, d_fix_Mul), (62, d_fix_One), (58, d_nat_Of), (61, d_fix_Times), (33, d_fix_Add), (116, d_fix_Wider)]) TT_ok ⟨s_fix_Unit, s_fix_Small, s_fix_Mul, s_fix_One, s_nat_Of, s_fix_Times, s_fix_Add, s_fix_Wider, trivial⟩ mixed Tryz.func96 Tryz.ntmps96 Tryz.results96 Tryz.call96 rfl (by omega) (fun _ _ => rfl) ?_
  intro a b hp ha hb
  rw [codeK_start]
  simp only [go_sem, d_fix_Unit, d_fix_Small, d_fix_Mul, d_fix_One, d_nat_Of, d_fix_Times, d_fix_Add, d_fix_Wider, Nat.reduceBEq, Nat.reduceBNe, Nat.reduceLT, Nat.reduceLeDiff, Nat.reduceAdd, Nat.reduceSub, Nat.reduceMul, Nat.reduceEqDiff, Int.reduceNeg, Int.reduceAdd, Int.reduceLT, Int.reduceLE, Int.reduceToNat, ↓reduceIte]
  obtain ⟨hp1, hs, hy, hw1, hw2⟩ := hp
  have hs1 : a.lo.length ≤ 90000000000 := by unfold SpL.sz at hp1; omega
  have hs2 : a.hi.length ≤ 90000000000 := by unfold SpL.sz at hp1; omega
  generalize hw : b.toNat = w at *
  have hb : b = (w : Int) := by omega
  subst hb
  have hwn : 160 ≤ w := by omega
  obtain ⟨hJ1, hJ2, hJ3⟩ := P.xJ_spec hy (show 1 ≤ w by omega)
  have key : ∀ j, j ≤ w + 2 → (limbs (P.xA a.v w j).1).length ≤ 4000000000 ∧ (limbs (P.xA a.v w j).2).length ≤ 4000000000 ∧ (limbs (P.xT a.v w j).1).length ≤ 4000000000 ∧ (limbs (P.xT a.v w j).2).length ≤ 4000000000 := by
    intro j hj
    obtain ⟨k1, k2, k3, k4⟩ := P.xA_short hy hs hwn hj
    have := len_bits k1
    have := len_bits k2
    have := len_bits k3
    have := len_bits k4
    omega
  refine ⟨⟨by omega, by omega⟩, ?_⟩
  refine codeK_loop (fun x : RowI a.v w => (7, 0, .av (u64V ((x.j : Int) + 1))) :: (boxSp 5 (limbs (P.xA a.v w x.j).1) (limbs (P.xA a.v w x.j).2) ++ (boxSp 6 (limbs (P.xT a.v w x.j).1) (limbs (P.xT a.v w x.j).2) ++ (boxSp 2 a.lo a.hi ++ ((1, 0, .av (intV (w : Int))) :: boxNil 4))))) (fun x => P.xJ a.v w - x.j) ⟨0, by omega⟩ (le_of ?_) ?_
  · simp only [go_sem, leL, Nat.reduceBEq, Nat.reduceBNe, Nat.reduceLT, Nat.reduceLeDiff, Nat.reduceAdd, Nat.reduceSub, Nat.reduceMul, Nat.reduceEqDiff, Int.reduceNeg, Int.reduceAdd, Int.reduceLT, Int.reduceLE, Int.reduceToNat, ↓reduceIte]
    and_intros
    all_goals rfl
  · rintro ⟨j, hj⟩
    obtain ⟨l1, l2, l3, l4⟩ := key j (by omega)
    have hwr : IntKind.u64.wrap ((j : Int) + 1 + 1) = (((j + 1 : Nat) : Int)) + 1 := by rw [u64_wrap (by omega) (by omega)]; omega
    by_cases hjJ : j = P.xJ a.v w
    · have hd := decide_eq_true (show (P.xT a.v w j).2 ≤ 1 by rw [hjJ]; exact hJ1)
      simp only [go_sem, d_fix_Unit, d_fix_Small, d_fix_Mul, d_fix_One, d_nat_Of, d_fix_Times, d_fix_Add, d_fix_Wider, blen_small, hd, hwr, Nat.reduceBEq, Nat.reduceBNe, Nat.reduceLT, Nat.reduceLeDiff, Nat.reduceAdd, Nat.reduceSub, Nat.reduceMul, Nat.reduceEqDiff, Int.reduceNeg, Int.reduceAdd, Int.reduceLT, Int.reduceLE, Int.reduceToNat, ↓reduceIte]
      subst hjJ
      exact ⟨spN_sz (by omega) (by omega), spN_sz (by omega) (by omega), rfl, rfl⟩
    · have hd := decide_eq_false (show ¬ (P.xT a.v w j).2 ≤ 1 by have := hJ2 j (by omega); omega)
      obtain ⟨m1, m2, m3, m4⟩ := key (j + 1) (by omega)
      have y1 : (limbs a.v.1).length ≤ 4000000000 := by have := len_bits (show a.v.1 < 2 ^ w by omega); omega
      have y2 : (limbs a.v.2).length ≤ 4000000000 := by have := len_bits (show a.v.2 < 2 ^ w by have := Nat.pow_pos (n := w) (show 0 < 2 by omega); omega); omega
      have hl1 := len_one
      have hl2 : (limbs (j + 1)).length ≤ 4000000000 := by have := limbs_len_le (n := j + 1) (k := 2) (by rw [show (4294967296 : Nat) ^ 2 = 18446744073709551616 by decide]; omega); omega
      simp only [go_sem, d_fix_Unit, d_fix_Small, d_fix_Mul, d_fix_One, d_nat_Of, d_fix_Times, d_fix_Add, d_fix_Wider, blen_small, hd, hwr, Nat.reduceBEq, Nat.reduceBNe, Nat.reduceLT, Nat.reduceLeDiff, Nat.reduceAdd, Nat.reduceSub, Nat.reduceMul, Nat.reduceEqDiff, Int.reduceNeg, Int.reduceAdd, Int.reduceLT, Int.reduceLE, Int.reduceToNat, ↓reduceIte]
      refine ⟨spN_sz (by omega) (by omega), ⟨spN_sz (by omega) (by omega), hp1, by omega⟩, ⟨by omega, by omega⟩, ⟨mul_sz l3 l4 y1 y2 (by omega), by omega, by omega⟩, ⟨spN_sz (by omega) (by omega), (show (spN (P.xT a.v w (j + 1))).sz ≤ 90000000000 from spN_sz (by omega) (by omega))⟩, ⟨j + 1, by omega⟩, ?_, le_of ?_⟩
      · show P.xJ a.v w - (j + 1) < P.xJ a.v w - j
        omega
      · simp only [go_sem, leL, Nat.reduceBEq, Nat.reduceBNe, Nat.reduceLT, Nat.reduceLeDiff, Nat.reduceAdd, Nat.reduceSub, Nat.reduceMul, Nat.reduceEqDiff, Int.reduceNeg, Int.reduceAdd, Int.reduceLT, Int.reduceLE, Int.reduceToNat, ↓reduceIte]
        and_intros
        all_goals first | exact .inl rfl | rfl
structure NearI where
  i : Nat
  le : i ≤ 14
def boxRat (id : Nat) (r : RR) : AS := [(id, 0, .av (.one (.cel (.ptr id 0)))), (id, 1, .cv (.bool r.s)), (id, 2, .cv (.lim none r.n)), (id, 3, .cv (.lim none r.d))]
attribute [go_sem] boxRat
theorem shiftN_14 (m : Nat) : shiftN m 14 = m * 2 ^ 14 := shiftN_up (by omega) m
def d_exps_near : Den := den2 aRat aInt (fun a w => a.sz ≤ 1000000 ∧ 0 < val a.d ∧ val a.n ≤ 64 * val a.d ∧ 160 ≤ w ∧ w ≤ 90000000000) fun a w => spanV (spN (P.xNear a.s (val a.n) (val a.d) w.toNat))
set_option maxRecDepth 100000 in
set_option maxHeartbeats 1000000 in
theorem s_exps_near : Sound Tryz.prog 66 d_exps_near := by
  refine sound2 (fz := nofz) (l := [(68, d_fix_Shift), (94, d_fix_Of), (96, d_exps_row), (37, d_fix_Mul), (97, d_fix_Inverse)]) TT_ok ⟨s_fix_Shift, s_fix_Of, s_exps_row, s_fix_Mul, s_fix_Inverse, trivial⟩ mixed Tryz.func66 Tryz.ntmps66 Tryz.results66 Tryz.call66 rfl (by omega) (fun _ _ => rfl) ?_
  intro a b hp ha hb
  rw [codeK_start]
  simp only [go_sem, d_fix_Shift, d_fix_Of, d_exps_row, d_fix_Mul, d_fix_Inverse, Nat.reduceBEq, Nat.reduceBNe, Nat.reduceLT, Nat.reduceLeDiff, Nat.reduceAdd, Nat.reduceSub, Nat.reduceMul, Nat.reduceEqDiff, Int.reduceNeg, Int.reduceAdd, Int.reduceLT, Int.reduceLE, Int.reduceToNat, ↓reduceIte]
  obtain ⟨hp1, hd, hn, hw1, hw2⟩ := hp
  have hl := RR.lens hp1
  generalize hw : b.toNat = w at *
  have hb : b = (w : Int) := by omega
  subst hb
  have hwn : 160 ≤ w := by omega
  have hy := P.xY_ok hd hn hwn
  have hs : (P.spOf (val a.n) (val a.d * 2 ^ 14) w).2 = (P.spOf (val a.n) (val a.d * 2 ^ 14) w).1 + 1 := rfl
  have hdl := len_up (k := 14) ha.2 rfl
  have key : ∀ i, i ≤ 14 → (limbs (P.sqs (P.xR (P.spOf (val a.n) (val a.d * 2 ^ 14) w) w) w i).1).length ≤ 4000000000 ∧ (limbs (P.sqs (P.xR (P.spOf (val a.n) (val a.d * 2 ^ 14) w) w) w i).2).length ≤ 4000000000 := by
    intro i hi
    obtain ⟨k1, k2, _⟩ := P.sqs_short hy hs hwn hi
    have := len_bits k1
    have := len_bits k2
    omega
  have hY1 : (limbs (P.spOf (val a.n) (val a.d * 2 ^ 14) w).1).length ≤ 4000000000 := by have := len_bits (show (P.spOf (val a.n) (val a.d * 2 ^ 14) w).1 < 2 ^ w by omega); omega
  have hY2 : (limbs (P.spOf (val a.n) (val a.d * 2 ^ 14) w).2).length ≤ 4000000000 := by have := len_bits (show (P.spOf (val a.n) (val a.d * 2 ^ 14) w).2 < 2 ^ w by have := Nat.pow_pos (n := w) (show 0 < 2 by omega); omega); omega
  rw [shiftN_14]
  generalize hYe : P.spOf (val a.n) (val a.d * 2 ^ 14) w = Y at *
  refine ⟨by omega, ⟨by omega, by omega, by omega⟩, by kernel_rfl, ⟨spN_sz (by omega) (by omega), by omega, by omega, by omega⟩, ?_⟩
  refine codeK_loop (fun x : NearI => (17, 0, .av (intV (x.i : Int))) :: (boxSp 6 (limbs (P.sqs (P.xR Y w) w x.i).1) (limbs (P.sqs (P.xR Y w) w x.i).2) ++ (boxRat 2 a ++ ((1, 0, .av (intV (w : Int))) :: boxNil 4)))) (fun x => 14 - x.i) ⟨0, by omega⟩ (le_of ?_) ?_
  · simp only [go_sem, leL, Nat.reduceBEq, Nat.reduceBNe, Nat.reduceLT, Nat.reduceLeDiff, Nat.reduceAdd, Nat.reduceSub, Nat.reduceMul, Nat.reduceEqDiff, Int.reduceNeg, Int.reduceAdd, Int.reduceLT, Int.reduceLE, Int.reduceToNat, ↓reduceIte]
    and_intros
    all_goals first | exact .inl rfl | rfl
  · rintro ⟨i, hi⟩
    obtain ⟨l1, l2⟩ := key i hi
    by_cases hi2 : i = 14
    · have hlt : ((i : Int) < 14) = False := by rw [eq_iff_iff, iff_false]; omega
      cases hs2 : a.s with
      | true =>
        simp only [go_sem, d_fix_Shift, d_fix_Of, d_exps_row, d_fix_Mul, d_fix_Inverse, hlt, hs2, Nat.reduceBEq, Nat.reduceBNe, Nat.reduceLT, Nat.reduceLeDiff, Nat.reduceAdd, Nat.reduceSub, Nat.reduceMul, Nat.reduceEqDiff, Int.reduceNeg, Int.reduceAdd, Int.reduceLT, Int.reduceLE, Int.reduceToNat, ↓reduceIte]
        subst hi2
        refine ⟨⟨spN_sz (by omega) (by omega), by omega⟩, ?_, ?_⟩ <;> (simp only [P.xNear, hYe, if_true]; try rfl)
      | false =>
        simp only [go_sem, d_fix_Shift, d_fix_Of, d_exps_row, d_fix_Mul, d_fix_Inverse, hlt, hs2, Nat.reduceBEq, Nat.reduceBNe, Nat.reduceLT, Nat.reduceLeDiff, Nat.reduceAdd, Nat.reduceSub, Nat.reduceMul, Nat.reduceEqDiff, Int.reduceNeg, Int.reduceAdd, Int.reduceLT, Int.reduceLE, Int.reduceToNat, ↓reduceIte]
        subst hi2
        refine ⟨?_, ?_⟩ <;> (simp only [P.xNear, hYe, if_false, Bool.false_eq_true]; try rfl)
    · have hlt : ((i : Int) < 14) = True := by rw [eq_iff_iff, iff_true]; omega
      have hc : (i : Int) + 1 = ((i + 1 : Nat) : Int) := by omega
      simp only [go_sem, d_fix_Shift, d_fix_Of, d_exps_row, d_fix_Mul, d_fix_Inverse, hlt, Nat.reduceBEq, Nat.reduceBNe, Nat.reduceLT, Nat.reduceLeDiff, Nat.reduceAdd, Nat.reduceSub, Nat.reduceMul, Nat.reduceEqDiff, Int.reduceNeg, Int.reduceAdd, Int.reduceLT, Int.reduceLE, Int.reduceToNat, ↓reduceIte]
      refine ⟨⟨spN_sz (by omega) (by omega), spN_sz (by omega) (by omega), by omega⟩, by omega, ⟨i + 1, by omega⟩, ?_, le_of ?_⟩
      · show 14 - (i + 1) < 14 - i
        omega
      · simp only [go_sem, leL, hc, Nat.reduceBEq, Nat.reduceBNe, Nat.reduceLT, Nat.reduceLeDiff, Nat.reduceAdd, Nat.reduceSub, Nat.reduceMul, Nat.reduceEqDiff, Int.reduceNeg, Int.reduceAdd, Int.reduceLT, Int.reduceLE, Int.reduceToNat, ↓reduceIte]
        and_intros
        all_goals first | exact .inl rfl | rfl
theorem pto_ok {X : Nat → Nat → Prop} {w : World} {v : Value} {r : RR} (h : CV.P X w (.pto (ratCells r)) v) : r.ok := by
  simp only [CV.P] at h
  obtain ⟨b, off, _, h⟩ := h
  simp only [ratCells, cellsP] at h
  obtain ⟨_, ⟨u, _, hu⟩, ⟨t, _, ht⟩, _⟩ := h
  exact ⟨limV_ok (X := X) (w := w) (v := u) hu, limV_ok (X := X) (w := w) (v := t) ht⟩
def exactRat : List CV → Option RR
  | [.bool s, .lim none n, .lim none d] => some ⟨s, n, d⟩
  | _ => none
theorem exactRat_eq {l : List CV} {r : RR} (h : exactRat l = some r) : l = ratCells r := by
  unfold exactRat at h
  split at h
  · cases h; rfl
  · cases h
def paBox : AV → Option RR
  | .one (.cel (.pto cs)) => exactRat cs
  | _ => none
def boxV (r : RR) : AV := .one (.cel (.pto (ratCells r)))
def aBox : Arg RR where
  pa := paBox
  un := boxV
  va := RR.ok
  ok := by
    intro v x h X w u hu
    unfold paBox at h
    split at h
    · rw [exactRat_eq h] at hu; exact hu
    · cases h
  st := fun _ => rfl
  vd := fun x X w u hu => pto_ok hu
def paClo (f : Nat) : AV → Option RR
  | .one (.cel (.clo g [.pto cs])) => if (g == f) = true then exactRat cs else none
  | _ => none
def cloV (f : Nat) (r : RR) : AV := .one (.cel (.clo f [.pto (ratCells r)]))
def aClo (f : Nat) : Arg RR where
  pa := paClo f
  un := cloV f
  va := RR.ok
  ok := by
    intro v x h X w u hu
    unfold paClo at h
    split at h
    · split at h
      · rename_i hg
        rw [exactRat_eq h, beq_iff_eq.1 hg] at hu; exact hu
      · cases h
    · cases h
  st := fun _ => rfl
  vd := fun x X w u hu => by
    have hu : CV.P X w (.clo f [.pto (ratCells x)]) u := hu
    simp only [CV.P, valsP] at hu
    obtain ⟨vs, _, v, us, _, h, _⟩ := hu
    exact pto_ok (X := X) (w := w) (v := v) (by simpa only [CV.P] using h)
attribute [go_sem] aBox paBox boxV aClo paClo cloV exactRat
def d_exps_Exp_1 : Den := den2 aInt aBox (fun w a => a.sz ≤ 1000000 ∧ 0 < val a.d ∧ val a.n ≤ 64 * val a.d ∧ 160 ≤ w ∧ w ≤ 90000000000) fun w a => spanV (spN (P.xNear a.s (val a.n) (val a.d) w.toNat))
set_option maxRecDepth 100000 in
set_option maxHeartbeats 1000000 in
theorem s_exps_Exp_1 : Sound Tryz.prog 65 d_exps_Exp_1 := by
  refine sound2 (fz := nofz) (l := [(66, d_exps_near)]) TT_ok ⟨s_exps_near, trivial⟩ mixed Tryz.func65 Tryz.ntmps65 Tryz.results65 Tryz.call65 rfl (by omega) (fun _ _ => rfl) ?_
  intro a b hp ha hb
  rw [codeK_start]
  simp only [go_sem, d_exps_near, Nat.reduceBEq, Nat.reduceBNe, Nat.reduceLT, Nat.reduceLeDiff, Nat.reduceAdd, Nat.reduceSub, Nat.reduceMul, Nat.reduceEqDiff, Int.reduceNeg, Int.reduceAdd, Int.reduceLT, Int.reduceLE, Int.reduceToNat, ↓reduceIte]
  obtain ⟨hp1, hd, hn, hw1, hw2⟩ := hp
  exact ⟨hp1, hd, hn, hw1, hw2⟩
/-- the ball between two whole numbers by 2 to a power -/
def eB (f p : Nat) : BB := bb (qv false f (2 ^ p)) (qv false (f + 1) (2 ^ p))
theorem eW_succ (p i : Nat) : P.eW p i * 2 = P.eW p (i + 1) := by unfold P.eW; rw [Nat.pow_succ, Nat.mul_assoc]
structure CerI (n : Nat) where
  i : Nat
  le : i ≤ n
def boxBall (id : Nat) : AS := [(id, 0, .av (.one (.cel (.ptr id 0)))), (id, 1, .cv (.bool false)), (id, 2, .cv .nil), (id, 3, .cv .nil), (id, 4, .cv (.bool false)), (id, 5, .cv .nil), (id, 6, .cv .nil)]
attribute [go_sem] boxBall floorV
def d_exps_Certain : Den := den3 aInt aInt (aClo 65) (fun p t r => 0 ≤ p ∧ p ≤ 512 ∧ t = 160 ∧ r.sz ≤ 1000000 ∧ 0 < val r.n ∧ 0 < val r.d ∧ val r.n ≤ 64 * val r.d ∧ val r.d ≤ 2 ^ 200) fun p _ r => ballV (eB (P.eF r.s (val r.n) (val r.d) p.toNat) p.toNat)
set_option maxRecDepth 100000 in
set_option maxHeartbeats 1000000 in
theorem s_exps_Certain : Sound Tryz.prog 64 d_exps_Certain := by
  refine sound3 (fz := nofz) (l := [(95, d_fix_Floor), (62, d_fix_One), (68, d_fix_Shift), (56, d_rat_Of), (69, d_fix_Next), (65, d_exps_Exp_1)]) TT_ok ⟨s_fix_Floor, s_fix_One, s_fix_Shift, s_rat_Of, s_fix_Next, s_exps_Exp_1, trivial⟩ mixed Tryz.func64 Tryz.ntmps64 Tryz.results64 Tryz.call64 rfl (by omega) (fun _ _ _ => rfl) ?_
  intro a b c hp ha hb hc
  rw [codeK_start]
  simp only [go_sem, d_fix_Floor, d_fix_One, d_fix_Shift, d_rat_Of, d_fix_Next, d_exps_Exp_1, Nat.reduceBEq, Nat.reduceBNe, Nat.reduceLT, Nat.reduceLeDiff, Nat.reduceAdd, Nat.reduceSub, Nat.reduceMul, Nat.reduceEqDiff, Int.reduceNeg, Int.reduceAdd, Int.reduceLT, Int.reduceLE, Int.reduceToNat, ↓reduceIte]
  obtain ⟨hp0, hp5, ht, hsz, hn0, hd0, hn, hd2⟩ := hp
  generalize hk : a.toNat = k at *
  have ha : a = (k : Int) := by omega
  subst ha
  subst ht
  have hk5 : k ≤ 512 := by omega
  obtain ⟨e1, e2, e3, _, _, _⟩ := P.e_ends (neg := c.s) hd0 hn0 hn hd2 hk5 (r := ((val c.n : Nat) : Rat) * (1 / ((val c.d : Nat) : Rat))) (by rw [Rat.mul_assoc, P.one_div_mul (P.nat_pos hd0), Rat.mul_one])
  have hw0 : (k : Int) + 160 = ((P.eW k 0 : Nat) : Int) := by unfold P.eW; omega
  rw [hw0]
  have hW0 := P.eW_le hk5 (show 0 ≤ 25 by omega)
  refine ⟨⟨by omega, by omega⟩, ?_⟩
  refine codeK_loop (fun x : CerI (P.eI c.s (val c.n) (val c.d) k) => (7, 0, .av (intV ((P.eW k x.i : Nat) : Int))) :: (0, 0, .av (intV (k : Int))) :: (2, 0, .av (cloV 65 c)) :: boxBall 6) (fun x => P.eI c.s (val c.n) (val c.d) k - x.i) ⟨0, by omega⟩ (le_of ?_) ?_
  · simp only [go_sem, leL, Nat.reduceBEq, Nat.reduceBNe, Nat.reduceLT, Nat.reduceLeDiff, Nat.reduceAdd, Nat.reduceSub, Nat.reduceMul, Nat.reduceEqDiff, Int.reduceNeg, Int.reduceAdd, Int.reduceLT, Int.reduceLE, Int.reduceToNat, ↓reduceIte]
    and_intros
    all_goals first | exact .inl rfl | rfl
  · rintro ⟨i, hi⟩
    have hW := P.eW_le hk5 (show i ≤ 25 by omega)
    obtain ⟨s1, s2⟩ := P.xNear_short (neg := c.s) hd0 hn hW.1
    have l1 := len_bits s1
    have l2 := len_bits s2
    have l3 := len_div (m := (P.xNear c.s (val c.n) (val c.d) (P.eW k i)).1) (2 ^ (P.eW k i - k))
    have l4 := pow_bits k
    have l5 := limbs_len_add ((P.xNear c.s (val c.n) (val c.d) (P.eW k i)).1 / 2 ^ (P.eW k i - k)) 1
    have l6 := len_one
    have hsh : ∀ m, shiftN m (k : Int) = m * 2 ^ k := fun m => by rw [shiftN_up (by omega)]; congr 1
    by_cases hiI : i = P.eI c.s (val c.n) (val c.d) k
    · have hnext := True.intro
      have hd : decide (P.okF (P.xNear c.s (val c.n) (val c.d) (P.eW k i)) (P.eW k i) k) = true := decide_eq_true (by rw [hiI]; exact e2)
      have hef : P.eF c.s (val c.n) (val c.d) k = (P.xNear c.s (val c.n) (val c.d) (P.eW k i)).1 / 2 ^ (P.eW k i - k) := by rw [hiI]; rfl
      simp only [go_sem, d_fix_Floor, d_fix_One, d_fix_Shift, d_rat_Of, d_fix_Next, d_exps_Exp_1, hd, hsh, hnext, Nat.one_mul, Nat.reduceBEq, Nat.reduceBNe, Nat.reduceLT, Nat.reduceLeDiff, Nat.reduceAdd, Nat.reduceSub, Nat.reduceMul, Nat.reduceEqDiff, Int.reduceNeg, Int.reduceAdd, Int.reduceLT, Int.reduceLE, Int.reduceToNat, ↓reduceIte]
      rw [hef]
      refine ⟨⟨hsz, hd0, hn, by omega, by omega⟩, ⟨spN_sz (by omega) (by omega), by omega, by omega⟩, ⟨by omega, by omega, by omega⟩, ⟨by omega, by omega⟩, by omega, ⟨by omega, by omega⟩, rfl, rfl, rfl, rfl, rfl, rfl⟩
    · have hd : decide (P.okF (P.xNear c.s (val c.n) (val c.d) (P.eW k i)) (P.eW k i) k) = false := decide_eq_false (e3 i (by omega))
      have hnext : ((P.eW k i : Nat) : Int) * 2 = ((P.eW k (i + 1) : Nat) : Int) := by rw [← eW_succ]; omega
      have hW2 := P.eW_le hk5 (show i + 1 ≤ 25 by omega)
      simp only [go_sem, d_fix_Floor, d_fix_One, d_fix_Shift, d_rat_Of, d_fix_Next, d_exps_Exp_1, hd, hsh, hnext, Nat.one_mul, Nat.reduceBEq, Nat.reduceBNe, Nat.reduceLT, Nat.reduceLeDiff, Nat.reduceAdd, Nat.reduceSub, Nat.reduceMul, Nat.reduceEqDiff, Int.reduceNeg, Int.reduceAdd, Int.reduceLT, Int.reduceLE, Int.reduceToNat, ↓reduceIte]
      refine ⟨⟨hsz, hd0, hn, by omega, by omega⟩, ⟨spN_sz (by omega) (by omega), by omega, by omega⟩, ⟨by omega, by omega⟩, ⟨i + 1, by omega⟩, ?_, le_of ?_⟩
      · show P.eI c.s (val c.n) (val c.d) k - (i + 1) < P.eI c.s (val c.n) (val c.d) k - i
        omega
      · simp only [go_sem, leL, Nat.reduceBEq, Nat.reduceBNe, Nat.reduceLT, Nat.reduceLeDiff, Nat.reduceAdd, Nat.reduceSub, Nat.reduceMul, Nat.reduceEqDiff, Int.reduceNeg, Int.reduceAdd, Int.reduceLT, Int.reduceLE, Int.reduceToNat, ↓reduceIte]
        and_intros
        all_goals first | exact .inl rfl | rfl
def expOk (q : Rat) : Bool := decide (-64 ≤ q) && decide (q ≤ 64)
def expF (q : Rat) (p : Int) : Nat := P.eF (ng q) (nm q) q.den (hold p)
def expLo (q : Rat) (p : Int) : Rat := if expOk q = true then if q = 0 then 1 else qv false (expF q p) (2 ^ hold p) else 0
def expHi (q : Rat) (p : Int) : Rat := if expOk q = true then if q = 0 then 1 else qv false (expF q p + 1) (2 ^ hold p) else 0
theorem rat_num (q : Rat) : q * ((q.den : Nat) : Rat) = (q.num : Rat) := by rw [Rat.mul_comm]; exact P.rat_den q
theorem sg_nm (q : Rat) : (if ng q = true then -(((nm q : Nat) : Rat)) else ((nm q : Nat) : Rat)) = (q.num : Rat) := by
  unfold ng nm
  by_cases h : q.num < 0
  · rw [if_pos (decide_eq_true h)]
    rw [show ((q.num.natAbs : Nat) : Rat) = ((((q.num.natAbs : Nat) : Int)) : Rat) from rfl, ← Rat.intCast_neg]
    congr 1; omega
  · rw [if_neg (by simpa using h)]
    rw [show ((q.num.natAbs : Nat) : Rat) = ((((q.num.natAbs : Nat) : Int)) : Rat) from rfl]
    congr 1; omega
/-- the number without its sign -/
def abQ (q : Rat) : Rat := if ng q = true then -q else q
theorem abQ_mul (q : Rat) : abQ q * ((q.den : Nat) : Rat) = ((nm q : Nat) : Rat) := by
  have h1 := rat_num q
  have h2 := sg_nm q
  unfold abQ
  split at h2
  · rename_i h; rw [if_pos h]; grind
  · rename_i h; rw [if_neg h]; grind
theorem sg_abQ (q : Rat) : P.sg (ng q) (abQ q) = q := by
  unfold P.sg abQ
  split
  · grind
  · rfl
theorem abQ_le {q c : Rat} (h1 : -c ≤ q) (h2 : q ≤ c) : abQ q ≤ c := by
  unfold abQ
  split <;> grind
theorem nm_le {q : Rat} {k : Nat} (h1 : -((k : Nat) : Rat) ≤ q) (h2 : q ≤ ((k : Nat) : Rat)) : nm q ≤ k * q.den := by
  have h3 := abQ_le h1 h2
  have h4 := Rat.mul_le_mul_of_nonneg_right h3 (P.nat_nn q.den)
  rw [abQ_mul, ← Rat.natCast_mul, Rat.natCast_le_natCast] at h4
  exact h4
theorem nm_pos {q : Rat} (h : q ≠ 0) : 0 < nm q := by
  unfold nm
  have : q.num ≠ 0 := fun e => h (Rat.num_eq_zero.1 e)
  omega
/-- the two whole numbers hold it -/
theorem expF_is {q : Rat} {p : Int} (h0 : q ≠ 0) (h1 : -64 ≤ q) (h2 : q ≤ 64) (hd : q.den ≤ 2 ^ 200) : q ≠ 0 ∧ P.Sm q ∧ P.IsE q (hold p) (expF q p) := by
  have := P.e_ends (neg := ng q) (n := nm q) (d := q.den) (p := hold p) (r := abQ q) q.den_pos (nm_pos h0) (nm_le (k := 64) h1 h2) hd (hold_le p) (abQ_mul q)
  rw [sg_abQ] at this
  exact ⟨h0, this.2.2.2.2.1, this.2.2.2.2.2⟩
def fz_exps_Exp : Nat → List Nat
  | 12 => [2]
  | _ => []
def d_exps_Exp : Den := den2 aRat aInt (fun a _ => a.sz ≤ 100000 ∧ a.q.den ≤ 2 ^ 200) fun a p => ballOkV (bb (expLo a.q p) (expHi a.q p)) (expOk a.q)
set_option maxRecDepth 100000 in
set_option maxHeartbeats 1000000 in
theorem s_exps_Exp : Sound Tryz.prog 34 d_exps_Exp := by
  refine sound2 (fz := fz_exps_Exp) (l := [(27, d_rat_Norm), (29, d_rat_Int), (28, d_rat_Cmp), (30, d_ball_Of), (31, d_rat_Zero), (64, d_exps_Certain)]) TT_ok ⟨s_rat_Norm, s_rat_Int, s_rat_Cmp, s_ball_Of, s_rat_Zero, s_exps_Certain, trivial⟩ mixed Tryz.func34 Tryz.ntmps34 Tryz.results34 Tryz.call34 rfl (by omega) (fun _ _ => rfl) ?_
  intro a b hp ha hb
  rw [codeK_start]
  simp only [go_sem, d_rat_Norm, d_rat_Int, d_rat_Cmp, d_ball_Of, d_rat_Zero, d_exps_Certain, fz_exps_Exp, Nat.reduceBEq, Nat.reduceBNe, Nat.reduceLT, Nat.reduceLeDiff, Nat.reduceAdd, Nat.reduceSub, Nat.reduceMul, Nat.reduceEqDiff, Int.reduceNeg, Int.reduceAdd, Int.reduceLT, Int.reduceLE, Int.reduceToNat, ↓reduceIte]
  obtain ⟨hsz, hden⟩ := hp
  have hr : rs a.q ≤ 100000 := rs_ok ha hsz (by omega)
  have hrp := rs_parts hr
  have hh : min (max b 0) 512 = ((hold b : Nat) : Int) := (hold_cast b).symm
  have hv1 : val (cr a.q).n = nm a.q := val_limbs _
  have hv2 : val (cr a.q).d = a.q.den := val_limbs _
  have hv3 : (cr a.q).s = ng a.q := rfl
  rw [hv1, hv2, hh, show (((hold b : Nat) : Int)).toNat = hold b from rfl]
  have r1 : rs ((-64 : Int) : Rat) ≤ 10 := by decide +kernel
  have r2 : rs ((64 : Int) : Rat) ≤ 10 := by decide +kernel
  have r3 : rs ((0 : Int) : Rat) ≤ 10 := by decide +kernel
  have r4 : rs ((1 : Int) : Rat) ≤ 10 := by decide +kernel
  have hb5 := hold_le b
  refine ⟨by omega, ⟨by omega, by omega⟩, ?_⟩
  by_cases h1 : a.q < ((-64 : Int) : Rat)
  · have hk : expOk a.q = false := by
      unfold expOk
      rw [decide_eq_false (show ¬ (-64 : Rat) ≤ a.q from fun h => absurd (show a.q < -64 from h1) (Rat.not_lt.2 h))]
      rfl
    have hlo : expLo a.q b = ((0 : Int) : Rat) := by unfold expLo; rw [hk, if_neg (by decide)]; rfl
    have hhi : expHi a.q b = ((0 : Int) : Rat) := by unfold expHi; rw [hk, if_neg (by decide)]; rfl
    rw [decide_eq_true h1, if_neg (by decide), hlo, hhi, hk]
    and_intros
    all_goals first | omega | rfl | (show okDraw _ _ = true; kernel_rfl)
  · rw [decide_eq_false h1, if_pos rfl]
    have h1' : (-64 : Rat) ≤ a.q := Rat.not_lt.1 h1
    refine ⟨⟨by omega, by omega⟩, by kernel_rfl, ?_⟩
    by_cases h2 : ((64 : Int) : Rat) < a.q
    · have hk : expOk a.q = false := by
        unfold expOk
        rw [decide_eq_false (show ¬ a.q ≤ (64 : Rat) from fun h => absurd (show (64 : Rat) < a.q from h2) (Rat.not_lt.2 h)), Bool.and_false]
      have hlo : expLo a.q b = ((0 : Int) : Rat) := by unfold expLo; rw [hk, if_neg (by decide)]; rfl
      have hhi : expHi a.q b = ((0 : Int) : Rat) := by unfold expHi; rw [hk, if_neg (by decide)]; rfl
      rw [if_pos h2, hlo, hhi, hk]
      and_intros
      all_goals first | omega | rfl
    · have h2' : a.q ≤ (64 : Rat) := Rat.not_lt.1 h2
      have hk : expOk a.q = true := by
        unfold expOk
        rw [decide_eq_true h1', decide_eq_true h2']
        rfl
      rw [if_neg h2]
      refine ⟨by omega, ?_⟩
      by_cases h3 : a.q = 0
      · have hlo : expLo a.q b = ((1 : Int) : Rat) := by unfold expLo; rw [hk, if_pos rfl, if_pos h3]; rfl
        have hhi : expHi a.q b = ((1 : Int) : Rat) := by unfold expHi; rw [hk, if_pos rfl, if_pos h3]; rfl
        rw [if_pos h3, hlo, hhi, hk]
        and_intros
        all_goals first | omega | rfl
      · have hlo : expLo a.q b = qv false (expF a.q b) (2 ^ hold b) := by unfold expLo; rw [hk, if_pos rfl, if_neg h3]
        have hhi : expHi a.q b = qv false (expF a.q b + 1) (2 ^ hold b) := by unfold expHi; rw [hk, if_pos rfl, if_neg h3]
        rw [if_neg h3, hlo, hhi, hk]
        refine ⟨⟨by omega, by omega, by omega, nm_pos h3, a.q.den_pos, nm_le (k := 64) h1' h2', hden⟩, ⟨rfl, rfl, rfl, rfl, rfl, rfl⟩, rfl⟩
end Go.Proofs.YtnjgliojkoeneaaGreat
