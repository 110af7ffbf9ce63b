/- Package arcs: pi and angles, as the program reckons them. Conditions: rows as each one says; at most 200 bits. -/
import Derived.Test.YtifnpelkoklcnaaMh
import Derived.Test.YtifnpelkoklcnaaPh
namespace Go.Proofs.Ytifnpelkoklcnaa
open Go.RowKit
set_option linter.unusedSimpArgs false
set_option linter.unusedVariables false

theorem blen_small2 (m : Nat) : decide (((blen m : Nat) : Int) ≤ 2) = decide (m ≤ 3) := by
  refine decide_eq_decide.2 ⟨fun h => ?_, fun h => ?_⟩
  · have h1 := blen_lt m
    have h2 : 2 ^ blen m ≤ 2 ^ 2 := Nat.pow_le_pow_right (by omega) (by omega)
    omega
  · rcases Nat.lt_or_ge (blen m) 3 with h1 | h1
    · omega
    · have hm : m ≠ 0 := by rintro rfl; rw [blen_zero] at h1; omega
      have h2 := blen_le hm
      have h3 : 2 ^ 2 ≤ 2 ^ (blen m - 1) := Nat.pow_le_pow_right (by omega) (by omega)
      omega
structure AgI (b t : Nat × Nat) (w : Nat) where
  j : Nat
  le : j ≤ P.gJ b t w

def d_arcs_angle : Den := den3 aLim aLim aInt (fun a b w => a.length ≤ 1000000 ∧ b.length ≤ 1000000 ∧ 0 < val b ∧ val a ≤ val b ∧ 64 ≤ w ∧ w ≤ 90000000000) fun a b w => spanV (spN (P.gSp (val a) (val b) w.toNat))
set_option maxRecDepth 100000 in
set_option maxHeartbeats 1000000 in
theorem s_arcs_angle : Sound Try.prog 118 d_arcs_angle := by
  refine sound3 (fz := nofz) (l := [(134, d_nat_Mul), (131, d_nat_Add), (122, d_fix_Of), (148, d_fix_Small), (124, d_fix_Mul), (121, d_nat_Of), (120, d_fix_Times), (132, d_fix_Add), (149, d_fix_Wider)]) TT_ok ⟨s_nat_Mul, s_nat_Add, s_fix_Of, s_fix_Small, s_fix_Mul, s_nat_Of, s_fix_Times, s_fix_Add, s_fix_Wider, trivial⟩ mixed Try.func118 Try.ntmps118 Try.results118 Try.call118 rfl (by omega) (fun _ _ _ => rfl) ?_
  intro a b c hp ha hb hc
  rw [codeK_start]
  simp only [go_sem, d_nat_Mul, d_nat_Add, d_fix_Of, d_fix_Small, d_fix_Mul, d_nat_Of, d_fix_Times, d_fix_Add, d_fix_Wider, Nat.reduceBEq, Nat.reduceBNe, Nat.reduceLT, Nat.reduceLeDiff, Nat.reduceAdd, Nat.reduceSub, Nat.reduceMul, Nat.reduceEqDiff, Int.reduceNeg, Int.reduceAdd, Int.reduceLT, Int.reduceLE, Int.reduceToNat, ↓reduceIte]
  obtain ⟨hp1, hp2, hd, hn, hw1, hw2⟩ := hp
  generalize hw : c.toNat = w at *
  have hc : c = (w : Int) := by omega
  subst hc
  have hG := P.gok hd hn (show 64 ≤ w by omega)
  have hw3 : w < 2 ^ 37 := by rw [show (2 : Nat) ^ 37 = 137438953472 by decide]; omega
  have va := limbs_len_val ha
  have vb := limbs_len_val hb
  have m1 := limbs_len_mul (val a) (val a)
  have m2 := limbs_len_mul (val b) (val b)
  have m3 := limbs_len_mul (val a) (val b)
  have m4 := limbs_len_add (val a * val a) (val b * val b)
  have hres : P.gSp (val a) (val b) w = P.gR (P.spOf (val a * val a) (val a * val a + val b * val b) w) (P.spOf (val a * val b) (val a * val a + val b * val b) w) w := rfl
  rw [hres]
  generalize P.spOf (val a * val a) (val a * val a + val b * val b) w = B at *
  generalize P.spOf (val a * val b) (val a * val a + val b * val b) w = T at *
  obtain ⟨hJ1, hJ2, hJ3⟩ := P.gJ_spec hG
  have hBs : (spN B).sz ≤ 4000000000 := by
    have k1 := hG.b2
    have k2 := hG.b1
    have k3 := P.two64 hG.w64
    exact spN_sz' (B := w + 1) (by rw [Nat.pow_succ]; omega) (by rw [Nat.pow_succ]; omega) (by omega)
  have key : ∀ j, j ≤ w + 1 → (spN (P.gT B T w j)).sz ≤ 4000000000 ∧ (spN (P.gA B T w j)).sz ≤ 4000000000 ∧ (limbs (P.gT B T w j).1).length ≤ 4000000000 ∧ (limbs (P.gT B T w j).2).length ≤ 4000000000 ∧ (limbs (P.gA B T w j).1).length ≤ 4000000000 ∧ (limbs (P.gA B T w j).2).length ≤ 4000000000 := by
    intro j hj
    obtain ⟨k1, k2, k3, k4⟩ := P.g_short hG hw3 hj
    have := len_bits k1
    have := len_bits k2
    have := len_bits k3
    have := len_bits k4
    exact ⟨spN_sz' k1 k2 (by omega), spN_sz' k3 k4 (by omega), by omega, by omega, by omega, by omega⟩
  have hTs : (spN T).sz ≤ 4000000000 := (key 0 (by omega)).1
  refine ⟨by omega, by omega, ⟨by omega, by omega⟩, by omega, ⟨by omega, by omega, by omega⟩, by omega, ⟨by omega, by omega, by omega⟩, ?_⟩
  refine codeK_loop (fun x : AgI B T w => (11, 0, .av (u64V ((x.j : Int) + 1))) :: (boxSp 8 (limbs B.1) (limbs B.2) ++ (boxSp 9 (limbs (P.gT B T w x.j).1) (limbs (P.gT B T w x.j).2) ++ (boxSp 10 (limbs (P.gA B T w x.j).1) (limbs (P.gA B T w x.j).2) ++ ((2, 0, .av (intV (w : Int))) :: boxNil 6))))) (fun x => P.gJ B T w - x.j) ⟨0, by omega⟩ (le_of ?_) ?_
  · simp only [go_sem, leL, Nat.reduceBEq, Nat.reduceBNe, Nat.reduceLT, Nat.reduceLeDiff, Nat.reduceAdd, Nat.reduceSub, Nat.reduceMul, Nat.reduceEqDiff, Int.reduceNeg, Int.reduceAdd, Int.reduceLT, Int.reduceLE, Int.reduceToNat, ↓reduceIte]
    and_intros
    all_goals first | exact .inl rfl | rfl
  · rintro ⟨j, hj⟩
    obtain ⟨l1, l2, l3, l4, l5, l6⟩ := key j (by omega)
    have hwr : IntKind.u64.wrap ((j : Int) + 1 + 1) = ((j + 1 : Nat) : Int) + 1 := by rw [u64_wrap (by omega) (by omega)]; omega
    have hwm : IntKind.u64.wrap (2 * ((j : Int) + 1)) = ((2 * (j + 1) : Nat) : Int) := by rw [u64_wrap (by omega) (by omega)]; omega
    have hwo : IntKind.u64.wrap (((2 * (j + 1) : Nat) : Int) + 1) = ((2 * (j + 1) + 1 : Nat) : Int) := by rw [u64_wrap (by omega) (by omega)]; omega
    have ht1 : ((2 * (j + 1) : Nat) : Int).toNat = 2 * (j + 1) := rfl
    have ht2 : ((2 * (j + 1) + 1 : Nat) : Int).toNat = 2 * (j + 1) + 1 := rfl
    by_cases hjJ : j = P.gJ B T w
    · have hd2 := decide_eq_true (show (P.gT B T w j).2 ≤ 3 by rw [hjJ]; exact hJ1)
      simp only [go_sem, d_nat_Mul, d_nat_Add, d_fix_Of, d_fix_Small, d_fix_Mul, d_nat_Of, d_fix_Times, d_fix_Add, d_fix_Wider, blen_small2, hd2, hwr, hwm, hwo, ht1, ht2, sp_v2, Nat.reduceBEq, Nat.reduceBNe, Nat.reduceLT, Nat.reduceLeDiff, Nat.reduceAdd, Nat.reduceSub, Nat.reduceMul, Nat.reduceEqDiff, Int.reduceNeg, Int.reduceAdd, Int.reduceLT, Int.reduceLE, Int.reduceToNat, ↓reduceIte]
      subst hjJ
      and_intros
      all_goals first | omega | rfl
    · have hd2 := decide_eq_false (show ¬ (P.gT B T w j).2 ≤ 3 by have := hJ2 j (by omega); omega)
      obtain ⟨n1, n2, n3, n4, n5, n6⟩ := key (j + 1) (by omega)
      have hl1 := len_one
      have hb2 : ∀ m : Nat, m < 18446744073709551616 → (limbs m).length ≤ 2 := fun m hm => limbs_len_le (by rw [show (4294967296 : Nat) ^ 2 = 18446744073709551616 by decide]; exact hm)
      have hl2 := hb2 (2 * (j + 1)) (by omega)
      have hl3 := hb2 (2 * (j + 1) + 1) (by omega)
      have hms : (spN (P.spMul (P.gT B T w j) B w)).sz ≤ 8000000010 := mul_sz (L := 4000000000) (M := 4000000000) l3 l4 (Nat.le_trans (Nat.le_max_left _ _) hBs) (Nat.le_trans (Nat.le_max_right _ _) hBs) (by omega)
      simp only [go_sem, d_nat_Mul, d_nat_Add, d_fix_Of, d_fix_Small, d_fix_Mul, d_nat_Of, d_fix_Times, d_fix_Add, d_fix_Wider, blen_small2, hd2, hwr, hwm, hwo, ht1, ht2, sp_v2, Nat.reduceBEq, Nat.reduceBNe, Nat.reduceLT, Nat.reduceLeDiff, Nat.reduceAdd, Nat.reduceSub, Nat.reduceMul, Nat.reduceEqDiff, Int.reduceNeg, Int.reduceAdd, Int.reduceLT, Int.reduceLE, Int.reduceToNat, ↓reduceIte]
      have hgt : (spN (P.spTimes (P.spMul (P.gT B T w j) B w) (2 * (j + 1)) (2 * (j + 1) + 1))).sz ≤ 90000000000 := show (spN (P.gT B T w (j + 1))).sz ≤ _ by omega
      refine ⟨by omega, ⟨by omega, by omega, by omega⟩, by omega, by omega, ⟨by omega, by omega, by omega⟩, ⟨by omega, hgt⟩, ⟨j + 1, by omega⟩, ?_, le_of ?_⟩
      · show P.gJ B T w - (j + 1) < P.gJ B T w - j
        omega
      · simp only [go_sem, leL, Nat.reduceBEq, Nat.reduceBNe, Nat.reduceLT, Nat.reduceLeDiff, Nat.reduceAdd, Nat.reduceSub, Nat.reduceMul, Nat.reduceEqDiff, Int.reduceNeg, Int.reduceAdd, Int.reduceLT, Int.reduceLE, Int.reduceToNat, ↓reduceIte]
        and_intros
        all_goals first | exact .inl rfl | rfl


def d_arcs_pi : Den := den1 aInt (fun w => 64 ≤ w ∧ w ≤ 90000000000) fun w => spanV (spN (P.piSp w.toNat))
set_option maxRecDepth 100000 in
set_option maxHeartbeats 1000000 in
theorem s_arcs_pi : Sound Try.prog 80 d_arcs_pi := by
  refine sound1 (fz := nofz) (l := [(115, d_fix_One), (121, d_nat_Of), (118, d_arcs_angle), (120, d_fix_Times), (119, d_fix_Sub)]) TT_ok ⟨s_fix_One, s_nat_Of, s_arcs_angle, s_fix_Times, s_fix_Sub, trivial⟩ mixed Try.func80 Try.ntmps80 Try.results80 Try.call80 rfl (by omega) (fun _ => rfl) ?_
  intro a hp ha
  rw [codeK_start]
  simp only [go_sem, d_fix_One, d_nat_Of, d_arcs_angle, d_fix_Times, d_fix_Sub, Nat.reduceBEq, Nat.reduceBNe, Nat.reduceLT, Nat.reduceLeDiff, Nat.reduceAdd, Nat.reduceSub, Nat.reduceMul, Nat.reduceEqDiff, Int.reduceNeg, Int.reduceAdd, Int.reduceLT, Int.reduceLE, Int.reduceToNat, ↓reduceIte]
  obtain ⟨hw1, hw2⟩ := hp
  generalize hw : a.toNat = w at *
  have hc : a = (w : Int) := by omega
  subst hc
  have hw3 : w < 2 ^ 37 := by rw [show (2 : Nat) ^ 37 = 137438953472 by decide]; omega
  obtain ⟨a1, a2⟩ := P.gSp_short (n := 1) (d := 5) (by omega) (by omega) (show 64 ≤ w by omega) hw3
  obtain ⟨b1, b2⟩ := P.gSp_short (n := 1) (d := 239) (by omega) (by omega) (show 64 ≤ w by omega) hw3
  have z1 : (spN (P.gSp 1 5 w)).sz ≤ 4000000000 := spN_sz' a1 a2 (by omega)
  have z2 : (spN (P.gSp 1 239 w)).sz ≤ 4000000000 := spN_sz' b1 b2 (by omega)
  have hp2 := Nat.pow_pos (n := w + 41) (show 0 < 2 by omega)
  have hp3 : 2 ^ (w + 50) = 2 ^ (w + 41) * 512 := by rw [show w + 50 = w + 41 + 9 from rfl, Nat.pow_add _ (w + 41)]
  have z3 : (spN (P.spTimes (P.gSp 1 5 w) 16 1)).sz ≤ 4000000010 := by
    refine spN_sz' (B := w + 50) ?_ ?_ (by omega)
    · simp only [P.spTimes, Nat.div_one]; omega
    · simp only [P.spTimes, Nat.div_one]; omega
  have z4 : (spN (P.spTimes (P.gSp 1 239 w) 4 1)).sz ≤ 4000000010 := by
    refine spN_sz' (B := w + 50) ?_ ?_ (by omega)
    · simp only [P.spTimes, Nat.div_one]; omega
    · simp only [P.spTimes, Nat.div_one]; omega
  have l1 := len_one
  have l5 : (limbs 5).length = 1 := by decide +kernel
  have l239 : (limbs 239).length = 1 := by decide +kernel
  have l16 : (limbs 16).length = 1 := by decide +kernel
  have l4 : (limbs 4).length = 1 := by decide +kernel
  and_intros
  all_goals first | omega | rfl | (show okDraw _ _ = true; kernel_rfl)


def d_arcs_wide : Den := den3 aLim aLim aInt (fun a b w => a.length ≤ 1000000 ∧ b.length ≤ 1000000 ∧ 0 < val a ∧ 0 < val b ∧ 64 ≤ w ∧ w ≤ 90000000000) fun a b w => spanV (spN (P.wSp (val a) (val b) w.toNat))
set_option maxRecDepth 100000 in
set_option maxHeartbeats 1000000 in
theorem s_arcs_wide : Sound Try.prog 76 d_arcs_wide := by
  refine sound3 (fz := nofz) (l := [(117, d_nat_Cmp), (118, d_arcs_angle), (80, d_arcs_pi), (115, d_fix_One), (121, d_nat_Of), (120, d_fix_Times), (119, d_fix_Sub)]) TT_ok ⟨s_nat_Cmp, s_arcs_angle, s_arcs_pi, s_fix_One, s_nat_Of, s_fix_Times, s_fix_Sub, trivial⟩ mixed Try.func76 Try.ntmps76 Try.results76 Try.call76 rfl (by omega) (fun _ _ _ => rfl) ?_
  intro a b c hp ha hb hc
  rw [codeK_start]
  simp only [go_sem, d_nat_Cmp, d_arcs_angle, d_arcs_pi, d_fix_One, d_nat_Of, d_fix_Times, d_fix_Sub, cmpI_le0, Nat.reduceBEq, Nat.reduceBNe, Nat.reduceLT, Nat.reduceLeDiff, Nat.reduceAdd, Nat.reduceSub, Nat.reduceMul, Nat.reduceEqDiff, Int.reduceNeg, Int.reduceAdd, Int.reduceLT, Int.reduceLE, Int.reduceToNat, ↓reduceIte]
  obtain ⟨hp1, hp2, hn, hd, hw1, hw2⟩ := hp
  generalize hw : c.toNat = w at *
  have hc : c = (w : Int) := by omega
  subst hc
  have hw3 : w < 2 ^ 37 := by rw [show (2 : Nat) ^ 37 = 137438953472 by decide]; omega
  have va := limbs_len_val ha
  have vb := limbs_len_val hb
  have l1 := len_one
  have l2 : (limbs 2).length = 1 := by decide +kernel
  refine ⟨by omega, ?_⟩
  by_cases h : val a ≤ val b
  · have e : P.wSp (val a) (val b) w = P.gSp (val a) (val b) w := if_pos h
    rw [if_pos h, e]
    and_intros
    all_goals first | omega | rfl
  · have e : P.wSp (val a) (val b) w = P.spSub (P.spTimes (P.piSp w) 1 2) (P.gSp (val b) (val a) w) := if_neg h
    rw [if_neg h, e]
    obtain ⟨a1, a2⟩ := P.gSp_short (n := val b) (d := val a) hn (by omega) (show 64 ≤ w by omega) hw3
    obtain ⟨b1, b2⟩ := P.piSp_short (show 64 ≤ w by omega) hw3
    have z1 : (spN (P.gSp (val b) (val a) w)).sz ≤ 4000000000 := spN_sz' a1 a2 (by omega)
    have z2 : (spN (P.piSp w)).sz ≤ 4000000000 := spN_sz' b1 b2 (by omega)
    have z3 : (spN (P.spTimes (P.piSp w) 1 2)).sz ≤ 4000000010 := by
      refine spN_sz' (B := w + 52) ?_ ?_ (by omega)
      · have : 2 ^ (w + 52) = 2 ^ (w + 50) * 4 := by rw [show w + 52 = w + 50 + 2 from rfl, Nat.pow_add]
        simp only [P.spTimes, Nat.mul_one]; omega
      · have : 2 ^ (w + 52) = 2 ^ (w + 50) * 4 := by rw [show w + 52 = w + 50 + 2 from rfl, Nat.pow_add]
        have := Nat.pow_pos (n := w + 50) (show 0 < 2 by omega)
        simp only [P.spTimes, Nat.mul_one]; omega
    and_intros
    all_goals first | omega | rfl | (show okDraw _ _ = true; kernel_rfl)


def d_arcs_held : Den := den1 aInt (fun _ => True) fun p => intV ((hold p : Nat) : Int)
set_option maxRecDepth 100000 in
set_option maxHeartbeats 1000000 in
theorem s_arcs_held : Sound Try.prog 74 d_arcs_held := by
  refine sound1 (fz := nofz) (l := []) TT_ok trivial mixed Try.func74 Try.ntmps74 Try.results74 Try.call74 rfl (by omega) (fun _ => rfl) ?_
  intro a hp ha
  rw [codeK_start]
  simp only [go_sem, Nat.reduceBEq, Nat.reduceBNe, Nat.reduceLT, Nat.reduceLeDiff, Nat.reduceAdd, Nat.reduceSub, Nat.reduceMul, Nat.reduceEqDiff, Int.reduceNeg, Int.reduceAdd, Int.reduceLT, Int.reduceLE, Int.reduceToNat, ↓reduceIte]
  exact (hold_cast a).symm


def d_arcs_Atan_1 : Den := den2 aInt aBox (fun w a => a.sz ≤ 1000000 ∧ 0 < val a.n ∧ 0 < val a.d ∧ 64 ≤ w ∧ w ≤ 90000000000) fun w a => spanV (spN (P.wSp (val a.n) (val a.d) w.toNat))
set_option maxRecDepth 100000 in
set_option maxHeartbeats 1000000 in
theorem s_arcs_Atan_1 : Sound Try.prog 75 d_arcs_Atan_1 := by
  refine sound2 (fz := nofz) (l := [(76, d_arcs_wide)]) TT_ok ⟨s_arcs_wide, trivial⟩ mixed Try.func75 Try.ntmps75 Try.results75 Try.call75 rfl (by omega) (fun _ _ => rfl) ?_
  intro a b hp ha hb
  rw [codeK_start]
  simp only [go_sem, d_arcs_wide, Nat.reduceBEq, Nat.reduceBNe, Nat.reduceLT, Nat.reduceLeDiff, Nat.reduceAdd, Nat.reduceSub, Nat.reduceMul, Nat.reduceEqDiff, Int.reduceNeg, Int.reduceAdd, Int.reduceLT, Int.reduceLE, Int.reduceToNat, ↓reduceIte]
  obtain ⟨hp1, hn, hd, hw1, hw2⟩ := hp
  have hl := RR.lens hp1
  and_intros
  all_goals first | omega | rfl


def paFn (f : Nat) : AV → Option Unit
  | .one (.cel (.fn g)) => if (g == f) = true then some () else none
  | _ => none
def fnV (f : Nat) : AV := .one (.cel (.fn f))
def aFn (f : Nat) : Arg Unit where
  pa := paFn f
  un := fun _ => fnV f
  va := fun _ => True
  ok := by
    intro v x h X w u hu
    unfold paFn at h
    split at h
    · split at h
      · rename_i hg
        rw [beq_iff_eq.1 hg] at hu; exact hu
      · cases h
    · cases h
  st := fun _ => rfl
  vd := fun _ _ _ _ _ => trivial
attribute [go_sem] aFn paFn fnV

def d_arcs_CertainPi : Den := den3 aInt aInt (aFn 80) (fun p t r => 0 ≤ p ∧ p ≤ 200 ∧ t = 64 ∧ True) fun p _ r => ballV (eB (P.lF (P.piSp) p.toNat) p.toNat)
set_option maxRecDepth 100000 in
set_option maxHeartbeats 1000000 in
theorem s_arcs_CertainPi : Sound Try.prog 73 d_arcs_CertainPi := by
  refine sound3 (fz := nofz) (l := [(113, d_fix_Floor), (115, d_fix_One), (114, d_fix_Shift), (108, d_rat_Of), (116, d_fix_Next), (80, d_arcs_pi)]) TT_ok ⟨s_fix_Floor, s_fix_One, s_fix_Shift, s_rat_Of, s_fix_Next, s_arcs_pi, trivial⟩ mixed Try.func73 Try.ntmps73 Try.results73 Try.call73 rfl (by omega) (fun _ _ _ => rfl) ?_
  intro a b c hp ha hb hc
  rw [codeK_start]
  simp only [go_sem, d_fix_Floor, d_fix_One, d_fix_Shift, d_rat_Of, d_fix_Next, d_arcs_pi, Nat.reduceBEq, Nat.reduceBNe, Nat.reduceLT, Nat.reduceLeDiff, Nat.reduceAdd, Nat.reduceSub, Nat.reduceMul, Nat.reduceEqDiff, Int.reduceNeg, Int.reduceAdd, Int.reduceLT, Int.reduceLE, Int.reduceToNat, ↓reduceIte]
  obtain ⟨hp0, hp5, ht, hpre⟩ := hp
  generalize hk : a.toNat = k at *
  have ha : a = (k : Int) := by omega
  subst ha
  subst ht
  have hk5 : k ≤ 200 := by omega
  have hang := P.pi_ang
  have hnear := P.piSp_near
  have hshort : ∀ w, 64 ≤ w → w < 2 ^ 37 → (P.piSp w).1 < 2 ^ (w + 52) ∧ (P.piSp w).2 < 2 ^ (w + 52) := fun w h1 h2 => by
    obtain ⟨b1, b2⟩ := P.piSp_short h1 h2
    have : 2 ^ (w + 50) ≤ 2 ^ (w + 52) := Nat.pow_le_pow_right (by omega) (by omega)
    omega
  obtain ⟨e1, e2, e3, _⟩ := P.a_ends hang hnear hk5
  generalize hNR : P.piSp = NR at *
  have hw0 : (k : Int) + 64 = ((P.lW k 0 : Nat) : Int) := by unfold P.lW; omega
  rw [hw0]
  have hW0 := P.lW_le hk5 (show 0 ≤ 26 by omega)
  refine ⟨⟨by omega, by omega⟩, ?_⟩
  refine codeK_loop (fun x : CerI (P.lI NR k) => (7, 0, .av (intV ((P.lW k x.i : Nat) : Int))) :: (0, 0, .av (intV (k : Int))) :: (2, 0, .av (fnV 80)) :: boxBall 6) (fun x => P.lI NR k - x.i) ⟨0, by omega⟩ (le_of ?_) ?_
  · simp only [go_sem, leL, Nat.reduceBEq, Nat.reduceBNe, Nat.reduceLT, Nat.reduceLeDiff, Nat.reduceAdd, Nat.reduceSub, Nat.reduceMul, Nat.reduceEqDiff, Int.reduceNeg, Int.reduceAdd, Int.reduceLT, Int.reduceLE, Int.reduceToNat, ↓reduceIte]
    and_intros
    all_goals first | exact .inl rfl | rfl
  · rintro ⟨i, hi⟩
    have hW := P.lW_le hk5 (show i ≤ 26 by omega)
    have hW3 : P.lW k i < 2 ^ 37 := Nat.lt_trans hW.2.2 (by decide)
    obtain ⟨s1, s2⟩ := hshort (P.lW k i) hW.1 hW3
    have hap : P.piSp (P.lW k i) = NR (P.lW k i) := by rw [← hNR]
    have l1 := len_bits s1
    have l2 := len_bits s2
    have l3 := len_div (m := (NR (P.lW k i)).1) (2 ^ (P.lW k i - k))
    have l4 := pow_bits k
    have l5 := limbs_len_add ((NR (P.lW k i)).1 / 2 ^ (P.lW k i - k)) 1
    have l6 := len_one
    have hsh : ∀ m, shiftN m (k : Int) = m * 2 ^ k := fun m => by rw [shiftN_up (by omega)]; congr 1
    by_cases hiI : i = P.lI NR k
    · have hnext := True.intro
      have hd : decide (P.okF (NR (P.lW k i)) (P.lW k i) k) = true := decide_eq_true (by rw [hiI]; exact e2)
      have hef : P.lF NR k = (NR (P.lW k i)).1 / 2 ^ (P.lW k i - k) := by rw [hiI]; rfl
      simp only [go_sem, d_fix_Floor, d_fix_One, d_fix_Shift, d_rat_Of, d_fix_Next, d_arcs_pi, hap, hd, hsh, hnext, Nat.one_mul, Nat.reduceBEq, Nat.reduceBNe, Nat.reduceLT, Nat.reduceLeDiff, Nat.reduceAdd, Nat.reduceSub, Nat.reduceMul, Nat.reduceEqDiff, Int.reduceNeg, Int.reduceAdd, Int.reduceLT, Int.reduceLE, Int.reduceToNat, ↓reduceIte]
      rw [hef]
      and_intros
      all_goals first | omega | rfl | assumption | exact spN_sz (by omega) (by omega) | (show okDraw _ _ = true; kernel_rfl)
    · have hd : decide (P.okF (NR (P.lW k i)) (P.lW k i) k) = false := decide_eq_false (e3 i (by omega))
      have hnext : ((P.lW k i : Nat) : Int) * 2 = ((P.lW k (i + 1) : Nat) : Int) := by rw [← lW_succ]; omega
      have hW2 := P.lW_le hk5 (show i + 1 ≤ 26 by omega)
      simp only [go_sem, d_fix_Floor, d_fix_One, d_fix_Shift, d_rat_Of, d_fix_Next, d_arcs_pi, hap, hd, hsh, hnext, Nat.one_mul, Nat.reduceBEq, Nat.reduceBNe, Nat.reduceLT, Nat.reduceLeDiff, Nat.reduceAdd, Nat.reduceSub, Nat.reduceMul, Nat.reduceEqDiff, Int.reduceNeg, Int.reduceAdd, Int.reduceLT, Int.reduceLE, Int.reduceToNat, ↓reduceIte]
      refine ⟨⟨by omega, by omega⟩, ⟨spN_sz (by omega) (by omega), by omega, by omega⟩, ⟨by omega, by omega⟩, ⟨i + 1, by omega⟩, ?_, le_of ?_⟩
      · show P.lI NR k - (i + 1) < P.lI NR k - i
        omega
      · simp only [go_sem, leL, Nat.reduceBEq, Nat.reduceBNe, Nat.reduceLT, Nat.reduceLeDiff, Nat.reduceAdd, Nat.reduceSub, Nat.reduceMul, Nat.reduceEqDiff, Int.reduceNeg, Int.reduceAdd, Int.reduceLT, Int.reduceLE, Int.reduceToNat, ↓reduceIte]
        and_intros
        all_goals first | exact .inl rfl | rfl


def d_arcs_CertainAt : Den := den3 aInt aInt (aClo 75) (fun p t r => 0 ≤ p ∧ p ≤ 200 ∧ t = 64 ∧ r.sz ≤ 1000000 ∧ 0 < val r.n ∧ 0 < val r.d ∧ val r.n < 2 ^ 100 ∧ val r.d < 2 ^ 100) fun p _ r => ballV (eB (P.lF (P.wSp (val r.n) (val r.d)) p.toNat) p.toNat)
set_option maxRecDepth 100000 in
set_option maxHeartbeats 1000000 in
theorem s_arcs_CertainAt : Sound Try.prog 73 d_arcs_CertainAt := by
  refine sound3 (fz := nofz) (l := [(113, d_fix_Floor), (115, d_fix_One), (114, d_fix_Shift), (108, d_rat_Of), (116, d_fix_Next), (75, d_arcs_Atan_1)]) TT_ok ⟨s_fix_Floor, s_fix_One, s_fix_Shift, s_rat_Of, s_fix_Next, s_arcs_Atan_1, trivial⟩ mixed Try.func73 Try.ntmps73 Try.results73 Try.call73 rfl (by omega) (fun _ _ _ => rfl) ?_
  intro a b c hp ha hb hc
  rw [codeK_start]
  simp only [go_sem, d_fix_Floor, d_fix_One, d_fix_Shift, d_rat_Of, d_fix_Next, d_arcs_Atan_1, Nat.reduceBEq, Nat.reduceBNe, Nat.reduceLT, Nat.reduceLeDiff, Nat.reduceAdd, Nat.reduceSub, Nat.reduceMul, Nat.reduceEqDiff, Int.reduceNeg, Int.reduceAdd, Int.reduceLT, Int.reduceLE, Int.reduceToNat, ↓reduceIte]
  obtain ⟨hp0, hp5, ht, hpre⟩ := hp
  generalize hk : a.toNat = k at *
  have ha : a = (k : Int) := by omega
  subst ha
  subst ht
  have hk5 : k ≤ 200 := by omega
  obtain ⟨hsz, hn0, hd0, hn1, hd1⟩ := hpre
  have hang := P.w_ang hn0 hd0 hn1 hd1
  have hnear := P.wSp_near hn0 hd0
  have hshort : ∀ w, 64 ≤ w → w < 2 ^ 37 → (P.wSp (val c.n) (val c.d) w).1 < 2 ^ (w + 52) ∧ (P.wSp (val c.n) (val c.d) w).2 < 2 ^ (w + 52) := fun w h1 h2 => P.wSp_short hn0 hd0 h1 h2
  obtain ⟨e1, e2, e3, _⟩ := P.a_ends hang hnear hk5
  generalize hNR : P.wSp (val c.n) (val c.d) = NR at *
  have hw0 : (k : Int) + 64 = ((P.lW k 0 : Nat) : Int) := by unfold P.lW; omega
  rw [hw0]
  have hW0 := P.lW_le hk5 (show 0 ≤ 26 by omega)
  refine ⟨⟨by omega, by omega⟩, ?_⟩
  refine codeK_loop (fun x : CerI (P.lI NR k) => (7, 0, .av (intV ((P.lW k x.i : Nat) : Int))) :: (0, 0, .av (intV (k : Int))) :: (2, 0, .av (cloV 75 c)) :: boxBall 6) (fun x => P.lI NR k - x.i) ⟨0, by omega⟩ (le_of ?_) ?_
  · simp only [go_sem, leL, Nat.reduceBEq, Nat.reduceBNe, Nat.reduceLT, Nat.reduceLeDiff, Nat.reduceAdd, Nat.reduceSub, Nat.reduceMul, Nat.reduceEqDiff, Int.reduceNeg, Int.reduceAdd, Int.reduceLT, Int.reduceLE, Int.reduceToNat, ↓reduceIte]
    and_intros
    all_goals first | exact .inl rfl | rfl
  · rintro ⟨i, hi⟩
    have hW := P.lW_le hk5 (show i ≤ 26 by omega)
    have hW3 : P.lW k i < 2 ^ 37 := Nat.lt_trans hW.2.2 (by decide)
    obtain ⟨s1, s2⟩ := hshort (P.lW k i) hW.1 hW3
    have hap : P.wSp (val c.n) (val c.d) (P.lW k i) = NR (P.lW k i) := by rw [← hNR]
    have l1 := len_bits s1
    have l2 := len_bits s2
    have l3 := len_div (m := (NR (P.lW k i)).1) (2 ^ (P.lW k i - k))
    have l4 := pow_bits k
    have l5 := limbs_len_add ((NR (P.lW k i)).1 / 2 ^ (P.lW k i - k)) 1
    have l6 := len_one
    have hsh : ∀ m, shiftN m (k : Int) = m * 2 ^ k := fun m => by rw [shiftN_up (by omega)]; congr 1
    by_cases hiI : i = P.lI NR k
    · have hnext := True.intro
      have hd : decide (P.okF (NR (P.lW k i)) (P.lW k i) k) = true := decide_eq_true (by rw [hiI]; exact e2)
      have hef : P.lF NR k = (NR (P.lW k i)).1 / 2 ^ (P.lW k i - k) := by rw [hiI]; rfl
      simp only [go_sem, d_fix_Floor, d_fix_One, d_fix_Shift, d_rat_Of, d_fix_Next, d_arcs_Atan_1, hap, hd, hsh, hnext, Nat.one_mul, Nat.reduceBEq, Nat.reduceBNe, Nat.reduceLT, Nat.reduceLeDiff, Nat.reduceAdd, Nat.reduceSub, Nat.reduceMul, Nat.reduceEqDiff, Int.reduceNeg, Int.reduceAdd, Int.reduceLT, Int.reduceLE, Int.reduceToNat, ↓reduceIte]
      rw [hef]
      and_intros
      all_goals first | omega | rfl | assumption | exact spN_sz (by omega) (by omega) | (show okDraw _ _ = true; kernel_rfl)
    · have hd : decide (P.okF (NR (P.lW k i)) (P.lW k i) k) = false := decide_eq_false (e3 i (by omega))
      have hnext : ((P.lW k i : Nat) : Int) * 2 = ((P.lW k (i + 1) : Nat) : Int) := by rw [← lW_succ]; omega
      have hW2 := P.lW_le hk5 (show i + 1 ≤ 26 by omega)
      simp only [go_sem, d_fix_Floor, d_fix_One, d_fix_Shift, d_rat_Of, d_fix_Next, d_arcs_Atan_1, hap, hd, hsh, hnext, Nat.one_mul, Nat.reduceBEq, Nat.reduceBNe, Nat.reduceLT, Nat.reduceLeDiff, Nat.reduceAdd, Nat.reduceSub, Nat.reduceMul, Nat.reduceEqDiff, Int.reduceNeg, Int.reduceAdd, Int.reduceLT, Int.reduceLE, Int.reduceToNat, ↓reduceIte]
      refine ⟨⟨hsz, hn0, hd0, by omega, by omega⟩, ⟨spN_sz (by omega) (by omega), by omega, by omega⟩, ⟨by omega, by omega⟩, ⟨i + 1, by omega⟩, ?_, le_of ?_⟩
      · show P.lI NR k - (i + 1) < P.lI NR k - i
        omega
      · simp only [go_sem, leL, Nat.reduceBEq, Nat.reduceBNe, Nat.reduceLT, Nat.reduceLeDiff, Nat.reduceAdd, Nat.reduceSub, Nat.reduceMul, Nat.reduceEqDiff, Int.reduceNeg, Int.reduceAdd, Int.reduceLT, Int.reduceLE, Int.reduceToNat, ↓reduceIte]
        and_intros
        all_goals first | exact .inl rfl | rfl


def piF (p : Int) : Nat := P.lF P.piSp (hold p)
def piLo (p : Int) : Rat := P.fr (piF p) (hold p)
def piHi (p : Int) : Rat := P.fr (piF p + 1) (hold p)

def d_arcs_Pi : Den := den1 aInt (fun p => p ≤ 200) fun p => ballV (bb (piLo p) (piHi p))
set_option maxRecDepth 100000 in
set_option maxHeartbeats 1000000 in
theorem s_arcs_Pi : Sound Try.prog 27 d_arcs_Pi := by
  refine sound1 (fz := nofz) (l := [(74, d_arcs_held), (73, d_arcs_CertainPi)]) TT_ok ⟨s_arcs_held, s_arcs_CertainPi, trivial⟩ mixed Try.func27 Try.ntmps27 Try.results27 Try.call27 rfl (by omega) (fun _ => rfl) ?_
  intro a hp ha
  rw [codeK_start]
  simp only [go_sem, d_arcs_held, d_arcs_CertainPi, Nat.reduceBEq, Nat.reduceBNe, Nat.reduceLT, Nat.reduceLeDiff, Nat.reduceAdd, Nat.reduceSub, Nat.reduceMul, Nat.reduceEqDiff, Int.reduceNeg, Int.reduceAdd, Int.reduceLT, Int.reduceLE, Int.reduceToNat, ↓reduceIte]
  have hb : hold a ≤ 200 := by have := hold_cast a; omega
  have hF : P.lF P.piSp (hold a) = piF a := rfl
  have e : eB (piF a) (hold a) = bb (piLo a) (piHi a) := by unfold eB piLo piHi; rw [fr_qv, fr_qv]
  rw [hF, e]
  refine ⟨by omega, ?_⟩
  and_intros
  all_goals rfl


def atF (q : Rat) (p : Int) : Nat := P.lF (P.wSp (nm q) q.den) (hold p)
def atLo (q : Rat) (p : Int) : Rat := if q = 0 then 0 else if ng q = true then -qv false (atF q p + 1) (2 ^ hold p) else qv false (atF q p) (2 ^ hold p)
def atHi (q : Rat) (p : Int) : Rat := if q = 0 then 0 else if ng q = true then -qv false (atF q p) (2 ^ hold p) else qv false (atF q p + 1) (2 ^ hold p)
theorem at_num {q : Rat} (h : rs q ≤ 3) (h0 : q ≠ 0) : 0 < nm q ∧ nm q < 2 ^ 100 ∧ 0 < q.den ∧ q.den < 2 ^ 100 := by
  have hn := lt_of_limbs_len (rs_parts h).1
  have hd := lt_of_limbs_len (rs_parts h).2
  rw [show (4294967296 : Nat) ^ 3 = 79228162514264337593543950336 by decide] at hn hd
  have : (79228162514264337593543950336 : Nat) < 2 ^ 100 := by decide
  exact ⟨nm_pos h0, by omega, q.den_pos, by omega⟩
theorem at_is {q : Rat} {p : Int} (h : rs q ≤ 3) (h0 : q ≠ 0) (hp : p ≤ 200) : P.Ang 2 (P.wS (nm q) q.den) (P.wW (nm q) q.den) ∧ P.IsA (P.wS (nm q) q.den) (hold p) (atF q p) := by
  obtain ⟨h1, h2, h3, h4⟩ := at_num h h0
  have hb : hold p ≤ 200 := by have := hold_cast p; omega
  have hang := P.w_ang h1 h3 h2 h4
  exact ⟨hang, (P.a_ends hang (P.wSp_near h1 h3) hb).2.2.2⟩
theorem pi_is {p : Int} (hp : p ≤ 200) : P.IsA P.piS (hold p) (piF p) := by
  have hb : hold p ≤ 200 := by have := hold_cast p; omega
  exact (P.a_ends P.pi_ang P.piSp_near hb).2.2.2
def fz_arcs_Atan : Nat → List Nat
  | 8 => [2]
  | _ => []

def d_arcs_Atan : Den := den2 aRat aInt (fun a p => a.sz ≤ 100000 ∧ p ≤ 200 ∧ rs a.q ≤ 3) fun a p => ballV (bb (atLo a.q p) (atHi a.q p))
set_option maxRecDepth 100000 in
set_option maxHeartbeats 1000000 in
theorem s_arcs_Atan : Sound Try.prog 25 d_arcs_Atan := by
  refine sound2 (fz := fz_arcs_Atan) (l := [(64, d_rat_Norm), (72, d_rat_Zero), (14, d_ball_Of), (74, d_arcs_held), (73, d_arcs_CertainAt), (15, d_ball_Neg)]) TT_ok ⟨s_rat_Norm, s_rat_Zero, s_ball_Of, s_arcs_held, s_arcs_CertainAt, s_ball_Neg, trivial⟩ mixed Try.func25 Try.ntmps25 Try.results25 Try.call25 rfl (by omega) (fun _ _ => rfl) ?_
  intro a b hp ha hb
  rw [codeK_start]
  simp only [go_sem, d_rat_Norm, d_rat_Zero, d_ball_Of, d_arcs_held, d_arcs_CertainAt, d_ball_Neg, fz_arcs_Atan, Nat.reduceBEq, Nat.reduceBNe, Nat.reduceLT, Nat.reduceLeDiff, Nat.reduceAdd, Nat.reduceSub, Nat.reduceMul, Nat.reduceEqDiff, Int.reduceNeg, Int.reduceAdd, Int.reduceLT, Int.reduceLE, Int.reduceToNat, ↓reduceIte]
  obtain ⟨hsz, hp200, hr3⟩ := hp
  have hr : rs a.q ≤ 100000 := by omega
  have hrp := rs_parts hr
  have hv1 : val (cr a.q).n = nm a.q := val_limbs _
  have hv2 : val (cr a.q).d = a.q.den := val_limbs _
  have hv3 : (cr a.q).s = ng a.q := rfl
  simp only [hv1, hv2, hv3]
  have hb200 : hold b ≤ 200 := by have := hold_cast b; omega
  refine ⟨by omega, by omega, ?_⟩
  by_cases h0 : a.q = 0
  · have l1 : atLo a.q b = 0 := by unfold atLo; rw [if_pos h0]
    have l2 : atHi a.q b = 0 := by unfold atHi; rw [if_pos h0]
    rw [if_pos h0, l1, l2, h0]
    and_intros
    all_goals first | rfl | decide +kernel
  · rw [if_neg h0]
    obtain ⟨g1, g2, g3, g4⟩ := at_num hr3 h0
    have hF : P.lF (P.wSp (nm a.q) a.q.den) (hold b) = atF a.q b := rfl
    rw [hF]
    obtain ⟨hA, hI⟩ := at_is (p := b) hr3 h0 hp200
    have hsm := hI.small hA
    have e1 : (eB (atF a.q b) (hold b)).hi.q = qv false (atF a.q b + 1) (2 ^ hold b) := cr_q _
    have e2 : (eB (atF a.q b) (hold b)).lo.q = qv false (atF a.q b) (2 ^ hold b) := cr_q _
    refine ⟨⟨by omega, by omega, g1, g3, g2, g4⟩, ?_⟩
    by_cases hneg : ng a.q = true
    · have l1 : atLo a.q b = -qv false (atF a.q b + 1) (2 ^ hold b) := by unfold atLo; rw [if_neg h0, if_pos hneg]
      have l2 : atHi a.q b = -qv false (atF a.q b) (2 ^ hold b) := by unfold atHi; rw [if_neg h0, if_pos hneg]
      rw [if_pos hneg, e1, e2, l1, l2]
      refine ⟨?_, rfl, rfl, rfl, rfl, rfl, rfl⟩
      have h6 := len_bits hsm
      have h7 := limbs_len_add (atF a.q b) 1
      have h8 := len_one
      have h9 := pow_bits (hold b)
      exact Nat.max_le.2 ⟨Nat.le_trans (show rs (qv false (atF a.q b) (2 ^ hold b)) ≤ 30 from rs_qv _ _ _ _ (by omega) (by omega) (by omega)) (by omega), Nat.le_trans (show rs (qv false (atF a.q b + 1) (2 ^ hold b)) ≤ 30 from rs_qv _ _ _ _ (by omega) (by omega) (by omega)) (by omega)⟩
    · have l1 : atLo a.q b = qv false (atF a.q b) (2 ^ hold b) := by unfold atLo; rw [if_neg h0, if_neg hneg]
      have l2 : atHi a.q b = qv false (atF a.q b + 1) (2 ^ hold b) := by unfold atHi; rw [if_neg h0, if_neg hneg]
      rw [if_neg hneg, l1, l2]
      and_intros
      all_goals rfl


end Go.Proofs.Ytifnpelkoklcnaa
