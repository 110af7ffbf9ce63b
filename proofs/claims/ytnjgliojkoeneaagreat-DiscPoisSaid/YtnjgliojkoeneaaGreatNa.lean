/- Whole numbers and intervals of vernierref4 as struct values; vernierref1.Shift, held at 4096 digits. Condition: at most 10^12 limbs. vernierref4's whole numbers by the abstract walk. Conditions: at most 10^9 limbs. -/
import Derived.Test.YtnjgliojkoeneaaGreatRsB
import Derived.Test.YtnjgliojkoeneaaGreatMb
import Derived.Test.YtnjgliojkoeneaaGreatBb
namespace Go.Proofs.YtnjgliojkoeneaaGreat
open Go.RowKit
set_option linter.unusedSimpArgs false
set_option linter.unusedVariables false
structure ZL where
  s : Bool
  n : List Nat
deriving DecidableEq
def zOf (s : Bool) (n : List Nat) : Int := if s = true then -((val n : Nat) : Int) else ((val n : Nat) : Int)
def zN (z : Int) : ZL := ⟨decide (z < 0), limbs z.natAbs⟩
theorem zN_s (z : Int) : (zN z).s = decide (z < 0) := rfl
theorem zN_n (z : Int) : (zN z).n = limbs z.natAbs := rfl
theorem zN_val (z : Int) : val (zN z).n = z.natAbs := val_limbs _
theorem zOf_zN (z : Int) : zOf (zN z).s (zN z).n = z := by
  unfold zOf
  rw [zN_val, zN_s]
  split
  · rename_i h
    have := of_decide_eq_true h
    omega
  · rename_i h
    have : ¬ z < 0 := fun h2 => h (decide_eq_true h2)
    omega
def paZc (s : Bool) (n : List Nat) : Option Int := if zN (zOf s n) = ⟨s, n⟩ then some (zOf s n) else none
theorem paZc_eq {s : Bool} {n : List Nat} {z : Int} (h : paZc s n = some z) : s = (zN z).s ∧ n = (zN z).n := by
  unfold paZc at h
  split at h
  · rename_i e
    cases h
    rw [e]
    exact ⟨rfl, rfl⟩
  · cases h
@[go_sem] theorem paZc_zN (z : Int) : paZc (zN z).s (zN z).n = some z := by
  unfold paZc
  rw [zOf_zN, if_pos rfl]
theorem zN_mk {r : Int} {s : Bool} {m : Nat} (h : r = if s = true then -(m : Int) else (m : Int)) (h2 : s = true → m ≠ 0) : zN r = ⟨s, limbs m⟩ := by
  unfold zN
  subst h
  cases s with
  | true =>
    have := h2 rfl
    rw [if_pos rfl]
    have e1 : decide (-(m : Int) < 0) = true := decide_eq_true (by omega)
    have e2 : (-(m : Int)).natAbs = m := by omega
    rw [e1, e2]
  | false =>
    rw [if_neg (by simp)]
    have e1 : decide ((m : Int) < 0) = false := decide_eq_false (by omega)
    have e2 : ((m : Int)).natAbs = m := by omega
    rw [e1, e2]
theorem zN_nat (m : Nat) : zN (m : Int) = ⟨false, limbs m⟩ := zN_mk (by simp) (fun h => by cases h)
@[go_sem] theorem paZc_lim (m : Nat) : paZc false (limbs m) = some (m : Int) := by
  have := paZc_zN (m : Int)
  rwa [zN_nat] at this
@[go_sem] theorem paZc_abs (z : Int) : paZc false (zN z).n = some (z.natAbs : Int) := paZc_lim _
def zC (z : Int) : List CV := [.bool (zN z).s, .lim none (zN z).n]
def zV (z : Int) : AV := .one (.agg (zC z))
def paZ : AV → Option Int
  | .one (.agg [.bool s, x]) => match x.lims with
    | some n => paZc s n
    | none => none
  | _ => none
def aZ : Arg Int where
  pa := paZ
  un := zV
  va := fun _ => True
  ok := by
    intro v z h X w u hu
    unfold paZ at h
    split at h
    · rename_i s x
      split at h
      · rename_i n hx
        obtain ⟨rfl, rfl⟩ := paZc_eq h
        obtain ⟨vs, rfl, hl⟩ := hu
        obtain ⟨u1, u2, rfl, g1, g2⟩ := hl.two
        exact ⟨_, rfl, .cons g1 (.cons (by simpa only [CV.P] using CV.lims_P hx g2) .nil)⟩
      · cases h
    · cases h
  st := fun _ => rfl
  vd := fun _ _ _ _ _ => trivial
attribute [go_sem] aZ paZ zV zC
def ivC (p : Int × Int) : List CV := [.bool (zN p.1).s, .lim none (zN p.1).n, .bool (zN p.2).s, .lim none (zN p.2).n]
def ivV (p : Int × Int) : AV := .one (.agg (ivC p))
def paIvc (a b : Option Int) : Option (Int × Int) := match a, b with
  | some a, some b => some (a, b)
  | _, _ => none
def paIv : AV → Option (Int × Int)
  | .one (.agg [.bool s, x, .bool t, y]) => match x.lims, y.lims with
    | some n, some m => paIvc (paZc s n) (paZc t m)
    | _, _ => none
  | _ => none
def aIv : Arg (Int × Int) where
  pa := paIv
  un := ivV
  va := fun _ => True
  ok := by
    intro v z h X w u hu
    unfold paIv at h
    split at h
    · rename_i s x t y
      split at h
      · rename_i n m hx hy
        unfold paIvc at h
        split at h
        · rename_i a b ha hb
          cases h
          obtain ⟨rfl, rfl⟩ := paZc_eq ha
          obtain ⟨rfl, rfl⟩ := paZc_eq hb
          obtain ⟨vs, rfl, hl⟩ := hu
          cases hl with
          | cons g1 hl =>
            cases hl with
            | cons g2 hl =>
              obtain ⟨u3, u4, rfl, g3, g4⟩ := hl.two
              exact ⟨_, rfl, .cons g1 (.cons (by simpa only [CV.P] using CV.lims_P hx g2) (.cons g3 (.cons (by simpa only [CV.P] using CV.lims_P hy g4) .nil)))⟩
        · cases h
      · cases h
    · cases h
  st := fun _ => rfl
  vd := fun _ _ _ _ _ => trivial
attribute [go_sem] aIv paIv paIvc ivV ivC
def zs (z : Int) : Nat := (limbs z.natAbs).length
theorem zs_bits {z : Int} {B : Nat} (h : z.natAbs < 2 ^ B) : zs z ≤ B / 32 + 1 := len_bits h
theorem zs_lt (z : Int) : z.natAbs < 2 ^ (32 * zs z) := by
  have h := val_bits (xs := limbs z.natAbs) (limbs_lt _)
  rwa [val_limbs] at h
theorem zs_le {z : Int} {K : Nat} (h : z.natAbs < 2 ^ (32 * K)) : zs z ≤ K + 1 := by
  have := zs_bits h
  omega
theorem zs_neg (z : Int) : zs (-z) = zs z := by unfold zs; rw [Int.natAbs_neg]
theorem zs_add (a b : Int) : zs (a + b) ≤ max (zs a) (zs b) + 2 := by
  have h1 := zs_lt a
  have h2 := zs_lt b
  have m1 : 2 ^ (32 * zs a) ≤ 2 ^ (32 * max (zs a) (zs b)) := Nat.pow_le_pow_right (by omega) (Nat.mul_le_mul_left _ (Nat.le_max_left _ _))
  have m2 : 2 ^ (32 * zs b) ≤ 2 ^ (32 * max (zs a) (zs b)) := Nat.pow_le_pow_right (by omega) (Nat.mul_le_mul_left _ (Nat.le_max_right _ _))
  have e : 2 ^ (32 * (max (zs a) (zs b) + 1)) = 2 ^ (32 * max (zs a) (zs b)) * 4294967296 := by rw [Nat.mul_add, Nat.pow_add]
  exact zs_le (by rw [e]; omega)
theorem zs_mul (a b : Int) : zs (a * b) ≤ zs a + zs b + 1 := by
  have h1 := zs_lt a
  have h2 := zs_lt b
  refine zs_le ?_
  rw [Int.natAbs_mul, Nat.mul_add, Nat.pow_add]
  exact Nat.mul_lt_mul_of_lt_of_lt h1 h2
theorem zs_ediv (a : Int) (m : Nat) : zs (a / (m : Int)) ≤ zs a + 2 := by
  have h1 := zs_lt a
  have e : 2 ^ (32 * (zs a + 1)) = 2 ^ (32 * zs a) * 4294967296 := by rw [Nat.mul_add, Nat.pow_add]
  refine zs_le ?_
  have h2 : (a / (m : Int)).natAbs ≤ a.natAbs + 1 := by
    rcases Nat.eq_zero_or_pos m with h | h
    · subst h; simp
    · have l := Int.ediv_mul_le a (b := (m : Int)) (by omega)
      have u := Int.lt_ediv_add_one_mul_self a (b := (m : Int)) (by omega)
      rcases Int.le_total 0 a with h0 | h0
      · have q0 : 0 ≤ a / (m : Int) := Int.ediv_nonneg h0 (by omega)
        have := Int.ediv_le_self (m : Int) h0
        omega
      · have q0 : a / (m : Int) ≤ 0 := by
          rcases (show 0 < a / (m : Int) ∨ a / (m : Int) ≤ 0 by omega) with h' | h'
          · have : 0 ≤ a / (m : Int) * m := Int.mul_nonneg (by omega) (by omega)
            have : 1 * (m : Int) ≤ a / (m : Int) * m := Int.mul_le_mul_of_nonneg_right (by omega) (by omega)
            omega
          · exact h'
        have : a - 0 ≤ a / (m : Int) + 1 := by
          rcases (show a / (m : Int) + 1 < a ∨ a ≤ a / (m : Int) + 1 by omega) with h' | h'
          · have : (a / (m : Int) + 1) * (m : Int) ≤ (a / (m : Int) + 1) * 1 := Int.mul_le_mul_of_nonpos_left (by omega) (by omega)
            omega
          · omega
        omega
  omega
def clampN (n : Int) : Int := min (max n (-4096)) 4096
def d_ref1_ShiftC : Den := den2 aLim aInt (fun a _ => a.length ≤ 1000000000000) fun a n => natV (shiftN (val a) (clampN n))
theorem s_ref1_ShiftC : Sound Tryz.prog 51 d_ref1_ShiftC :=
  told2 Tryz.call51 (fun _ _ => rfl) fun a n X w u v h hX hu hv => by
    have hv : v = .int .i64 n := hv
    subst hv
    have hnt := lim_nt (X := X) (w := w) hu
    by_cases h1 : 4096 < n
    · have e : clampN n = 4096 := by unfold clampN; omega
      rw [e]
      exact retNat hX (refShiftUpB w u a 0 n hnt h1 h)
    · by_cases h2 : n < -4096
      · have e : clampN n = -4096 := by unfold clampN; omega
        rw [e]
        exact retNat hX (refShiftDownB w u a 0 n hnt h2 h)
      · have e : clampN n = n := by unfold clampN; omega
        rw [e]
        by_cases h3 : 0 ≤ n
        · obtain ⟨k, rfl⟩ := Int.eq_ofNat_of_zero_le h3
          have := refShiftUp w u a 0 k hnt (by omega) h
          rw [shiftN_up h3]
          exact retNat hX this
        · obtain ⟨k, hk⟩ : ∃ k : Nat, n = -(k : Int) := ⟨(-n).toNat, by omega⟩
          subst hk
          have := refShiftDown w u a 0 k hnt (by omega) (by omega) h
          have e2 : shiftN (val a) (-(k : Int)) = val a / 2 ^ k := shiftC_dn _ _
          rw [e2]
          exact retNat hX this
end Go.Proofs.YtnjgliojkoeneaaGreat
namespace Go.Proofs.YtnjgliojkoeneaaGreat
open Go.RowKit
set_option linter.unusedSimpArgs false
set_option linter.unusedVariables false
theorem zN_lt {z : Int} (h : z < 0) : (zN z).s = true := decide_eq_true h
theorem zN_ge {z : Int} (h : 0 ≤ z) : (zN z).s = false := decide_eq_false (by omega)
theorem lims_pos {m : Nat} (h : m ≠ 0) : ((0 : Int) < (((limbs m).length : Nat) : Int)) = True := by
  refine eq_true ?_
  rw [limbs_pos (Nat.pos_of_ne_zero h), List.length_cons]
  omega
theorem lims_zero : limbs 0 = [] := limbs_zero
theorem zN_neg_n (z : Int) : (zN (-z)).n = (zN z).n := by rw [zN_n, zN_n, Int.natAbs_neg]
theorem zN_0s : (zN 0).s = false := rfl
theorem zN_0n : (zN 0).n = [] := limbs_zero
def SZ (z : Int) : Prop := zs z ≤ 1000000000
def cmpZ (a b : Int) : Int := if a < b then -1 else if a = b then 0 else 1
def lessZ (a : Int) (n : Int) : Int := a / ((2 ^ (min n 4096).toNat : Nat) : Int)
def moreZ (a : Int) (n : Int) : Int := -lessZ (-a) n
def fallZ (a : Int) (m : Nat) : Int := a / (m : Int)
def riseZ (a : Int) (m : Nat) : Int := -fallZ (-a) m
def d_i4_Opp : Den := den1 aZ (fun a => SZ a) fun a => zV (-a)
set_option maxRecDepth 100000 in
set_option maxHeartbeats 1000000 in
theorem s_i4_Opp : Sound Tryz.prog 104 d_i4_Opp := by
  refine sound1 (fz := nofz) (l := []) TT_ok trivial mixed Tryz.func104 Tryz.ntmps104 Tryz.results104 Tryz.call104 rfl (by omega) (fun _ => rfl) ?_
  intro a hp ha
  rw [codeK_start]
  rcases Int.lt_trichotomy a 0 with h | h | h
  · have e1 := zN_lt h
    have e2 := zN_ge (z := -a) (by omega)
    have e3 := zN_neg_n a
    simp only [go_sem, decide_true, decide_false, Bool.not_true, Bool.not_false, zN_val, e1, e2, e3, Nat.reduceBEq, Nat.reduceBNe, Nat.reduceLT, Nat.reduceLeDiff, Nat.reduceAdd, Nat.reduceSub, Nat.reduceMul, Nat.reduceEqDiff, Int.reduceNeg, Int.reduceAdd, Int.reduceLT, Int.reduceLE, Int.reduceToNat, ↓reduceIte]
    all_goals ((try and_intros) <;> first | exact trivial | omega | (show okDraw _ _ = true; kernel_rfl) | assumption)
  · subst h
    simp only [go_sem, decide_true, decide_false, Bool.not_true, Bool.not_false, zN_val, Int.neg_zero, zN_0s, zN_0n, List.length_nil, Int.natCast_zero, Int.ofNat_zero, Int.cast_ofNat_Int, Int.lt_irrefl, Nat.reduceBEq, Nat.reduceBNe, Nat.reduceLT, Nat.reduceLeDiff, Nat.reduceAdd, Nat.reduceSub, Nat.reduceMul, Nat.reduceEqDiff, Int.reduceNeg, Int.reduceAdd, Int.reduceLT, Int.reduceLE, Int.reduceToNat, ↓reduceIte]
    all_goals ((try and_intros) <;> first | exact trivial | omega | (show okDraw _ _ = true; kernel_rfl) | assumption)
  · have e1 := zN_ge (z := a) (by omega)
    have e2 := zN_lt (z := -a) (by omega)
    have e3 := zN_neg_n a
    have e4 := lims_pos (m := a.natAbs) (by omega)
    rw [← zN_n] at e4
    simp only [go_sem, decide_true, decide_false, Bool.not_true, Bool.not_false, zN_val, e1, e2, e3, e4, Nat.reduceBEq, Nat.reduceBNe, Nat.reduceLT, Nat.reduceLeDiff, Nat.reduceAdd, Nat.reduceSub, Nat.reduceMul, Nat.reduceEqDiff, Int.reduceNeg, Int.reduceAdd, Int.reduceLT, Int.reduceLE, Int.reduceToNat, ↓reduceIte]
    all_goals ((try and_intros) <;> first | exact trivial | omega | (show okDraw _ _ = true; kernel_rfl) | assumption)
def d_i4_Plus : Den := den2 aZ aZ (fun a b => SZ a ∧ SZ b) fun a b => zV (a + b)
set_option maxRecDepth 100000 in
set_option maxHeartbeats 1000000 in
theorem s_i4_Plus : Sound Tryz.prog 82 d_i4_Plus := by
  refine sound2 (fz := nofz) (l := [(101, d_ref1_Add), (102, d_ref1_Cmp), (103, d_ref1_Sub)]) TT_ok ⟨s_ref1_Add, s_ref1_Cmp, s_ref1_Sub, trivial⟩ mixed Tryz.func82 Tryz.ntmps82 Tryz.results82 Tryz.call82 rfl (by omega) (fun _ _ => rfl) ?_
  intro a b hp ha hb
  rw [codeK_start]
  have l1 : (zN a).n.length ≤ 1000000000 := hp.1
  have l2 : (zN b).n.length ≤ 1000000000 := hp.2
  by_cases h1 : a < 0
  · have e1 := zN_lt h1
    by_cases h2 : b < 0
    · have e2 := zN_lt h2
      have e3 : zN (a + b) = ⟨true, limbs (a.natAbs + b.natAbs)⟩ := zN_mk (by rw [if_pos rfl]; omega) (fun _ => by omega)
      simp only [go_sem, d_ref1_Add, d_ref1_Cmp, d_ref1_Sub, decide_true, decide_false, Bool.not_true, Bool.not_false, zN_val, e1, e2, e3, Nat.reduceBEq, Nat.reduceBNe, Nat.reduceLT, Nat.reduceLeDiff, Nat.reduceAdd, Nat.reduceSub, Nat.reduceMul, Nat.reduceEqDiff, Int.reduceNeg, Int.reduceAdd, Int.reduceLT, Int.reduceLE, Int.reduceToNat, ↓reduceIte]
      all_goals ((try and_intros) <;> first | exact trivial | omega | (show okDraw _ _ = true; kernel_rfl) | assumption)
    · have e2 := zN_ge (Int.not_lt.1 h2)
      rcases Nat.lt_trichotomy a.natAbs b.natAbs with h3 | h3 | h3
      · have e3 : zN (a + b) = ⟨false, limbs (b.natAbs - a.natAbs)⟩ := zN_mk (by rw [if_neg (by simp)]; omega) (fun h => by cases h)
        have c1 : (b.natAbs ≤ a.natAbs) = False := eq_false (by omega)
        have e4 := lims_pos (m := b.natAbs - a.natAbs) (by omega)
        simp only [go_sem, d_ref1_Add, d_ref1_Cmp, d_ref1_Sub, decide_true, decide_false, Bool.not_true, Bool.not_false, zN_val, e1, e2, e3, e4, c1, Nat.reduceBEq, Nat.reduceBNe, Nat.reduceLT, Nat.reduceLeDiff, Nat.reduceAdd, Nat.reduceSub, Nat.reduceMul, Nat.reduceEqDiff, Int.reduceNeg, Int.reduceAdd, Int.reduceLT, Int.reduceLE, Int.reduceToNat, ↓reduceIte]
        all_goals ((try and_intros) <;> first | exact trivial | omega | (show okDraw _ _ = true; kernel_rfl) | assumption)
      · have e3 : zN (a + b) = ⟨false, limbs 0⟩ := zN_mk (by rw [if_neg (by simp)]; omega) (fun h => by cases h)
        have c1 : (b.natAbs ≤ a.natAbs) = True := eq_true (by omega)
        have e5 : a.natAbs - b.natAbs = 0 := by omega
        simp only [go_sem, d_ref1_Add, d_ref1_Cmp, d_ref1_Sub, decide_true, decide_false, Bool.not_true, Bool.not_false, zN_val, e1, e2, e3, e5, c1, lims_zero, List.length_nil, Int.natCast_zero, Int.ofNat_zero, Int.cast_ofNat_Int, Int.lt_irrefl, Nat.reduceBEq, Nat.reduceBNe, Nat.reduceLT, Nat.reduceLeDiff, Nat.reduceAdd, Nat.reduceSub, Nat.reduceMul, Nat.reduceEqDiff, Int.reduceNeg, Int.reduceAdd, Int.reduceLT, Int.reduceLE, Int.reduceToNat, ↓reduceIte]
        all_goals ((try and_intros) <;> first | exact trivial | omega | (show okDraw _ _ = true; kernel_rfl) | assumption)
      · have e3 : zN (a + b) = ⟨true, limbs (a.natAbs - b.natAbs)⟩ := zN_mk (by rw [if_pos rfl]; omega) (fun _ => by omega)
        have c1 : (b.natAbs ≤ a.natAbs) = True := eq_true (by omega)
        have e4 := lims_pos (m := a.natAbs - b.natAbs) (by omega)
        simp only [go_sem, d_ref1_Add, d_ref1_Cmp, d_ref1_Sub, decide_true, decide_false, Bool.not_true, Bool.not_false, zN_val, e1, e2, e3, e4, c1, Nat.reduceBEq, Nat.reduceBNe, Nat.reduceLT, Nat.reduceLeDiff, Nat.reduceAdd, Nat.reduceSub, Nat.reduceMul, Nat.reduceEqDiff, Int.reduceNeg, Int.reduceAdd, Int.reduceLT, Int.reduceLE, Int.reduceToNat, ↓reduceIte]
        all_goals ((try and_intros) <;> first | exact trivial | omega | (show okDraw _ _ = true; kernel_rfl) | assumption)
  · have e1 := zN_ge (Int.not_lt.1 h1)
    by_cases h2 : b < 0
    · have e2 := zN_lt h2
      rcases Nat.lt_trichotomy a.natAbs b.natAbs with h3 | h3 | h3
      · have e3 : zN (a + b) = ⟨true, limbs (b.natAbs - a.natAbs)⟩ := zN_mk (by rw [if_pos rfl]; omega) (fun _ => by omega)
        have c1 : (b.natAbs ≤ a.natAbs) = False := eq_false (by omega)
        have e4 := lims_pos (m := b.natAbs - a.natAbs) (by omega)
        simp only [go_sem, d_ref1_Add, d_ref1_Cmp, d_ref1_Sub, decide_true, decide_false, Bool.not_true, Bool.not_false, zN_val, e1, e2, e3, e4, c1, Nat.reduceBEq, Nat.reduceBNe, Nat.reduceLT, Nat.reduceLeDiff, Nat.reduceAdd, Nat.reduceSub, Nat.reduceMul, Nat.reduceEqDiff, Int.reduceNeg, Int.reduceAdd, Int.reduceLT, Int.reduceLE, Int.reduceToNat, ↓reduceIte]
        all_goals ((try and_intros) <;> first | exact trivial | omega | (show okDraw _ _ = true; kernel_rfl) | assumption)
      · have e3 : zN (a + b) = ⟨false, limbs 0⟩ := zN_mk (by rw [if_neg (by simp)]; omega) (fun h => by cases h)
        have c1 : (b.natAbs ≤ a.natAbs) = True := eq_true (by omega)
        have e5 : a.natAbs - b.natAbs = 0 := by omega
        simp only [go_sem, d_ref1_Add, d_ref1_Cmp, d_ref1_Sub, decide_true, decide_false, Bool.not_true, Bool.not_false, zN_val, e1, e2, e3, e5, c1, lims_zero, List.length_nil, Int.natCast_zero, Int.ofNat_zero, Int.cast_ofNat_Int, Int.lt_irrefl, Nat.reduceBEq, Nat.reduceBNe, Nat.reduceLT, Nat.reduceLeDiff, Nat.reduceAdd, Nat.reduceSub, Nat.reduceMul, Nat.reduceEqDiff, Int.reduceNeg, Int.reduceAdd, Int.reduceLT, Int.reduceLE, Int.reduceToNat, ↓reduceIte]
        all_goals ((try and_intros) <;> first | exact trivial | omega | (show okDraw _ _ = true; kernel_rfl) | assumption)
      · have e3 : zN (a + b) = ⟨false, limbs (a.natAbs - b.natAbs)⟩ := zN_mk (by rw [if_neg (by simp)]; omega) (fun h => by cases h)
        have c1 : (b.natAbs ≤ a.natAbs) = True := eq_true (by omega)
        have e4 := lims_pos (m := a.natAbs - b.natAbs) (by omega)
        simp only [go_sem, d_ref1_Add, d_ref1_Cmp, d_ref1_Sub, decide_true, decide_false, Bool.not_true, Bool.not_false, zN_val, e1, e2, e3, e4, c1, Nat.reduceBEq, Nat.reduceBNe, Nat.reduceLT, Nat.reduceLeDiff, Nat.reduceAdd, Nat.reduceSub, Nat.reduceMul, Nat.reduceEqDiff, Int.reduceNeg, Int.reduceAdd, Int.reduceLT, Int.reduceLE, Int.reduceToNat, ↓reduceIte]
        all_goals ((try and_intros) <;> first | exact trivial | omega | (show okDraw _ _ = true; kernel_rfl) | assumption)
    · have e2 := zN_ge (Int.not_lt.1 h2)
      have e3 : zN (a + b) = ⟨false, limbs (a.natAbs + b.natAbs)⟩ := zN_mk (by rw [if_neg (by simp)]; omega) (fun h => by cases h)
      simp only [go_sem, d_ref1_Add, d_ref1_Cmp, d_ref1_Sub, decide_true, decide_false, Bool.not_true, Bool.not_false, zN_val, e1, e2, e3, Nat.reduceBEq, Nat.reduceBNe, Nat.reduceLT, Nat.reduceLeDiff, Nat.reduceAdd, Nat.reduceSub, Nat.reduceMul, Nat.reduceEqDiff, Int.reduceNeg, Int.reduceAdd, Int.reduceLT, Int.reduceLE, Int.reduceToNat, ↓reduceIte]
      all_goals ((try and_intros) <;> first | exact trivial | omega | (show okDraw _ _ = true; kernel_rfl) | assumption)
def d_i4_Times : Den := den2 aZ aZ (fun a b => SZ a ∧ SZ b) fun a b => zV (a * b)
set_option maxRecDepth 100000 in
set_option maxHeartbeats 1000000 in
theorem s_i4_Times : Sound Tryz.prog 80 d_i4_Times := by
  refine sound2 (fz := nofz) (l := [(105, d_ref1_Mul)]) TT_ok ⟨s_ref1_Mul, trivial⟩ mixed Tryz.func80 Tryz.ntmps80 Tryz.results80 Tryz.call80 rfl (by omega) (fun _ _ => rfl) ?_
  intro a b hp ha hb
  rw [codeK_start]
  have l1 : (zN a).n.length ≤ 1000000000 := hp.1
  have l2 : (zN b).n.length ≤ 1000000000 := hp.2
  by_cases h0 : a.natAbs * b.natAbs = 0
  · have e3 : zN (a * b) = ⟨false, limbs 0⟩ := by
      have : a * b = 0 := by rw [← Int.natAbs_eq_zero, Int.natAbs_mul]; exact h0
      rw [this]; exact zN_nat 0
    rcases Bool.eq_false_or_eq_true (zN a).s with e1 | e1 <;> rcases Bool.eq_false_or_eq_true (zN b).s with e2 | e2
    all_goals
      simp only [go_sem, d_ref1_Mul, decide_true, decide_false, Bool.not_true, Bool.not_false, zN_val, bne_self_eq_false, ne_eq, not_true, not_false, reduceCtorEq, lims_zero, List.length_nil, Int.natCast_zero, Int.ofNat_zero, Int.cast_ofNat_Int, Int.lt_irrefl, e1, e2, e3, h0, Nat.reduceBEq, Nat.reduceBNe, Nat.reduceLT, Nat.reduceLeDiff, Nat.reduceAdd, Nat.reduceSub, Nat.reduceMul, Nat.reduceEqDiff, Int.reduceNeg, Int.reduceAdd, Int.reduceLT, Int.reduceLE, Int.reduceToNat, ↓reduceIte]
      all_goals ((try and_intros) <;> first | exact trivial | omega | (show okDraw _ _ = true; kernel_rfl) | assumption)
  · have e4 := lims_pos (m := a.natAbs * b.natAbs) h0
    have n1 : a ≠ 0 := fun h => h0 (by rw [h]; simp)
    have n2 : b ≠ 0 := fun h => h0 (by rw [h]; simp)
    by_cases h1 : a < 0
    · have e1 := zN_lt h1
      by_cases h2 : b < 0
      · have e2 := zN_lt h2
        have e3 : zN (a * b) = ⟨false, limbs (a.natAbs * b.natAbs)⟩ := zN_mk (by rw [if_neg (by simp), ← Int.natAbs_mul]; have := Int.mul_pos_of_neg_of_neg h1 h2; omega) (fun h => by cases h)
        simp only [go_sem, d_ref1_Mul, decide_true, decide_false, Bool.not_true, Bool.not_false, zN_val, bne_self_eq_false, ne_eq, not_true, not_false, reduceCtorEq, e1, e2, e3, e4, Nat.reduceBEq, Nat.reduceBNe, Nat.reduceLT, Nat.reduceLeDiff, Nat.reduceAdd, Nat.reduceSub, Nat.reduceMul, Nat.reduceEqDiff, Int.reduceNeg, Int.reduceAdd, Int.reduceLT, Int.reduceLE, Int.reduceToNat, ↓reduceIte]
        all_goals ((try and_intros) <;> first | exact trivial | omega | (show okDraw _ _ = true; kernel_rfl) | assumption)
      · have e2 := zN_ge (Int.not_lt.1 h2)
        have e3 : zN (a * b) = ⟨true, limbs (a.natAbs * b.natAbs)⟩ := zN_mk (by rw [if_pos rfl, ← Int.natAbs_mul]; have := Int.mul_neg_of_neg_of_pos h1 (show 0 < b by omega); omega) (fun _ => h0)
        simp only [go_sem, d_ref1_Mul, decide_true, decide_false, Bool.not_true, Bool.not_false, zN_val, bne_self_eq_false, ne_eq, not_true, not_false, reduceCtorEq, e1, e2, e3, e4, Nat.reduceBEq, Nat.reduceBNe, Nat.reduceLT, Nat.reduceLeDiff, Nat.reduceAdd, Nat.reduceSub, Nat.reduceMul, Nat.reduceEqDiff, Int.reduceNeg, Int.reduceAdd, Int.reduceLT, Int.reduceLE, Int.reduceToNat, ↓reduceIte]
        all_goals ((try and_intros) <;> first | exact trivial | omega | (show okDraw _ _ = true; kernel_rfl) | assumption)
    · have e1 := zN_ge (Int.not_lt.1 h1)
      by_cases h2 : b < 0
      · have e2 := zN_lt h2
        have e3 : zN (a * b) = ⟨true, limbs (a.natAbs * b.natAbs)⟩ := zN_mk (by rw [if_pos rfl, ← Int.natAbs_mul]; have := Int.mul_neg_of_pos_of_neg (show 0 < a by omega) h2; omega) (fun _ => h0)
        simp only [go_sem, d_ref1_Mul, decide_true, decide_false, Bool.not_true, Bool.not_false, zN_val, bne_self_eq_false, ne_eq, not_true, not_false, reduceCtorEq, e1, e2, e3, e4, Nat.reduceBEq, Nat.reduceBNe, Nat.reduceLT, Nat.reduceLeDiff, Nat.reduceAdd, Nat.reduceSub, Nat.reduceMul, Nat.reduceEqDiff, Int.reduceNeg, Int.reduceAdd, Int.reduceLT, Int.reduceLE, Int.reduceToNat, ↓reduceIte]
        all_goals ((try and_intros) <;> first | exact trivial | omega | (show okDraw _ _ = true; kernel_rfl) | assumption)
      · have e2 := zN_ge (Int.not_lt.1 h2)
        have e3 : zN (a * b) = ⟨false, limbs (a.natAbs * b.natAbs)⟩ := zN_mk (by rw [if_neg (by simp), ← Int.natAbs_mul]; have := Int.mul_pos (show 0 < a by omega) (show 0 < b by omega); omega) (fun h => by cases h)
        simp only [go_sem, d_ref1_Mul, decide_true, decide_false, Bool.not_true, Bool.not_false, zN_val, bne_self_eq_false, ne_eq, not_true, not_false, reduceCtorEq, e1, e2, e3, e4, Nat.reduceBEq, Nat.reduceBNe, Nat.reduceLT, Nat.reduceLeDiff, Nat.reduceAdd, Nat.reduceSub, Nat.reduceMul, Nat.reduceEqDiff, Int.reduceNeg, Int.reduceAdd, Int.reduceLT, Int.reduceLE, Int.reduceToNat, ↓reduceIte]
        all_goals ((try and_intros) <;> first | exact trivial | omega | (show okDraw _ _ = true; kernel_rfl) | assumption)
theorem lims_ne {m : Nat} (h : m ≠ 0) : ((((limbs m).length : Nat) : Int) = 0) = False := by
  refine eq_false ?_
  rw [limbs_pos (Nat.pos_of_ne_zero h), List.length_cons]
  omega
theorem val_1 : val [1] = 1 := rfl
theorem fall_nn {a : Int} {m : Nat} (h : 0 ≤ a) : zN (fallZ a m) = ⟨false, limbs (a.natAbs / m)⟩ := by
  have e : fallZ a m = ((a.natAbs / m : Nat) : Int) := by
    unfold fallZ
    rw [Int.natCast_ediv]
    congr 1
    omega
  rw [e]
  exact zN_nat _
theorem fall_neg0 {a : Int} {m : Nat} (h : a < 0) (hm : 0 < m) (hr : a.natAbs % m = 0) : fallZ a m = -((a.natAbs / m : Nat) : Int) := by
  obtain ⟨k, hk⟩ := Nat.dvd_of_mod_eq_zero hr
  have e : a = -((m * k : Nat) : Int) := by omega
  unfold fallZ
  rw [hk, Nat.mul_div_cancel_left _ hm, e, Int.natCast_mul, ← Int.mul_neg, Int.mul_ediv_cancel_left _ (by omega)]
theorem fall_neg1 {a : Int} {m : Nat} (h : a < 0) (hm : 0 < m) (hr : a.natAbs % m ≠ 0) : fallZ a m = -((a.natAbs / m + 1 : Nat) : Int) := by
  have h1 := Nat.div_add_mod a.natAbs m
  have h2 := Nat.mod_lt a.natAbs hm
  generalize a.natAbs / m = q at *
  unfold fallZ
  have h3 : ((m * q : Nat) : Int) + ((a.natAbs % m : Nat) : Int) = -a := by omega
  rw [Int.natCast_mul] at h3
  have e : a = (m : Int) * (-((q + 1 : Nat) : Int)) + ((m : Int) - ((a.natAbs % m : Nat) : Int)) := by
    have : ((q + 1 : Nat) : Int) = (q : Int) + 1 := by omega
    rw [this]
    have e2 : (m : Int) * (-((q : Int) + 1)) = -((m : Int) * q) - m := by grind
    rw [e2]
    omega
  rw [e, Int.add_comm, Int.add_mul_ediv_left _ _ (by omega), Int.ediv_eq_zero_of_lt (by omega) (by omega)]
  omega
theorem SZ_neg {z : Int} (h : SZ z) : SZ (-z) := by unfold SZ; rw [zs_neg]; exact h
theorem zs_fall (a : Int) (m : Nat) : zs (fallZ a m) ≤ zs a + 2 := zs_ediv a m
theorem zs_less (a n : Int) : zs (lessZ a n) ≤ zs a + 2 := zs_ediv a _
def cN (n : Int) : Nat := (min n 4096).toNat
theorem sh_dn {m : Nat} {n : Int} (h : 0 ≤ n) : shiftN m (clampN (-n)) = m / 2 ^ cN n := by
  have e : clampN (-n) = -((cN n : Nat) : Int) := by unfold clampN cN; omega
  rw [e]
  exact shiftC_dn _ _
theorem sh_dn' {m : Nat} {n : Int} (h : 0 ≤ n) : shiftN m (clampN (0 - n)) = m / 2 ^ cN n := by rw [Int.zero_sub]; exact sh_dn h
theorem sh_up {m : Nat} {n : Int} (h : 0 ≤ n) : shiftN m (clampN n) = m * 2 ^ cN n := by
  have e : clampN n = ((cN n : Nat) : Int) := by unfold clampN cN; omega
  rw [e]
  exact shiftC_up _ _
theorem less_fall (a n : Int) : lessZ a n = fallZ a (2 ^ cN n) := rfl
theorem div_mul_mod {m k : Nat} : (m / k * k = m) = (m % k = 0) := by
  have := Nat.div_add_mod m k
  rw [Nat.mul_comm] at this
  exact propext ⟨fun h => by omega, fun h => by omega⟩
def d_i4_Cmp : Den := den2 aZ aZ (fun a b => zs a ≤ 900000000 ∧ zs b ≤ 900000000) fun a b => intV (cmpZ a b)
set_option maxRecDepth 100000 in
set_option maxHeartbeats 1000000 in
theorem s_i4_Cmp : Sound Tryz.prog 81 d_i4_Cmp := by
  refine sound2 (fz := nofz) (l := [(104, d_i4_Opp), (82, d_i4_Plus)]) TT_ok ⟨s_i4_Opp, s_i4_Plus, trivial⟩ mixed Tryz.func81 Tryz.ntmps81 Tryz.results81 Tryz.call81 rfl (by omega) (fun _ _ => rfl) ?_
  intro a b hp ha hb
  rw [codeK_start]
  have l1 : zs a ≤ 900000000 := hp.1
  have l2 : zs b ≤ 900000000 := hp.2
  have l3 := zs_add a (-b)
  rw [zs_neg] at l3
  have l4 : SZ a := by unfold SZ; omega
  have l5 : SZ b := by unfold SZ; omega
  have l6 : SZ (-b) := SZ_neg l5
  rcases Int.lt_trichotomy a b with h | h | h
  · have e1 := zN_lt (z := a + -b) (by omega)
    have e2 := lims_ne (m := (a + -b).natAbs) (by omega)
    rw [← zN_n] at e2
    have e3 : cmpZ a b = -1 := if_pos h
    simp only [go_sem, d_i4_Opp, d_i4_Plus, decide_true, decide_false, Bool.not_true, Bool.not_false, zN_val, e1, e2, e3, Nat.reduceBEq, Nat.reduceBNe, Nat.reduceLT, Nat.reduceLeDiff, Nat.reduceAdd, Nat.reduceSub, Nat.reduceMul, Nat.reduceEqDiff, Int.reduceNeg, Int.reduceAdd, Int.reduceLT, Int.reduceLE, Int.reduceToNat, ↓reduceIte]
    all_goals ((try and_intros) <;> first | exact trivial | omega | (show okDraw _ _ = true; kernel_rfl) | assumption)
  · subst h
    have e1 : a + -a = 0 := by omega
    have e3 : cmpZ a a = 0 := by unfold cmpZ; rw [if_neg (by omega), if_pos rfl]
    simp only [go_sem, d_i4_Opp, d_i4_Plus, decide_true, decide_false, Bool.not_true, Bool.not_false, zN_val, lims_zero, List.length_nil, Int.natCast_zero, Int.ofNat_zero, Int.cast_ofNat_Int, Int.lt_irrefl, e1, e3, zN_0s, zN_0n, eq_self, Nat.reduceBEq, Nat.reduceBNe, Nat.reduceLT, Nat.reduceLeDiff, Nat.reduceAdd, Nat.reduceSub, Nat.reduceMul, Nat.reduceEqDiff, Int.reduceNeg, Int.reduceAdd, Int.reduceLT, Int.reduceLE, Int.reduceToNat, ↓reduceIte]
    all_goals ((try and_intros) <;> first | exact trivial | omega | (show okDraw _ _ = true; kernel_rfl) | assumption)
  · have e1 := zN_ge (z := a + -b) (by omega)
    have e2 := lims_ne (m := (a + -b).natAbs) (by omega)
    rw [← zN_n] at e2
    have e3 : cmpZ a b = 1 := by unfold cmpZ; rw [if_neg (by omega), if_neg (by omega)]
    simp only [go_sem, d_i4_Opp, d_i4_Plus, decide_true, decide_false, Bool.not_true, Bool.not_false, zN_val, e1, e2, e3, Nat.reduceBEq, Nat.reduceBNe, Nat.reduceLT, Nat.reduceLeDiff, Nat.reduceAdd, Nat.reduceSub, Nat.reduceMul, Nat.reduceEqDiff, Int.reduceNeg, Int.reduceAdd, Int.reduceLT, Int.reduceLE, Int.reduceToNat, ↓reduceIte]
    all_goals ((try and_intros) <;> first | exact trivial | omega | (show okDraw _ _ = true; kernel_rfl) | assumption)
def d_i4_Fall : Den := den2 aZ aLim (fun a b => SZ a ∧ b.length ≤ 1000000000) fun a b => zV (fallZ a (val b))
set_option maxRecDepth 100000 in
set_option maxHeartbeats 1000000 in
theorem s_i4_Fall : Sound Tryz.prog 74 d_i4_Fall := by
  refine sound2 (fz := nofz) (l := [(73, d_ref1_DivMod), (101, d_ref1_Add)]) TT_ok ⟨s_ref1_DivMod, s_ref1_Add, trivial⟩ mixed Tryz.func74 Tryz.ntmps74 Tryz.results74 Tryz.call74 rfl (by omega) (fun _ _ => rfl) ?_
  intro a b hp ha hb
  rw [codeK_start]
  have l1 : (zN a).n.length ≤ 1000000000 := hp.1
  have l2 := hp.2
  have l3 := len_div (m := a.natAbs) (val b)
  have l4 : (limbs a.natAbs).length ≤ 1000000000 := hp.1
  by_cases h : a < 0
  · have e1 := zN_lt h
    by_cases h0 : val b = 0
    · have e3 : fallZ a 0 = 0 := by unfold fallZ; simp
      have e4 : a.natAbs / 0 = 0 := Nat.div_zero _
      simp only [go_sem, d_ref1_DivMod, d_ref1_Add, decide_true, decide_false, Bool.not_true, Bool.not_false, zN_val, lims_zero, List.length_nil, Int.natCast_zero, Int.ofNat_zero, Int.cast_ofNat_Int, Int.lt_irrefl, e1, e3, e4, h0, zN_0s, zN_0n, val_1, Nat.reduceBEq, Nat.reduceBNe, Nat.reduceLT, Nat.reduceLeDiff, Nat.reduceAdd, Nat.reduceSub, Nat.reduceMul, Nat.reduceEqDiff, Int.reduceNeg, Int.reduceAdd, Int.reduceLT, Int.reduceLE, Int.reduceToNat, ↓reduceIte]
      all_goals ((try and_intros) <;> first | exact trivial | omega | (show okDraw _ _ = true; kernel_rfl) | assumption)
    · by_cases hr : a.natAbs % val b = 0
      · have hq : a.natAbs / val b ≠ 0 := by
          intro hq
          have := Nat.div_add_mod a.natAbs (val b)
          rw [hq, hr] at this
          omega
        have e3 : zN (fallZ a (val b)) = ⟨true, limbs (a.natAbs / val b)⟩ := zN_mk (by rw [if_pos rfl]; exact fall_neg0 h (Nat.pos_of_ne_zero h0) hr) (fun _ => hq)
        have e4 := lims_pos hq
        simp only [go_sem, d_ref1_DivMod, d_ref1_Add, decide_true, decide_false, Bool.not_true, Bool.not_false, zN_val, lims_zero, List.length_nil, Int.natCast_zero, Int.ofNat_zero, Int.cast_ofNat_Int, Int.lt_irrefl, e1, e3, e4, h0, hr, val_1, Nat.reduceBEq, Nat.reduceBNe, Nat.reduceLT, Nat.reduceLeDiff, Nat.reduceAdd, Nat.reduceSub, Nat.reduceMul, Nat.reduceEqDiff, Int.reduceNeg, Int.reduceAdd, Int.reduceLT, Int.reduceLE, Int.reduceToNat, ↓reduceIte]
        all_goals ((try and_intros) <;> first | exact trivial | omega | (show okDraw _ _ = true; kernel_rfl) | assumption)
      · have e3 : zN (fallZ a (val b)) = ⟨true, limbs (a.natAbs / val b + 1)⟩ := zN_mk (by rw [if_pos rfl]; exact fall_neg1 h (Nat.pos_of_ne_zero h0) hr) (fun _ => Nat.succ_ne_zero _)
        have e4 := lims_pos (m := a.natAbs / val b + 1) (Nat.succ_ne_zero _)
        have e5 := lims_pos hr
        simp only [go_sem, d_ref1_DivMod, d_ref1_Add, decide_true, decide_false, Bool.not_true, Bool.not_false, zN_val, lims_zero, List.length_nil, Int.natCast_zero, Int.ofNat_zero, Int.cast_ofNat_Int, Int.lt_irrefl, e1, e3, e4, e5, h0, val_limbs, val_1, Nat.reduceBEq, Nat.reduceBNe, Nat.reduceLT, Nat.reduceLeDiff, Nat.reduceAdd, Nat.reduceSub, Nat.reduceMul, Nat.reduceEqDiff, Int.reduceNeg, Int.reduceAdd, Int.reduceLT, Int.reduceLE, Int.reduceToNat, ↓reduceIte]
        all_goals ((try and_intros) <;> first | exact trivial | omega | (show okDraw _ _ = true; kernel_rfl) | assumption)
  · have e1 := zN_ge (Int.not_lt.1 h)
    have e3 := fall_nn (m := val b) (Int.not_lt.1 h)
    simp only [go_sem, d_ref1_DivMod, d_ref1_Add, decide_true, decide_false, Bool.not_true, Bool.not_false, zN_val, e1, e3, Nat.reduceBEq, Nat.reduceBNe, Nat.reduceLT, Nat.reduceLeDiff, Nat.reduceAdd, Nat.reduceSub, Nat.reduceMul, Nat.reduceEqDiff, Int.reduceNeg, Int.reduceAdd, Int.reduceLT, Int.reduceLE, Int.reduceToNat, ↓reduceIte]
    all_goals ((try and_intros) <;> first | exact trivial | omega | (show okDraw _ _ = true; kernel_rfl) | assumption)
def d_i4_Rise : Den := den2 aZ aLim (fun a b => zs a ≤ 900000000 ∧ b.length ≤ 1000000000) fun a b => zV (riseZ a (val b))
set_option maxRecDepth 100000 in
set_option maxHeartbeats 1000000 in
theorem s_i4_Rise : Sound Tryz.prog 75 d_i4_Rise := by
  refine sound2 (fz := nofz) (l := [(104, d_i4_Opp), (74, d_i4_Fall)]) TT_ok ⟨s_i4_Opp, s_i4_Fall, trivial⟩ mixed Tryz.func75 Tryz.ntmps75 Tryz.results75 Tryz.call75 rfl (by omega) (fun _ _ => rfl) ?_
  intro a b hp ha hb
  rw [codeK_start]
  have l1 : zs a ≤ 900000000 := hp.1
  have l2 := hp.2
  have l4 : SZ a := by unfold SZ; omega
  have l5 := SZ_neg l4
  have l6 := zs_fall (-a) (val b)
  rw [zs_neg] at l6
  have l7 : SZ (fallZ (-a) (val b)) := by unfold SZ; omega
  have e : riseZ a (val b) = -fallZ (-a) (val b) := rfl
  simp only [go_sem, d_i4_Opp, d_i4_Fall, decide_true, decide_false, Bool.not_true, Bool.not_false, zN_val, e, Nat.reduceBEq, Nat.reduceBNe, Nat.reduceLT, Nat.reduceLeDiff, Nat.reduceAdd, Nat.reduceSub, Nat.reduceMul, Nat.reduceEqDiff, Int.reduceNeg, Int.reduceAdd, Int.reduceLT, Int.reduceLE, Int.reduceToNat, ↓reduceIte]
  all_goals ((try and_intros) <;> first | exact trivial | omega | (show okDraw _ _ = true; kernel_rfl) | assumption)
def d_i4_Less : Den := den2 aZ aInt (fun a b => SZ a ∧ 0 ≤ b ∧ b ≤ 1000000000) fun a b => zV (lessZ a b)
set_option maxRecDepth 100000 in
set_option maxHeartbeats 1000000 in
theorem s_i4_Less : Sound Tryz.prog 78 d_i4_Less := by
  refine sound2 (fz := nofz) (l := [(51, d_ref1_ShiftC), (102, d_ref1_Cmp), (101, d_ref1_Add)]) TT_ok ⟨s_ref1_ShiftC, s_ref1_Cmp, s_ref1_Add, trivial⟩ mixed Tryz.func78 Tryz.ntmps78 Tryz.results78 Tryz.call78 rfl (by omega) (fun _ _ => rfl) ?_
  intro a b hp ha hb
  rw [codeK_start]
  have l1 : (zN a).n.length ≤ 1000000000 := hp.1
  obtain ⟨-, n0, n1⟩ := hp
  have m0 : 0 < 2 ^ cN b := Nat.pow_pos (by omega)
  have l3 := len_div (m := a.natAbs) (2 ^ cN b)
  have l4 : (limbs a.natAbs).length ≤ 1000000000 := l1
  have l5 : (limbs (a.natAbs / 2 ^ cN b * 2 ^ cN b)).length ≤ (limbs a.natAbs).length := limbs_len_mono (Nat.div_mul_le_self _ _)
  have s1 := sh_dn (m := a.natAbs) n0
  have s3 := sh_dn' (m := a.natAbs) n0
  have s2 : ∀ m, shiftN m (clampN b) = m * 2 ^ cN b := fun m => sh_up n0
  have ee := less_fall a b
  by_cases h : a < 0
  · have e1 := zN_lt h
    by_cases hr : a.natAbs % 2 ^ cN b = 0
    · have hq : a.natAbs / 2 ^ cN b ≠ 0 := by
        intro hq
        have := Nat.div_add_mod a.natAbs (2 ^ cN b)
        rw [hq, hr] at this
        omega
      have e3 : zN (fallZ a (2 ^ cN b)) = ⟨true, limbs (a.natAbs / 2 ^ cN b)⟩ := zN_mk (by rw [if_pos rfl]; exact fall_neg0 h m0 hr) (fun _ => hq)
      have e4 := lims_pos hq
      simp only [go_sem, d_ref1_ShiftC, d_ref1_Cmp, d_ref1_Add, decide_true, decide_false, Bool.not_true, Bool.not_false, zN_val, lims_zero, List.length_nil, Int.natCast_zero, Int.ofNat_zero, Int.cast_ofNat_Int, Int.lt_irrefl, e1, e3, e4, hr, val_1, val_limbs, s1, s2, s3, ee, cmpI_eq0, div_mul_mod, not_true, ne_eq, not_false, Nat.reduceBEq, Nat.reduceBNe, Nat.reduceLT, Nat.reduceLeDiff, Nat.reduceAdd, Nat.reduceSub, Nat.reduceMul, Nat.reduceEqDiff, Int.reduceNeg, Int.reduceAdd, Int.reduceLT, Int.reduceLE, Int.reduceToNat, ↓reduceIte]
      all_goals ((try and_intros) <;> first | exact trivial | omega | (show okDraw _ _ = true; kernel_rfl) | assumption)
    · have e3 : zN (fallZ a (2 ^ cN b)) = ⟨true, limbs (a.natAbs / 2 ^ cN b + 1)⟩ := zN_mk (by rw [if_pos rfl]; exact fall_neg1 h m0 hr) (fun _ => Nat.succ_ne_zero _)
      have e4 := lims_pos (m := a.natAbs / 2 ^ cN b + 1) (Nat.succ_ne_zero _)
      simp only [go_sem, d_ref1_ShiftC, d_ref1_Cmp, d_ref1_Add, decide_true, decide_false, Bool.not_true, Bool.not_false, zN_val, lims_zero, List.length_nil, Int.natCast_zero, Int.ofNat_zero, Int.cast_ofNat_Int, Int.lt_irrefl, e1, e3, e4, hr, val_limbs, val_1, s1, s2, s3, ee, cmpI_eq0, div_mul_mod, not_true, ne_eq, not_false, Nat.reduceBEq, Nat.reduceBNe, Nat.reduceLT, Nat.reduceLeDiff, Nat.reduceAdd, Nat.reduceSub, Nat.reduceMul, Nat.reduceEqDiff, Int.reduceNeg, Int.reduceAdd, Int.reduceLT, Int.reduceLE, Int.reduceToNat, ↓reduceIte]
      all_goals ((try and_intros) <;> first | exact trivial | omega | (show okDraw _ _ = true; kernel_rfl) | assumption)
  · have e1 := zN_ge (Int.not_lt.1 h)
    have e3 := fall_nn (m := 2 ^ cN b) (Int.not_lt.1 h)
    simp only [go_sem, d_ref1_ShiftC, d_ref1_Cmp, d_ref1_Add, decide_true, decide_false, Bool.not_true, Bool.not_false, zN_val, e1, e3, s1, s2, s3, ee, Nat.reduceBEq, Nat.reduceBNe, Nat.reduceLT, Nat.reduceLeDiff, Nat.reduceAdd, Nat.reduceSub, Nat.reduceMul, Nat.reduceEqDiff, Int.reduceNeg, Int.reduceAdd, Int.reduceLT, Int.reduceLE, Int.reduceToNat, ↓reduceIte]
    all_goals ((try and_intros) <;> first | exact trivial | omega | (show okDraw _ _ = true; kernel_rfl) | assumption)
def d_i4_More : Den := den2 aZ aInt (fun a b => zs a ≤ 900000000 ∧ 0 ≤ b ∧ b ≤ 1000000000) fun a b => zV (moreZ a b)
set_option maxRecDepth 100000 in
set_option maxHeartbeats 1000000 in
theorem s_i4_More : Sound Tryz.prog 79 d_i4_More := by
  refine sound2 (fz := nofz) (l := [(104, d_i4_Opp), (78, d_i4_Less)]) TT_ok ⟨s_i4_Opp, s_i4_Less, trivial⟩ mixed Tryz.func79 Tryz.ntmps79 Tryz.results79 Tryz.call79 rfl (by omega) (fun _ _ => rfl) ?_
  intro a b hp ha hb
  rw [codeK_start]
  have l1 : zs a ≤ 900000000 := hp.1
  have l2 := hp.2
  have l4 : SZ a := by unfold SZ; omega
  have l5 := SZ_neg l4
  have l6 := zs_less (-a) b
  rw [zs_neg] at l6
  have l7 : SZ (lessZ (-a) b) := by unfold SZ; omega
  have e : moreZ a b = -lessZ (-a) b := rfl
  simp only [go_sem, d_i4_Opp, d_i4_Less, decide_true, decide_false, Bool.not_true, Bool.not_false, zN_val, e, Nat.reduceBEq, Nat.reduceBNe, Nat.reduceLT, Nat.reduceLeDiff, Nat.reduceAdd, Nat.reduceSub, Nat.reduceMul, Nat.reduceEqDiff, Int.reduceNeg, Int.reduceAdd, Int.reduceLT, Int.reduceLE, Int.reduceToNat, ↓reduceIte]
  all_goals ((try and_intros) <;> first | exact trivial | omega | (show okDraw _ _ = true; kernel_rfl) | assumption)
def d_i4_Whole : Den := den1 aInt (fun a => -1000000000 ≤ a ∧ a ≤ 1000000000) fun a => zV a
set_option maxRecDepth 100000 in
set_option maxHeartbeats 1000000 in
theorem s_i4_Whole : Sound Tryz.prog 107 d_i4_Whole := by
  refine sound1 (fz := nofz) (l := [(40, d_ref1_Of)]) TT_ok ⟨s_ref1_Of, trivial⟩ mixed Tryz.func107 Tryz.ntmps107 Tryz.results107 Tryz.call107 rfl (by omega) (fun _ => rfl) ?_
  intro a hp ha
  rw [codeK_start]
  obtain ⟨h1, h2⟩ := hp
  by_cases h : a < 0
  · have w1 : IntKind.wrap .u64 (-a) = -a := by rw [IntKind.wrap_u64]; omega
    have w2 : IntKind.wrap .u64 (0 - a) = -a := by rw [IntKind.wrap_u64]; omega
    have e3 : zN a = ⟨true, limbs (-a).toNat⟩ := zN_mk (by rw [if_pos rfl]; omega) (fun _ => by omega)
    simp only [go_sem, d_ref1_Of, decide_true, decide_false, Bool.not_true, Bool.not_false, zN_val, h, w1, w2, e3, Nat.reduceBEq, Nat.reduceBNe, Nat.reduceLT, Nat.reduceLeDiff, Nat.reduceAdd, Nat.reduceSub, Nat.reduceMul, Nat.reduceEqDiff, Int.reduceNeg, Int.reduceAdd, Int.reduceLT, Int.reduceLE, Int.reduceToNat, ↓reduceIte]
    all_goals ((try and_intros) <;> first | exact trivial | omega | (show okDraw _ _ = true; kernel_rfl) | assumption)
  · have w1 : IntKind.wrap .u64 a = a := by rw [IntKind.wrap_u64]; omega
    have e3 : zN a = ⟨false, limbs a.toNat⟩ := zN_mk (by rw [if_neg (by simp)]; omega) (fun h => by cases h)
    simp only [go_sem, d_ref1_Of, decide_true, decide_false, Bool.not_true, Bool.not_false, zN_val, h, w1, e3, Nat.reduceBEq, Nat.reduceBNe, Nat.reduceLT, Nat.reduceLeDiff, Nat.reduceAdd, Nat.reduceSub, Nat.reduceMul, Nat.reduceEqDiff, Int.reduceNeg, Int.reduceAdd, Int.reduceLT, Int.reduceLE, Int.reduceToNat, ↓reduceIte]
    all_goals ((try and_intros) <;> first | exact trivial | omega | (show okDraw _ _ = true; kernel_rfl) | assumption)
def d_i4_pow2 : Den := den1 aInt (fun a => 0 ≤ a ∧ a ≤ 1000000000) fun a => natV (2 ^ cN a)
set_option maxRecDepth 100000 in
set_option maxHeartbeats 1000000 in
theorem s_i4_pow2 : Sound Tryz.prog 83 d_i4_pow2 := by
  refine sound1 (fz := nofz) (l := [(51, d_ref1_ShiftC)]) TT_ok ⟨s_ref1_ShiftC, trivial⟩ mixed Tryz.func83 Tryz.ntmps83 Tryz.results83 Tryz.call83 rfl (by omega) (fun _ => rfl) ?_
  intro a hp ha
  rw [codeK_start]
  obtain ⟨h1, h2⟩ := hp
  have s2 : ∀ m, shiftN m (clampN a) = m * 2 ^ cN a := fun m => sh_up h1
  simp only [go_sem, d_ref1_ShiftC, decide_true, decide_false, Bool.not_true, Bool.not_false, zN_val, s2, val_1, Nat.one_mul, Nat.reduceBEq, Nat.reduceBNe, Nat.reduceLT, Nat.reduceLeDiff, Nat.reduceAdd, Nat.reduceSub, Nat.reduceMul, Nat.reduceEqDiff, Int.reduceNeg, Int.reduceAdd, Int.reduceLT, Int.reduceLE, Int.reduceToNat, ↓reduceIte]
  all_goals ((try and_intros) <;> first | exact trivial | omega | (show okDraw _ _ = true; kernel_rfl) | assumption)
end Go.Proofs.YtnjgliojkoeneaaGreat
