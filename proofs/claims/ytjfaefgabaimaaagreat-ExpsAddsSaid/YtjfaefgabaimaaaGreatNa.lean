/- Whole numbers and intervals of vernierref4 as struct values; vernierref1.Shift, held at 4096 digits. Condition: at most 10^12 limbs. -/
import Derived.Test.YtjfaefgabaimaaaGreatRsB
import Derived.Test.YtjfaefgabaimaaaGreatMb
import Derived.Test.YtjfaefgabaimaaaGreatBc
import Derived.Test.YtjfaefgabaimaaaGreatBb
namespace Go.Proofs.YtjfaefgabaimaaaGreat
open Go.RowKit
set_option linter.unusedSimpArgs false
set_option linter.unusedVariables false

/-! whole numbers -/

structure ZL where
  s : Bool
  n : List Nat
deriving DecidableEq
def zOf (s : Bool) (n : List Nat) : Int := if s = true then -((val n : Nat) : Int) else ((val n : Nat) : Int)
def zN (z : Int) : ZL := ⟨decide (z < 0), limbs z.natAbs⟩
theorem zN_s (z : Int) : (zN z).s = decide (z < 0) := rfl
theorem zN_n (z : Int) : (zN z).n = limbs z.natAbs := rfl
theorem zN_val (z : Int) : val (zN z).n = z.natAbs := val_limbs _
theorem zOf_zN (z : Int) : zOf (zN z).s (zN z).n = z := by
  unfold zOf
  rw [zN_val, zN_s]
  split
  · rename_i h
    have := of_decide_eq_true h
    omega
  · rename_i h
    have : ¬ z < 0 := fun h2 => h (decide_eq_true h2)
    omega
def paZc (s : Bool) (n : List Nat) : Option Int := if zN (zOf s n) = ⟨s, n⟩ then some (zOf s n) else none
theorem paZc_eq {s : Bool} {n : List Nat} {z : Int} (h : paZc s n = some z) : s = (zN z).s ∧ n = (zN z).n := by
  unfold paZc at h
  split at h
  · rename_i e
    cases h
    rw [e]
    exact ⟨rfl, rfl⟩
  · cases h
@[go_sem] theorem paZc_zN (z : Int) : paZc (zN z).s (zN z).n = some z := by
  unfold paZc
  rw [zOf_zN, if_pos rfl]
theorem zN_mk {r : Int} {s : Bool} {m : Nat} (h : r = if s = true then -(m : Int) else (m : Int)) (h2 : s = true → m ≠ 0) : zN r = ⟨s, limbs m⟩ := by
  unfold zN
  subst h
  cases s with
  | true =>
    have := h2 rfl
    rw [if_pos rfl]
    have e1 : decide (-(m : Int) < 0) = true := decide_eq_true (by omega)
    have e2 : (-(m : Int)).natAbs = m := by omega
    rw [e1, e2]
  | false =>
    rw [if_neg (by simp)]
    have e1 : decide ((m : Int) < 0) = false := decide_eq_false (by omega)
    have e2 : ((m : Int)).natAbs = m := by omega
    rw [e1, e2]
theorem zN_nat (m : Nat) : zN (m : Int) = ⟨false, limbs m⟩ := zN_mk (by simp) (fun h => by cases h)
@[go_sem] theorem paZc_lim (m : Nat) : paZc false (limbs m) = some (m : Int) := by
  have := paZc_zN (m : Int)
  rwa [zN_nat] at this
@[go_sem] theorem paZc_abs (z : Int) : paZc false (zN z).n = some (z.natAbs : Int) := paZc_lim _
def zC (z : Int) : List CV := [.bool (zN z).s, .lim none (zN z).n]
def zV (z : Int) : AV := .one (.agg (zC z))
def paZ : AV → Option Int
  | .one (.agg [.bool s, x]) => match x.lims with
    | some n => paZc s n
    | none => none
  | _ => none
def aZ : Arg Int where
  pa := paZ
  un := zV
  va := fun _ => True
  ok := by
    intro v z h X w u hu
    unfold paZ at h
    split at h
    · rename_i s x
      split at h
      · rename_i n hx
        obtain ⟨rfl, rfl⟩ := paZc_eq h
        obtain ⟨vs, rfl, hl⟩ := hu
        obtain ⟨u1, u2, rfl, g1, g2⟩ := hl.two
        exact ⟨_, rfl, .cons g1 (.cons (by simpa only [CV.P] using CV.lims_P hx g2) .nil)⟩
      · cases h
    · cases h
  st := fun _ => rfl
  vd := fun _ _ _ _ _ => trivial
attribute [go_sem] aZ paZ zV zC

/-! intervals -/

def ivC (p : Int × Int) : List CV := [.bool (zN p.1).s, .lim none (zN p.1).n, .bool (zN p.2).s, .lim none (zN p.2).n]
def ivV (p : Int × Int) : AV := .one (.agg (ivC p))
def paIvc (a b : Option Int) : Option (Int × Int) := match a, b with
  | some a, some b => some (a, b)
  | _, _ => none
def paIv : AV → Option (Int × Int)
  | .one (.agg [.bool s, x, .bool t, y]) => match x.lims, y.lims with
    | some n, some m => paIvc (paZc s n) (paZc t m)
    | _, _ => none
  | _ => none
def aIv : Arg (Int × Int) where
  pa := paIv
  un := ivV
  va := fun _ => True
  ok := by
    intro v z h X w u hu
    unfold paIv at h
    split at h
    · rename_i s x t y
      split at h
      · rename_i n m hx hy
        unfold paIvc at h
        split at h
        · rename_i a b ha hb
          cases h
          obtain ⟨rfl, rfl⟩ := paZc_eq ha
          obtain ⟨rfl, rfl⟩ := paZc_eq hb
          obtain ⟨vs, rfl, hl⟩ := hu
          cases hl with
          | cons g1 hl =>
            cases hl with
            | cons g2 hl =>
              obtain ⟨u3, u4, rfl, g3, g4⟩ := hl.two
              exact ⟨_, rfl, .cons g1 (.cons (by simpa only [CV.P] using CV.lims_P hx g2) (.cons g3 (.cons (by simpa only [CV.P] using CV.lims_P hy g4) .nil)))⟩
        · cases h
      · cases h
    · cases h
  st := fun _ => rfl
  vd := fun _ _ _ _ _ => trivial
attribute [go_sem] aIv paIv paIvc ivV ivC

/-! sizes -/

def zs (z : Int) : Nat := (limbs z.natAbs).length
theorem zN_len (z : Int) : (zN z).n.length = zs z := rfl
theorem zs_bits {z : Int} {B : Nat} (h : z.natAbs < 2 ^ B) : zs z ≤ B / 32 + 1 := len_bits h
theorem zs_lt (z : Int) : z.natAbs < 2 ^ (32 * zs z) := by
  have h := val_bits (xs := limbs z.natAbs) (limbs_lt _)
  rwa [val_limbs] at h
theorem zs_le {z : Int} {K : Nat} (h : z.natAbs < 2 ^ (32 * K)) : zs z ≤ K + 1 := by
  have := zs_bits h
  omega
theorem zs_neg (z : Int) : zs (-z) = zs z := by unfold zs; rw [Int.natAbs_neg]
theorem zs_mono {a b : Int} (h : a.natAbs ≤ b.natAbs) : zs a ≤ zs b := limbs_len_mono h
theorem zs_add (a b : Int) : zs (a + b) ≤ max (zs a) (zs b) + 2 := by
  have h1 := zs_lt a
  have h2 := zs_lt b
  have m1 : 2 ^ (32 * zs a) ≤ 2 ^ (32 * max (zs a) (zs b)) := Nat.pow_le_pow_right (by omega) (Nat.mul_le_mul_left _ (Nat.le_max_left _ _))
  have m2 : 2 ^ (32 * zs b) ≤ 2 ^ (32 * max (zs a) (zs b)) := Nat.pow_le_pow_right (by omega) (Nat.mul_le_mul_left _ (Nat.le_max_right _ _))
  have e : 2 ^ (32 * (max (zs a) (zs b) + 1)) = 2 ^ (32 * max (zs a) (zs b)) * 4294967296 := by rw [Nat.mul_add, Nat.pow_add]
  exact zs_le (by rw [e]; omega)
theorem zs_mul (a b : Int) : zs (a * b) ≤ zs a + zs b + 1 := by
  have h1 := zs_lt a
  have h2 := zs_lt b
  refine zs_le ?_
  rw [Int.natAbs_mul, Nat.mul_add, Nat.pow_add]
  exact Nat.mul_lt_mul_of_lt_of_lt h1 h2
theorem zs_ediv (a : Int) (m : Nat) : zs (a / (m : Int)) ≤ zs a + 2 := by
  have h1 := zs_lt a
  have e : 2 ^ (32 * (zs a + 1)) = 2 ^ (32 * zs a) * 4294967296 := by rw [Nat.mul_add, Nat.pow_add]
  refine zs_le ?_
  have h2 : (a / (m : Int)).natAbs ≤ a.natAbs + 1 := by
    rcases Nat.eq_zero_or_pos m with h | h
    · subst h; simp
    · have l := Int.ediv_mul_le a (b := (m : Int)) (by omega)
      have u := Int.lt_ediv_add_one_mul_self a (b := (m : Int)) (by omega)
      rcases Int.le_total 0 a with h0 | h0
      · have q0 : 0 ≤ a / (m : Int) := Int.ediv_nonneg h0 (by omega)
        have := Int.ediv_le_self (m : Int) h0
        omega
      · have q0 : a / (m : Int) ≤ 0 := by
          rcases (show 0 < a / (m : Int) ∨ a / (m : Int) ≤ 0 by omega) with h' | h'
          · have : 0 ≤ a / (m : Int) * m := Int.mul_nonneg (by omega) (by omega)
            have : 1 * (m : Int) ≤ a / (m : Int) * m := Int.mul_le_mul_of_nonneg_right (by omega) (by omega)
            omega
          · exact h'
        have : a - 0 ≤ a / (m : Int) + 1 := by
          rcases (show a / (m : Int) + 1 < a ∨ a ≤ a / (m : Int) + 1 by omega) with h' | h'
          · have : (a / (m : Int) + 1) * (m : Int) ≤ (a / (m : Int) + 1) * 1 := Int.mul_le_mul_of_nonpos_left (by omega) (by omega)
            omega
          · omega
        omega
  omega

/-! vernierref1.Shift, all shifts -/

def clampN (n : Int) : Int := min (max n (-4096)) 4096
theorem shiftC_eq (m : Nat) (n : Int) : shiftC m n = shiftN m n := rfl
def d_ref1_ShiftC : Den := den2 aLim aInt (fun a _ => a.length ≤ 1000000000000) fun a n => natV (shiftN (val a) (clampN n))
theorem s_ref1_ShiftC : Sound Tryz.prog 80 d_ref1_ShiftC :=
  told2 Tryz.call80 (fun _ _ => rfl) fun a n X w u v h hX hu hv => by
    have hv : v = .int .i64 n := hv
    subst hv
    have hnt := lim_nt (X := X) (w := w) hu
    by_cases h1 : 4096 < n
    · have e : clampN n = 4096 := by unfold clampN; omega
      rw [e]
      exact retNat hX (refShiftUpB w u a 0 n hnt h1 h)
    · by_cases h2 : n < -4096
      · have e : clampN n = -4096 := by unfold clampN; omega
        rw [e]
        exact retNat hX (refShiftDownB w u a 0 n hnt h2 h)
      · have e : clampN n = n := by unfold clampN; omega
        rw [e]
        by_cases h3 : 0 ≤ n
        · obtain ⟨k, rfl⟩ := Int.eq_ofNat_of_zero_le h3
          have := refShiftUp w u a 0 k hnt (by omega) h
          rw [shiftN_up h3]
          exact retNat hX this
        · obtain ⟨k, hk⟩ : ∃ k : Nat, n = -(k : Int) := ⟨(-n).toNat, by omega⟩
          subst hk
          have := refShiftDown w u a 0 k hnt (by omega) (by omega) h
          have e2 : shiftN (val a) (-(k : Int)) = val a / 2 ^ k := shiftC_dn _ _
          rw [e2]
          exact retNat hX this

end Go.Proofs.YtjfaefgabaimaaaGreat
