/- Balls: what their reckoning is, and the laws of it, without any program. No condition. Roots: products and squares of what encloses them; without any program. No condition. -/
import Derived.Test.YtjfaefgabaimaaaGreatAx
import Derived.Test.YtjfaefgabaimaaaGreatBa
import Derived.Test.YtjfaefgabaimaaaGreatAp
namespace Go.Proofs.YtjfaefgabaimaaaGreat
open Go.RowKit

theorem mn_le_left (p q : Rat) : mn p q ≤ p := by unfold mn; split; exact Rat.le_refl; exact Rat.le_of_lt (Rat.not_le.1 ‹_›)
theorem mn_le_right (p q : Rat) : mn p q ≤ q := by unfold mn; split; assumption; exact Rat.le_refl
theorem le_mx_left (p q : Rat) : p ≤ mx p q := by unfold mx; split; exact Rat.le_refl; exact Rat.le_of_lt (Rat.not_le.1 ‹_›)
theorem le_mx_right (p q : Rat) : q ≤ mx p q := by unfold mx; split; assumption; exact Rat.le_refl
theorem le_mn {r p q : Rat} (h1 : r ≤ p) (h2 : r ≤ q) : r ≤ mn p q := by unfold mn; split <;> assumption
theorem mx_le {r p q : Rat} (h1 : p ≤ r) (h2 : q ≤ r) : mx p q ≤ r := by unfold mx; split <;> assumption
theorem mn_left {p q : Rat} (h : p ≤ q) : mn p q = p := by unfold mn; rw [if_pos h]
theorem mn_right {p q : Rat} (h : q ≤ p) : mn p q = q := Rat.le_antisymm (mn_le_right p q) (le_mn h Rat.le_refl)
theorem mx_left {p q : Rat} (h : q ≤ p) : mx p q = p := by unfold mx; rw [if_pos h]
theorem mx_right {p q : Rat} (h : p ≤ q) : mx p q = q := Rat.le_antisymm (mx_le h Rat.le_refl) (le_mx_right p q)
theorem mn_if (p x : Rat) : (if x < p then x else p) = mn p x := by
  unfold mn
  by_cases h : p ≤ x
  · rw [if_pos h, if_neg (Rat.not_lt.2 h)]
  · rw [if_neg h, if_pos (Rat.not_le.1 h)]
theorem mx_if (p x : Rat) : (if p < x then x else p) = mx p x := by
  unfold mx
  by_cases h : x ≤ p
  · rw [if_pos h, if_neg (Rat.not_lt.2 h)]
  · rw [if_neg h, if_pos (Rat.not_le.1 h)]

def absLo (l h : Rat) : Rat := if 0 ≤ l then l else if h ≤ 0 then -h else 0
def absHi (l h : Rat) : Rat := if 0 ≤ l then h else if h ≤ 0 then -l else mx (-l) h
def pn (n : Int) : Nat := (min (max n 0) 64).toNat
def powLo (l h : Rat) (n : Nat) : Rat := if n = 0 then 1 else if n % 2 = 0 then qpow (absLo l h) n else qpow l n
def powHi (l h : Rat) (n : Nat) : Rat := if n = 0 then 1 else if n % 2 = 0 then qpow (absHi l h) n else qpow h n
def twoP (h : Nat) : Rat := qv false (2 ^ h) 1
def unitP (h : Nat) : Rat := qv false 1 (2 ^ h)
def dn (x : Rat) (h : Nat) : Rat := ((x * twoP h).floor : Rat) * unitP h
def up (x : Rat) (h : Nat) : Rat := -dn (-x) h
def meetLo (a b : BB) : Rat := if sideI a b = 0 then mx a.lo.q b.lo.q else 0
def meetHi (a b : BB) : Rat := if sideI a b = 0 then mn a.hi.q b.hi.q else 0
def invB (b : BB) : BB := ⟨cr (1 / b.hi.q), cr (1 / b.lo.q)⟩
def zeroIn (b : BB) : Bool := hasB b.lo.q b.hi.q 0
def divLo (a b : BB) : Rat := if zeroIn b = true then 0 else mulLo a (invB b)
def divHi (a b : BB) : Rat := if zeroIn b = true then 0 else mulHi a (invB b)

/-! products -/

theorem mul_le_of_between {t y l h m : Rat} (h1 : l ≤ y) (h2 : y ≤ h) (hl : t * l ≤ m) (hh : t * h ≤ m) : t * y ≤ m := by
  rcases Rat.le_total (a := 0) (b := t) with ht | ht
  · exact Rat.le_trans (Rat.mul_le_mul_of_nonneg_left h2 ht) hh
  · have h3 := Rat.mul_le_mul_of_nonneg_left h1 (neg_nonneg' ht)
    rw [Rat.neg_mul, Rat.neg_mul] at h3
    exact Rat.le_trans (Rat.neg_le_neg_iff.1 h3) hl
theorem le_mul_of_between {t y l h m : Rat} (h1 : l ≤ y) (h2 : y ≤ h) (hl : m ≤ t * l) (hh : m ≤ t * h) : m ≤ t * y := by
  rcases Rat.le_total (a := 0) (b := t) with ht | ht
  · exact Rat.le_trans hl (Rat.mul_le_mul_of_nonneg_left h1 ht)
  · have h3 := Rat.mul_le_mul_of_nonneg_left h2 (neg_nonneg' ht)
    rw [Rat.neg_mul, Rat.neg_mul] at h3
    exact Rat.le_trans hh (Rat.neg_le_neg_iff.1 h3)

theorem mulHi_ge (a b : BB) : a.lo.q * b.lo.q ≤ mulHi a b ∧ a.lo.q * b.hi.q ≤ mulHi a b ∧ a.hi.q * b.lo.q ≤ mulHi a b ∧ a.hi.q * b.hi.q ≤ mulHi a b := by
  have e : mulHi a b = mx (mx (mx (a.lo.q * b.lo.q) (a.lo.q * b.hi.q)) (a.hi.q * b.lo.q)) (a.hi.q * b.hi.q) := rfl
  rw [e]
  exact ⟨Rat.le_trans (Rat.le_trans (le_mx_left _ _) (le_mx_left _ _)) (le_mx_left _ _), Rat.le_trans (Rat.le_trans (le_mx_right _ _) (le_mx_left _ _)) (le_mx_left _ _), Rat.le_trans (le_mx_right _ _) (le_mx_left _ _), le_mx_right _ _⟩
theorem mulLo_le (a b : BB) : mulLo a b ≤ a.lo.q * b.lo.q ∧ mulLo a b ≤ a.lo.q * b.hi.q ∧ mulLo a b ≤ a.hi.q * b.lo.q ∧ mulLo a b ≤ a.hi.q * b.hi.q := by
  have e : mulLo a b = mn (mn (mn (a.lo.q * b.lo.q) (a.lo.q * b.hi.q)) (a.hi.q * b.lo.q)) (a.hi.q * b.hi.q) := rfl
  rw [e]
  exact ⟨Rat.le_trans (mn_le_left _ _) (Rat.le_trans (mn_le_left _ _) (mn_le_left _ _)), Rat.le_trans (mn_le_left _ _) (Rat.le_trans (mn_le_left _ _) (mn_le_right _ _)), Rat.le_trans (mn_le_left _ _) (mn_le_right _ _), mn_le_right _ _⟩

/-- a product of numbers of two balls lies in the balls' product -/
theorem mul_holds (a b : BB) {x y : Rat} (h1 : a.lo.q ≤ x) (h2 : x ≤ a.hi.q) (h3 : b.lo.q ≤ y) (h4 : y ≤ b.hi.q) : mulLo a b ≤ x * y ∧ x * y ≤ mulHi a b := by
  obtain ⟨u1, u2, u3, u4⟩ := mulHi_ge a b
  obtain ⟨l1, l2, l3, l4⟩ := mulLo_le a b
  constructor
  · rw [Rat.mul_comm]
    refine le_mul_of_between h1 h2 ?_ ?_
    · rw [Rat.mul_comm]; exact le_mul_of_between h3 h4 l1 l2
    · rw [Rat.mul_comm]; exact le_mul_of_between h3 h4 l3 l4
  · rw [Rat.mul_comm]
    refine mul_le_of_between h1 h2 ?_ ?_
    · rw [Rat.mul_comm]; exact mul_le_of_between h3 h4 u1 u2
    · rw [Rat.mul_comm]; exact mul_le_of_between h3 h4 u3 u4

theorem mul_point (x y : Rat) : mulLo (bb x x) (bb y y) = x * y ∧ mulHi (bb x x) (bb y y) = x * y := by
  have e1 : mulLo (bb x x) (bb y y) = mn (mn (mn ((cr x).q * (cr y).q) ((cr x).q * (cr y).q)) ((cr x).q * (cr y).q)) ((cr x).q * (cr y).q) := rfl
  have e2 : mulHi (bb x x) (bb y y) = mx (mx (mx ((cr x).q * (cr y).q) ((cr x).q * (cr y).q)) ((cr x).q * (cr y).q)) ((cr x).q * (cr y).q) := rfl
  rw [e1, e2, cr_q, cr_q]
  simp only [mn_left Rat.le_refl, mx_left Rat.le_refl, and_self]

/-! quotients -/

theorem inv_anti {x y : Rat} (hx : 0 < x) (h : x ≤ y) : y⁻¹ ≤ x⁻¹ := by
  have hy : 0 < y := by grind
  have e1 : y⁻¹ = y⁻¹ * (x * x⁻¹) := by rw [Rat.mul_inv_cancel x (Rat.ne_of_gt hx), Rat.mul_one]
  have e2 : x⁻¹ = y⁻¹ * (y * x⁻¹) := by rw [← Rat.mul_assoc, Rat.inv_mul_cancel y (Rat.ne_of_gt hy), Rat.one_mul]
  have h1 := Rat.mul_le_mul_of_nonneg_right h (Rat.le_of_lt (Rat.inv_pos.2 hx))
  have h2 := Rat.mul_le_mul_of_nonneg_left h1 (Rat.le_of_lt (Rat.inv_pos.2 hy))
  rwa [← e1, ← e2] at h2
theorem neg_inv' (x : Rat) : (-x)⁻¹ = -x⁻¹ := by
  by_cases h : x = 0
  · subst h; rw [Rat.neg_zero, Rat.inv_zero, Rat.neg_zero]
  · refine Rat.inv_eq_of_mul_eq_one ?_
    rw [Rat.neg_mul, Rat.mul_neg, Rat.neg_neg, Rat.mul_inv_cancel x h]
theorem inv_anti_neg {x y : Rat} (hy : y < 0) (h : x ≤ y) : y⁻¹ ≤ x⁻¹ := by
  have h0 : 0 < -y := by have := Rat.neg_lt_neg hy; rwa [Rat.neg_zero] at this
  have := inv_anti h0 (Rat.neg_le_neg h)
  rw [neg_inv', neg_inv'] at this
  exact Rat.neg_le_neg_iff.1 this

theorem zeroIn_false {b : BB} (h : zeroIn b = false) : 0 < b.lo.q ∨ b.hi.q < 0 := by
  unfold zeroIn hasB at h
  rw [Bool.and_eq_false_iff, decide_eq_false_iff_not, decide_eq_false_iff_not, Rat.not_le, Rat.not_le] at h
  exact h

theorem one_div (x : Rat) : 1 / x = x⁻¹ := by rw [Rat.div_def, Rat.one_mul]

theorem div_holds (a b : BB) {x y : Rat} (h0 : zeroIn b = false) (h1 : a.lo.q ≤ x) (h2 : x ≤ a.hi.q) (h3 : b.lo.q ≤ y) (h4 : y ≤ b.hi.q) : y ≠ 0 ∧ divLo a b ≤ x / y ∧ x / y ≤ divHi a b := by
  have hb := zeroIn_false h0
  have hy : y ≠ 0 := by
    rcases hb with hb | hb
    · exact Rat.ne_of_gt (show 0 < y by grind)
    · exact Rat.ne_of_lt (show y < 0 by grind)
  have hi : b.hi.q⁻¹ ≤ y⁻¹ ∧ y⁻¹ ≤ b.lo.q⁻¹ := by
    rcases hb with hb | hb
    · exact ⟨inv_anti (show 0 < y by grind) h4, inv_anti hb h3⟩
    · exact ⟨inv_anti_neg hb h4, inv_anti_neg (show y < 0 by grind) h3⟩
  refine ⟨hy, ?_⟩
  unfold divLo divHi
  rw [h0, if_neg (by simp), if_neg (by simp), Rat.div_def]
  refine mul_holds a (invB b) h1 h2 ?_ ?_
  · show (cr (1 / b.hi.q)).q ≤ _; rw [cr_q, one_div]; exact hi.1
  · show _ ≤ (cr (1 / b.lo.q)).q; rw [cr_q, one_div]; exact hi.2

/-! squares -/

theorem sqq_mono {a b : Rat} (h0 : 0 ≤ a) (h : a ≤ b) : a * a ≤ b * b :=
  Rat.le_trans (Rat.mul_le_mul_of_nonneg_left h h0) (Rat.mul_le_mul_of_nonneg_right h (Rat.le_trans h0 h))
theorem neg_sq (x : Rat) : -x * -x = x * x := by rw [Rat.neg_mul, Rat.mul_neg, Rat.neg_neg]
theorem pow_holds {l h x : Rat} (h1 : l ≤ x) (h2 : x ≤ h) : powLo l h 2 ≤ x * x ∧ x * x ≤ powHi l h 2 := by
  have e1 : powLo l h 2 = absLo l h * absLo l h := by unfold powLo; rw [if_neg (by omega), if_pos rfl, qpow_two]
  have e2 : powHi l h 2 = absHi l h * absHi l h := by unfold powHi; rw [if_neg (by omega), if_pos rfl, qpow_two]
  rw [e1, e2]
  unfold absLo absHi
  by_cases c1 : 0 ≤ l
  · rw [if_pos c1, if_pos c1]
    exact ⟨sqq_mono c1 h1, sqq_mono (Rat.le_trans c1 h1) h2⟩
  · rw [if_neg c1, if_neg c1]
    by_cases c2 : h ≤ 0
    · rw [if_pos c2, if_pos c2]
      rw [← neg_sq x]
      exact ⟨sqq_mono (neg_nonneg' c2) (Rat.neg_le_neg h2), sqq_mono (neg_nonneg' (Rat.le_trans h2 c2)) (Rat.neg_le_neg h1)⟩
    · rw [if_neg c2, if_neg c2]
      refine ⟨by rw [Rat.zero_mul]; exact sq_nonneg x, ?_⟩
      rcases Rat.le_total (a := 0) (b := x) with hx | hx
      · exact sqq_mono hx (Rat.le_trans h2 (le_mx_right _ _))
      · rw [← neg_sq x]
        exact sqq_mono (neg_nonneg' hx) (Rat.le_trans (Rat.neg_le_neg h1) (le_mx_left _ _))

/-! fewer digits -/

theorem twoP_unitP (h : Nat) : twoP h * unitP h = 1 := by
  unfold twoP unitP
  have hp : 0 < 2 ^ h := Nat.pow_pos (by omega)
  rw [qv_mul, bne_self_eq_false, Nat.mul_one, Nat.one_mul]
  have e : qv false 1 1 = 1 := by decide +kernel
  rw [← e]
  exact Rat.le_antisymm ((qv_le hp (by omega)).2 (by omega)) ((qv_le (by omega) hp).2 (by omega))
theorem unitP_nonneg (h : Nat) : 0 ≤ unitP h := qv_nonneg _ _
theorem twoP_nonneg (h : Nat) : 0 ≤ twoP h := qv_nonneg _ _
theorem unitP_pos (h : Nat) : 0 < unitP h := by
  refine Rat.lt_of_le_of_ne (unitP_nonneg h) fun e => ?_
  have := twoP_unitP h
  rw [← e, Rat.mul_zero] at this
  exact absurd this (by decide +kernel)
theorem scale_back (x : Rat) (h : Nat) : x * twoP h * unitP h = x := by rw [Rat.mul_assoc, twoP_unitP, Rat.mul_one]
theorem back_scale (x : Rat) (h : Nat) : x * unitP h * twoP h = x := by rw [Rat.mul_assoc, Rat.mul_comm (unitP h), twoP_unitP, Rat.mul_one]

theorem dn_le (x : Rat) (h : Nat) : dn x h ≤ x := by
  have h1 := Rat.mul_le_mul_of_nonneg_right (Rat.floor_le (x * twoP h)) (unitP_nonneg h)
  rwa [scale_back] at h1
theorem lt_dn (x : Rat) (h : Nat) : x < dn x h + unitP h := by
  have h1 := Rat.mul_lt_mul_of_pos_right (Rat.lt_floor_add_one (x * twoP h)) (unitP_pos h)
  rw [scale_back, Rat.intCast_add, Rat.intCast_one, Rat.add_mul, Rat.one_mul] at h1
  exact h1
theorem dn_dn (x : Rat) (h : Nat) : dn (dn x h) h = dn x h := by
  show (((((x * twoP h).floor : Rat) * unitP h) * twoP h).floor : Rat) * unitP h = _
  rw [back_scale, Rat.floor_intCast]
  rfl
theorem up_dn (x : Rat) (h : Nat) : up (dn x h) h = dn x h := by
  show -((((-(((x * twoP h).floor : Rat) * unitP h)) * twoP h).floor : Rat) * unitP h) = _
  rw [Rat.neg_mul, back_scale, ← Rat.intCast_neg, Rat.floor_intCast, Rat.intCast_neg, Rat.neg_mul, Rat.neg_neg]
  rfl
theorem le_up (x : Rat) (h : Nat) : x ≤ up x h := by
  have := Rat.neg_le_neg (dn_le (-x) h)
  rwa [Rat.neg_neg] at this
theorem up_lt (x : Rat) (h : Nat) : up x h - unitP h < x := by
  have := Rat.neg_lt_neg (lt_dn (-x) h)
  rwa [Rat.neg_neg, Rat.neg_add, ← Rat.sub_eq_add_neg] at this
theorem up_up (x : Rat) (h : Nat) : up (up x h) h = up x h := by
  unfold up
  rw [Rat.neg_neg, dn_dn]

theorem trim_width (l x : Rat) (h : Nat) : up x h - dn l h ≤ x - l + unitP h * ((2 : Int) : Rat) := by
  have h1 := up_lt x h
  have h2 := lt_dn l h
  have e : ((2 : Int) : Rat) = 1 + 1 := by decide +kernel
  rw [e, Rat.mul_add, Rat.mul_one]
  generalize unitP h = u at *
  generalize up x h = a at *
  generalize dn l h = b at *
  grind

/-! numbers along -/

theorem along_in {l h f : Rat} (h0 : l ≤ h) (h1 : 0 ≤ f) (h2 : f ≤ 1) : l ≤ l + f * (h - l) ∧ l + f * (h - l) ≤ h := by
  have k : 0 ≤ h - l := by grind
  have k1 := Rat.mul_nonneg h1 k
  have k2 := Rat.mul_le_mul_of_nonneg_right h2 k
  rw [Rat.one_mul] at k2
  constructor <;> grind

/-! sides -/

theorem side_turn (a b : BB) (ha : a.lo.q ≤ a.hi.q) (hb : b.lo.q ≤ b.hi.q) : sideI a b = -sideI b a := by
  unfold sideI
  by_cases c1 : a.hi.q < b.lo.q
  · have c2 : ¬ b.hi.q < a.lo.q := by grind
    rw [if_pos c1, if_neg c2, if_pos c1]
  · rw [if_neg c1]
    by_cases c2 : b.hi.q < a.lo.q
    · rw [if_pos c2, if_pos c2]; rfl
    · rw [if_neg c2, if_neg c2, if_neg c1]; rfl
theorem side_zero {a b : BB} : sideI a b = 0 ↔ b.lo.q ≤ a.hi.q ∧ a.lo.q ≤ b.hi.q := by
  unfold sideI
  by_cases c1 : a.hi.q < b.lo.q
  · rw [if_pos c1]
    exact ⟨fun h => by omega, fun h => absurd h.1 (Rat.not_le.2 c1)⟩
  · rw [if_neg c1]
    by_cases c2 : b.hi.q < a.lo.q
    · rw [if_pos c2]
      exact ⟨fun h => by omega, fun h => absurd h.2 (Rat.not_le.2 c2)⟩
    · rw [if_neg c2]
      exact ⟨fun _ => ⟨Rat.not_lt.1 c1, Rat.not_lt.1 c2⟩, fun _ => rfl⟩
/-- the greater lower end is above the lesser upper one just if the balls are apart -/
theorem meet_apart {a b : BB} (ha : a.lo.q ≤ a.hi.q) (hb : b.lo.q ≤ b.hi.q) : mn a.hi.q b.hi.q < mx a.lo.q b.lo.q ↔ ¬ sideI a b = 0 := by
  rw [side_zero, ← Rat.not_le]
  refine not_congr ⟨fun h => ⟨Rat.le_trans (le_mx_right _ _) (Rat.le_trans h (mn_le_left _ _)), Rat.le_trans (le_mx_left _ _) (Rat.le_trans h (mn_le_right _ _))⟩, fun h => ?_⟩
  exact mx_le (le_mn ha h.2) (le_mn h.1 hb)

end Go.Proofs.YtjfaefgabaimaaaGreat

namespace Go.Proofs.YtjfaefgabaimaaaGreat
open Go.RowKit

theorem ng_mul {x y : Rat} (hx : ng x = false) (hy : ng y = false) : ng (x * y) = false := ng_iff.2 (Rat.mul_nonneg (ng_iff.1 hx) (ng_iff.1 hy))
theorem mul_sq (a b : Rat) : a * b * (a * b) = a * a * (b * b) := by
  rw [Rat.mul_assoc, Rat.mul_assoc, ← Rat.mul_assoc b a b, Rat.mul_comm b a, Rat.mul_assoc a b b]

theorem mul_mono {a b c d : Rat} (ha : 0 ≤ a) (hd : 0 ≤ d) (h1 : a ≤ c) (h2 : b ≤ d) : a * b ≤ c * d :=
  Rat.le_trans (Rat.mul_le_mul_of_nonneg_left h2 ha) (Rat.mul_le_mul_of_nonneg_right h1 hd)

theorem root_mul_lo {x y : Rat} (hx : ng x = false) (hy : ng y = false) (p : Int) : sqLo x p * sqLo y p ≤ sqHi (x * y) p := by
  refine sq_le_sq (Rat.mul_nonneg (sqLo_nonneg _ _) (sqLo_nonneg _ _)) (sqHi_nonneg _ _) ?_
  refine Rat.le_trans ?_ (le_sqHi_sq (ng_mul hx hy) p)
  rw [mul_sq]
  exact mul_mono (Rat.mul_nonneg (sqLo_nonneg _ _) (sqLo_nonneg _ _)) (ng_iff.1 hy) (sqLo_sq_le hx p) (sqLo_sq_le hy p)
theorem root_mul_hi {x y : Rat} (hx : ng x = false) (hy : ng y = false) (p : Int) : sqLo (x * y) p ≤ sqHi x p * sqHi y p := by
  refine sq_le_sq (sqLo_nonneg _ _) (Rat.mul_nonneg (sqHi_nonneg _ _) (sqHi_nonneg _ _)) ?_
  refine Rat.le_trans (sqLo_sq_le (ng_mul hx hy) p) ?_
  rw [mul_sq]
  exact mul_mono (ng_iff.1 hx) (Rat.mul_nonneg (sqHi_nonneg _ _) (sqHi_nonneg _ _)) (le_sqHi_sq hx p) (le_sqHi_sq hy p)

theorem root_muls {x y : Rat} (hx : ng x = false) (hy : ng y = false) (p : Int) :
    sideI (bb (mulLo (bb (sqLo x p) (sqHi x p)) (bb (sqLo y p) (sqHi y p))) (mulHi (bb (sqLo x p) (sqHi x p)) (bb (sqLo y p) (sqHi y p)))) (bb (sqLo (x * y) p) (sqHi (x * y) p)) = 0 := by
  rw [side_zero]
  have h1 := (mulHi_ge (bb (sqLo x p) (sqHi x p)) (bb (sqLo y p) (sqHi y p))).2.2.2
  have h2 := (mulLo_le (bb (sqLo x p) (sqHi x p)) (bb (sqLo y p) (sqHi y p))).1
  simp only [bb, cr_q] at h1 h2 ⊢
  exact ⟨Rat.le_trans (root_mul_hi hx hy p) h1, Rat.le_trans h2 (root_mul_lo hx hy p)⟩

theorem qv_split (n m : Nat) : qv false n m = (n : Rat) * qv false 1 m := by
  have h : qv false n 1 = (n : Rat) := by
    rw [qv_one]
    show (((n : Int)) : Rat) = _
    exact Rat.intCast_natCast n
  rw [← h, qv_mul, Nat.mul_one, Nat.one_mul, bne_self_eq_false]

theorem root_width {q : Rat} (h : ng q = false) {p : Int} (h0 : 0 ≤ p) (h1 : p ≤ 512) : sqHi q p - sqLo q p ≤ qv false 1 (2 ^ p.toNat) := by
  have hp : hold p = p.toNat := by unfold hold; omega
  unfold sqHi sqLo
  rw [h]
  simp only [Bool.false_eq_true, if_false]
  split
  · rw [Rat.sub_self]; exact qv_nonneg _ _
  · rw [qv_split (sqI q p + 1), qv_split (sqI q p), hp, Rat.natCast_add]
    generalize qv false 1 (2 ^ p.toNat) = u
    have e : ((1 : Nat) : Rat) = 1 := rfl
    rw [e]
    generalize ((sqI q p : Nat) : Rat) = n
    grind

end Go.Proofs.YtjfaefgabaimaaaGreat
