/- Pi and any tangent's angle as the program reckons them; their directions; how large they are. Conditions: w from 64 digits on, below 2^36. The two whole numbers that hold an angle: they are found, there are only two such; what follows of pi and of any tangents' angles. Condition: at most 200 bits are asked. The greater tangent's angle is not below; an angle and that of 1 by its tangent are a quarter turn together. No condition but that the parts are above 0. -/
import Derived.Test.YtifnpelkoklcnaaPg
set_option linter.unusedSimpArgs false
set_option linter.unusedVariables false
namespace Go.Proofs.Ytifnpelkoklcnaa.P

open GQ

def gSp (n d w : Nat) : Sp := gR (spOf (n * n) (n * n + d * d) w) (spOf (n * d) (n * n + d * d) w) w
def piSp (w : Nat) : Sp := spSub (spTimes (gSp 1 5 w) 16 1) (spTimes (gSp 1 239 w) 4 1)
def wSp (n d w : Nat) : Sp := if n ≤ d then gSp n d w else spSub (spTimes (piSp w) 1 2) (gSp d n w)
def vR (n d : Nat) : Rat := ((n * d : Nat) : Rat) * (1 / ((n * n + d * d : Nat) : Rat))
def uR (n d : Nat) : Rat := ((n * n : Nat) : Rat) * (1 / ((n * n + d * d : Nat) : Rat))
def aS (n d N : Nat) : Rat := AS (vR n d) (uR n d) N
def piS (N : Nat) : Rat := 16 * aS 1 5 N - 4 * aS 1 239 N
def wS (n d N : Nat) : Rat := if n ≤ d then aS n d N else piS N / 2 - aS d n N
def wW (n d : Nat) : GQ := if n ≤ d then dirW (vR n d) (uR n d) else -cj (dirW (vR d n) (uR d n))
theorem two_mul_le (n d : Nat) : 2 * (n * d) ≤ n * n + d * d := by
  have key : ∀ a b : Nat, a ≤ b → 2 * (a * b) ≤ a * a + b * b := by
    intro a b h
    obtain ⟨c, rfl⟩ : ∃ c, b = a + c := ⟨b - a, by omega⟩
    rw [Nat.mul_add a a c, Nat.add_mul a c (a + c), Nat.mul_add a a c, Nat.mul_add c a c, Nat.mul_comm c a]
    have := Nat.zero_le (c * c)
    omega
  rcases Nat.le_total n d with h | h
  · exact key n d h
  · have := key d n h
    rw [Nat.mul_comm n d]
    omega
theorem sum_pos {n d : Nat} (hd : 0 < d) : 0 < n * n + d * d := by have := Nat.mul_pos hd hd; omega
theorem vR_mul {n d : Nat} (hd : 0 < d) : vR n d * ((n * n + d * d : Nat) : Rat) = ((n * d : Nat) : Rat) := by
  unfold vR; rw [Rat.mul_assoc, one_div_mul (nat_pos (sum_pos hd)), Rat.mul_one]
theorem uR_mul {n d : Nat} (hd : 0 < d) : uR n d * ((n * n + d * d : Nat) : Rat) = ((n * n : Nat) : Rat) := by
  unfold uR; rw [Rat.mul_assoc, one_div_mul (nat_pos (sum_pos hd)), Rat.mul_one]
theorem half_of {x : Rat} {a s : Nat} (hs : 0 < s) (h : x * ((s : Nat) : Rat) = ((a : Nat) : Rat)) (h2 : 2 * a ≤ s) : 0 ≤ x ∧ x ≤ 1 / 2 := by
  have hsq := nat_pos hs
  have h3 : ((2 * a : Nat) : Rat) ≤ ((s : Nat) : Rat) := by rw [Rat.natCast_le_natCast]; exact h2
  rw [Rat.natCast_mul, show ((2 : Nat) : Rat) = 2 from rfl] at h3
  constructor
  · refine Rat.le_of_mul_le_mul_right (c := ((s : Nat) : Rat)) ?_ hsq
    rw [h, Rat.zero_mul]; exact nat_nn a
  · refine Rat.le_of_mul_le_mul_right (c := ((s : Nat) : Rat)) ?_ hsq
    rw [h]; grind
theorem uv_half {n d : Nat} (hd : 0 < d) (hn : n ≤ d) : (0 ≤ vR n d ∧ vR n d ≤ 1 / 2) ∧ 0 ≤ uR n d ∧ uR n d ≤ 1 / 2 := by
  have h1 := Nat.mul_le_mul hn hn
  exact ⟨half_of (sum_pos hd) (vR_mul hd) (two_mul_le n d), half_of (sum_pos hd) (uR_mul hd) (by omega)⟩
theorem half_span {a s w : Nat} (hs : 0 < s) (h : 2 * a ≤ s) : 2 * (spOf a s w).2 ≤ 2 ^ w + 2 := by
  show 2 * (a * 2 ^ w / s + 1) ≤ 2 ^ w + 2
  have : a * 2 ^ w / s ≤ 2 ^ w / 2 := by
    rw [Nat.le_div_iff_mul_le (by omega)]
    have a1 : a * 2 ^ w / s * s ≤ a * 2 ^ w := Nat.div_mul_le_self _ _
    have a2 : a * 2 ^ w * 2 ≤ 2 ^ w * s := by
      rw [show a * 2 ^ w * 2 = 2 ^ w * (2 * a) by rw [Nat.mul_comm a, Nat.mul_assoc, Nat.mul_comm a]]
      exact Nat.mul_le_mul_left _ h
    refine Nat.le_of_mul_le_mul_right (c := s) ?_ hs
    rw [Nat.mul_right_comm]
    omega
  omega
theorem gok {n d w : Nat} (hd : 0 < d) (hn : n ≤ d) (hw : 64 ≤ w) : Gok (spOf (n * n) (n * n + d * d) w) (spOf (n * d) (n * n + d * d) w) w := by
  have h1 := Nat.mul_le_mul hn hn
  exact ⟨hw, half_span (sum_pos hd) (by omega), rfl, half_span (sum_pos hd) (two_mul_le n d), rfl⟩
theorem gSp_in {n d w : Nat} (hd : 0 < d) (hn : n ≤ d) (hw : 64 ≤ w) : (Ev fun N => Cn w (gSp n d w) (aS n d N)) ∧ (gSp n d w).2 ≤ (gSp n d w).1 + (12 * (w + 2) + 8) :=
  ⟨⟨_, gR_in (cn_of (sum_pos hd) (uR_mul hd) w) (cn_of (sum_pos hd) (vR_mul hd) w) (uv_half hd hn).2.2 (gok hd hn hw)⟩, (gR_width (gok hd hn hw)).2⟩
theorem aS_bd {n d M N : Nat} (hd : 0 < d) (hn : n ≤ d) (h : M ≤ N) : aS n d M ≤ aS n d N ∧ aS n d N ≤ aS n d M + 2 * (cA M * (vR n d * rp (uR n d) M)) := by
  obtain ⟨⟨h1, h2⟩, h3, h4⟩ := uv_half hd hn
  obtain ⟨r, rfl⟩ : ∃ r, N = M + r := ⟨N - M, by omega⟩
  have h5 := AS_rest h1 h3 h4 M r
  have h6 := Rat.mul_nonneg (Rat.le_of_lt (cA_le (M + r)).1) (Rat.mul_nonneg h1 (rp_nn h3 (M + r)))
  exact ⟨AS_mono h1 h3 M r, by unfold aS; grind⟩
theorem aS_le {n d : Nat} (hd : 0 < d) (hn : n ≤ d) (N : Nat) : 0 ≤ aS n d N ∧ aS n d N ≤ 1 := by
  obtain ⟨⟨h1, h2⟩, h3, h4⟩ := uv_half hd hn
  exact AS_le h1 h2 h3 h4 N
theorem pi_bd {N : Nat} (h : 2 ≤ N) : 31 / 10 ≤ piS N ∧ piS N ≤ 32 / 10 := by
  obtain ⟨a1, a2⟩ := aS_bd (n := 1) (d := 5) (M := 2) (by omega) (by omega) h
  obtain ⟨b1, b2⟩ := aS_bd (n := 1) (d := 239) (M := 2) (by omega) (by omega) h
  have c1 : (31 : Rat) / 10 ≤ 16 * aS 1 5 2 - 4 * (aS 1 239 2 + 2 * (cA 2 * (vR 1 239 * rp (uR 1 239) 2))) := by decide +kernel
  have c2 : 16 * (aS 1 5 2 + 2 * (cA 2 * (vR 1 5 * rp (uR 1 5) 2))) - 4 * aS 1 239 2 ≤ (32 : Rat) / 10 := by decide +kernel
  unfold piS
  generalize 2 * (cA 2 * (vR 1 239 * rp (uR 1 239) 2)) = e1 at *
  generalize 2 * (cA 2 * (vR 1 5 * rp (uR 1 5) 2)) = e2 at *
  constructor <;> grind
theorem one_bd {N : Nat} (h : 4 ≤ N) : 76 / 100 ≤ aS 1 1 N ∧ aS 1 1 N ≤ 79 / 100 := by
  obtain ⟨a1, a2⟩ := aS_bd (n := 1) (d := 1) (M := 4) (by omega) (by omega) h
  have c1 : (76 : Rat) / 100 ≤ aS 1 1 4 := by decide +kernel
  have c2 : aS 1 1 4 + 2 * (cA 4 * (vR 1 1 * rp (uR 1 1) 4)) ≤ (79 : Rat) / 100 := by decide +kernel
  exact ⟨Rat.le_trans c1 a1, Rat.le_trans a2 c2⟩
theorem both_bd {N : Nat} (h : 4 ≤ N) : 77 / 100 ≤ aS 1 2 N + aS 1 3 N ∧ aS 1 2 N + aS 1 3 N ≤ 80 / 100 := by
  obtain ⟨a1, a2⟩ := aS_bd (n := 1) (d := 2) (M := 4) (by omega) (by omega) h
  obtain ⟨b1, b2⟩ := aS_bd (n := 1) (d := 3) (M := 4) (by omega) (by omega) h
  have c1 : (77 : Rat) / 100 ≤ aS 1 2 4 + aS 1 3 4 := by decide +kernel
  have c2 : aS 1 2 4 + 2 * (cA 4 * (vR 1 2 * rp (uR 1 2) 4)) + (aS 1 3 4 + 2 * (cA 4 * (vR 1 3 * rp (uR 1 3) 4))) ≤ (80 : Rat) / 100 := by decide +kernel
  constructor
  · exact Rat.le_trans c1 (by grind)
  · refine Rat.le_trans ?_ c2
    generalize 2 * (cA 4 * (vR 1 2 * rp (uR 1 2) 4)) = e1 at *
    generalize 2 * (cA 4 * (vR 1 3 * rp (uR 1 3) 4)) = e2 at *
    grind

/-! directions -/

theorem aS_TC {n d : Nat} (hd : 0 < d) (hn : n ≤ d) : TC (fun N => 2 * aS n d N) (dirW (vR n d) (uR n d)) := by
  have hdq := nat_pos hd
  have hid := one_div_mul hdq
  have hS := nat_pos (sum_pos (n := n) hd)
  have hiS := one_div_mul hS
  have hx0 : 0 ≤ ((n : Nat) : Rat) * (1 / ((d : Nat) : Rat)) := Rat.mul_nonneg (nat_nn n) (Rat.le_of_lt (inv_pos' hdq))
  have hxd : ((n : Nat) : Rat) * (1 / ((d : Nat) : Rat)) * ((d : Nat) : Rat) = ((n : Nat) : Rat) := by rw [Rat.mul_assoc, hid, Rat.mul_one]
  generalize ((n : Nat) : Rat) * (1 / ((d : Nat) : Rat)) = x at *
  have hx1 : x ≤ 1 := by
    refine Rat.le_of_mul_le_mul_right (c := ((d : Nat) : Rat)) ?_ hdq
    rw [hxd, Rat.one_mul, Rat.natCast_le_natCast]; exact hn
  have eS : ((n * n + d * d : Nat) : Rat) = (x * x + 1) * (((d : Nat) : Rat) * ((d : Nat) : Rat)) := by
    rw [Rat.natCast_add, Rat.natCast_mul, Rat.natCast_mul, ← hxd]; grind
  have hr : (1 + x * x) * (((d : Nat) : Rat) * ((d : Nat) : Rat) * (1 / ((n * n + d * d : Nat) : Rat))) = 1 := by
    have : (1 + x * x) * (((d : Nat) : Rat) * ((d : Nat) : Rat) * (1 / ((n * n + d * d : Nat) : Rat))) = 1 / ((n * n + d * d : Nat) : Rat) * ((x * x + 1) * (((d : Nat) : Rat) * ((d : Nat) : Rat))) := by grind
    rw [this, ← eS]; exact hiS
  have h := at_to hx0 hx1 hr
  have e1 : x * (((d : Nat) : Rat) * ((d : Nat) : Rat) * (1 / ((n * n + d * d : Nat) : Rat))) = vR n d := by
    unfold vR; rw [Rat.natCast_mul, ← hxd]; grind
  have e2 : x * x * (((d : Nat) : Rat) * ((d : Nat) : Rat) * (1 / ((n * n + d * d : Nat) : Rat))) = uR n d := by
    unfold uR; rw [Rat.natCast_mul, ← hxd]; grind
  rw [e1, e2] at h
  exact h
theorem pi_TC : TC piS (-1) := by
  have h5 := (aS_TC (n := 1) (d := 5) (by omega) (by omega)).times 8
  have h239 := ((aS_TC (n := 1) (d := 239) (by omega) (by omega)).neg).times 2
  have h := (h5.add h239).congr (s' := piS) fun N => by
    rw [show ((8 : Nat) : Rat) = 8 from rfl, show ((2 : Nat) : Rat) = 2 from rfl]; unfold piS; grind
  have e : pw (dirW (vR 1 5) (uR 1 5)) 8 * pw (cj (dirW (vR 1 239) (uR 1 239))) 2 = -1 := by
    apply GQ.ext' <;> decide +kernel
  rw [e] at h
  exact h
theorem wS_TC {n d : Nat} (hn0 : 0 < n) (hd : 0 < d) : TC (fun N => 2 * wS n d N) (wW n d) := by
  unfold wS wW
  by_cases h : n ≤ d
  · simp only [if_pos h]
    exact aS_TC hd h
  · simp only [if_neg h]
    have h1 := pi_TC.add (aS_TC (n := d) (d := n) hn0 (by omega)).neg
    have e : (-1 : GQ) * cj (dirW (vR d n) (uR d n)) = -cj (dirW (vR d n) (uR d n)) := by rw [gneg_mul, gone_mul]
    rw [e] at h1
    exact h1.congr fun N => by grind
theorem dir_one {n d : Nat} (hd : 0 < d) : dirW (vR n d) (uR n d) * cj (dirW (vR n d) (uR n d)) = 1 := by
  have hS := nat_pos (sum_pos (n := n) hd)
  have h1 := vR_mul (n := n) hd
  have h2 := uR_mul (n := n) hd
  have e : ((n * n + d * d : Nat) : Rat) = ((n : Nat) : Rat) * ((n : Nat) : Rat) + ((d : Nat) : Rat) * ((d : Nat) : Rat) := by rw [Rat.natCast_add, Rat.natCast_mul, Rat.natCast_mul]
  rw [e] at h1 h2 hS
  rw [Rat.natCast_mul] at h1 h2
  have key : vR n d * vR n d = uR n d * (1 - uR n d) := by
    generalize vR n d = v at *
    generalize uR n d = u at *
    generalize ((n : Nat) : Rat) = a at *
    generalize ((d : Nat) : Rat) = b at *
    have hss := Rat.mul_pos hS hS
    have l : v * v * ((a * a + b * b) * (a * a + b * b)) = (v * (a * a + b * b)) * (v * (a * a + b * b)) := by grind
    have r : u * (1 - u) * ((a * a + b * b) * (a * a + b * b)) = (u * (a * a + b * b)) * ((a * a + b * b) - u * (a * a + b * b)) := by grind
    rw [h1] at l
    rw [h2] at r
    have lr : v * v * ((a * a + b * b) * (a * a + b * b)) = u * (1 - u) * ((a * a + b * b) * (a * a + b * b)) := by rw [l, r]; grind
    exact Rat.le_antisymm (Rat.le_of_mul_le_mul_right (show _ ≤ _ by rw [lr]; exact Rat.le_refl) hss) (Rat.le_of_mul_le_mul_right (show _ ≤ _ by rw [lr]; exact Rat.le_refl) hss)
  unfold dirW
  generalize vR n d = v at *
  generalize uR n d = u at *
  apply GQ.ext' <;> simp only [cj, mul_re, mul_im, one_re, one_im] <;> grind
theorem dir_den {n d : Nat} (hd : 0 < d) : Wh (gn (n * n + d * d) * cj (dirW (vR n d) (uR n d))) := by
  have h1 := vR_mul (n := n) hd
  have h2 := uR_mul (n := n) hd
  refine ⟨((n * n + d * d : Nat) : Int) - 2 * ((n * n : Nat) : Int), -(2 * ((n * d : Nat) : Int)), ?_⟩
  have e1 : ((((n * n + d * d : Nat) : Int) - 2 * ((n * n : Nat) : Int) : Int) : Rat) = ((n * n + d * d : Nat) : Rat) - 2 * ((n * n : Nat) : Rat) := by
    rw [Rat.intCast_sub, Rat.intCast_mul]; rfl
  have e2 : ((-(2 * ((n * d : Nat) : Int)) : Int) : Rat) = -(2 * ((n * d : Nat) : Rat)) := by
    rw [Rat.intCast_neg, Rat.intCast_mul]; rfl
  rw [e1, e2]
  unfold dirW
  generalize vR n d = v at *
  generalize uR n d = u at *
  generalize ((n * n : Nat) : Rat) = a at *
  generalize ((n * d : Nat) : Rat) = c at *
  unfold gn
  generalize ((n * n + d * d : Nat) : Rat) = s at *
  apply GQ.ext' <;> simp only [cj, mul_re, mul_im, q_re, q_im] <;> grind
theorem Wh.neg {x : GQ} (h : Wh x) : Wh (-x) := by
  rw [gneg_eq]; exact Wh.zero.sub h
theorem wW_ok {n d : Nat} (hn0 : 0 < n) (hd : 0 < d) (hn : n < 2 ^ 100) (hd2 : d < 2 ^ 100) : Wok (wW n d) := by
  have hk : n * n + d * d ≤ 2 ^ 250 := by
    have a1 : n * n ≤ 2 ^ 100 * 2 ^ 100 := Nat.mul_le_mul (Nat.le_of_lt hn) (Nat.le_of_lt hn)
    have a2 : d * d ≤ 2 ^ 100 * 2 ^ 100 := Nat.mul_le_mul (Nat.le_of_lt hd2) (Nat.le_of_lt hd2)
    have a3 : (2 : Nat) ^ 100 * 2 ^ 100 + 2 ^ 100 * 2 ^ 100 ≤ 2 ^ 250 := by decide
    omega
  unfold wW
  by_cases h : n ≤ d
  · rw [if_pos h]
    exact ⟨dir_one hd, _, sum_pos hd, hk, dir_den hd⟩
  · rw [if_neg h]
    have h1 := dir_one (n := d) hn0
    have h2 := dir_den (n := d) hn0
    generalize dirW (vR d n) (uR d n) = W at *
    have e1 : cj (-cj W) = -W := by apply GQ.ext' <;> simp only [cj, neg_re, neg_im] <;> grind
    refine ⟨?_, d * d + n * n, sum_pos hn0, by omega, ?_⟩
    · rw [e1]
      have e2 : -cj W * -W = W * cj W := by apply GQ.ext' <;> simp only [cj, neg_re, neg_im, mul_re, mul_im] <;> grind
      rw [e2]; exact h1
    · rw [e1]
      obtain ⟨u, v, huv⟩ := h2
      refine ⟨-u, v, ?_⟩
      have a1 := congrArg GQ.re huv
      have a2 := congrArg GQ.im huv
      simp only [cj, gn, mul_re, mul_im, q_re, q_im] at a1 a2
      rw [Rat.intCast_neg]
      unfold gn
      apply GQ.ext' <;> simp only [neg_re, neg_im, mul_re, mul_im, q_re, q_im] <;> grind
theorem pi_ok : Wok (-1 : GQ) := ⟨by apply GQ.ext' <;> decide +kernel, 1, by omega, by decide, by rw [show gn 1 = 1 from gn_one, gone_mul]; exact ⟨-1, 0, by apply GQ.ext' <;> decide +kernel⟩⟩

/-! the spans -/

/-- a way to reckon a sequence's end as nearly as is asked -/
def ANear (near : Nat → Sp) (s : Nat → Rat) : Prop := ∀ w, 64 ≤ w → w < 2 ^ 36 → (Ev fun N => Cn w (near w) (s N)) ∧ (near w).2 ≤ (near w).1 + 2 ^ 60
theorem piSp_in {w : Nat} (hw : 64 ≤ w) : (Ev fun N => Cn w (piSp w) (piS N)) ∧ (piSp w).2 ≤ (piSp w).1 + 40 * (12 * (w + 2) + 9) := by
  obtain ⟨a1, a2⟩ := gSp_in (n := 1) (d := 5) (w := w) (by omega) (by omega) hw
  obtain ⟨b1, b2⟩ := gSp_in (n := 1) (d := 239) (w := w) (by omega) (by omega) hw
  refine ⟨((a1.and b1).and ⟨2, fun N hN => hN⟩).imp fun N hN => ?_, ?_⟩
  · obtain ⟨⟨c1, c2⟩, h2⟩ := hN
    have d1 := cn_times (n := 16) (d := 1) (by omega) c1 (s := 16 * aS 1 5 N) (by rw [show ((1 : Nat) : Rat) = 1 from rfl, show ((16 : Nat) : Rat) = 16 from rfl]; grind)
    have d2 := cn_times (n := 4) (d := 1) (by omega) c2 (s := 4 * aS 1 239 N) (by rw [show ((1 : Nat) : Rat) = 1 from rfl, show ((4 : Nat) : Rat) = 4 from rfl]; grind)
    exact cn_sub d1 d2 (by have := (pi_bd h2).1; unfold piS at this; grind)
  · simp only [piSp, spSub, spTimes, Nat.div_one]
    omega
theorem wSp_near {n d : Nat} (hn0 : 0 < n) (hd : 0 < d) : ANear (wSp n d) (wS n d) := fun w hw hw2 => by
  unfold wSp wS
  have h60 : 100 * (12 * (2 ^ 36 + 2) + 9) + 20 ≤ 2 ^ 60 := by decide
  by_cases h : n ≤ d
  · simp only [if_pos h]
    obtain ⟨a1, a2⟩ := gSp_in hd h hw
    exact ⟨a1, by omega⟩
  · simp only [if_neg h]
    obtain ⟨a1, a2⟩ := gSp_in (n := d) (d := n) hn0 (by omega) hw
    obtain ⟨b1, b2⟩ := piSp_in hw
    refine ⟨((a1.and b1).and ⟨2, fun N hN => hN⟩).imp fun N hN => ?_, ?_⟩
    · obtain ⟨⟨c1, c2⟩, h2⟩ := hN
      have d1 := cn_times (n := 1) (d := 2) (by omega) c2 (s := piS N / 2) (by rw [show ((1 : Nat) : Rat) = 1 from rfl, show ((2 : Nat) : Rat) = 2 from rfl]; grind)
      exact cn_sub d1 c1 (by have := (pi_bd h2).1; have := (aS_le (n := d) (d := n) hn0 (by omega) N).2; grind)
    · simp only [spSub, spTimes, Nat.mul_one]
      omega
theorem piSp_near : ANear piSp piS := fun w hw hw2 => by
  obtain ⟨b1, b2⟩ := piSp_in hw
  have h60 : 100 * (12 * (2 ^ 36 + 2) + 9) + 20 ≤ 2 ^ 60 := by decide
  exact ⟨b1, Nat.le_trans b2 (Nat.add_le_add_left (Nat.le_trans (show 40 * (12 * (w + 2) + 9) ≤ 100 * (12 * (2 ^ 36 + 2) + 9) + 20 by omega) h60) _)⟩


/-- an angle: a sequence, of which k times has a direction -/
structure Ang (k : Nat) (s : Nat → Rat) (W : GQ) : Prop where
  tc : TC (fun N => ((k : Nat) : Rat) * s N) W
  ok : Wok W
  k1 : 1 ≤ k
  k2 : k ≤ 2
  pos : Ev fun N => 1 / rp 2 240 ≤ s N
  up : Ev fun N => s N ≤ 4
theorem pi_ang : Ang 1 piS (-1) := ⟨pi_TC.congr fun N => by rw [show ((1 : Nat) : Rat) = 1 from rfl, Rat.one_mul], pi_ok, by omega, by omega,
  ⟨2, fun N h => by have := (pi_bd h).1; have h2 : 1 / rp 2 240 ≤ 1 := by decide +kernel
                    grind⟩, ⟨2, fun N h => by have := (pi_bd h).2; grind⟩⟩
theorem vR_pos {n d : Nat} (hn0 : 0 < n) (hd : 0 < d) (hn : n < 2 ^ 100) (hd2 : d < 2 ^ 100) : 1 / rp 2 240 ≤ vR n d := by
  have hS := sum_pos (n := n) hd
  have h1 := vR_mul (n := n) hd
  have hSq := nat_pos hS
  have hk : n * n + d * d ≤ 2 ^ 240 := by
    have a1 : n * n ≤ 2 ^ 100 * 2 ^ 100 := Nat.mul_le_mul (Nat.le_of_lt hn) (Nat.le_of_lt hn)
    have a2 : d * d ≤ 2 ^ 100 * 2 ^ 100 := Nat.mul_le_mul (Nat.le_of_lt hd2) (Nat.le_of_lt hd2)
    have a3 : (2 : Nat) ^ 100 * 2 ^ 100 + 2 ^ 100 * 2 ^ 100 ≤ 2 ^ 240 := by decide
    omega
  have hkq : ((n * n + d * d : Nat) : Rat) ≤ rp 2 240 := by rw [rp2_nat, Rat.natCast_le_natCast]; exact hk
  have hnd : (1 : Rat) ≤ ((n * d : Nat) : Rat) := by
    rw [show (1 : Rat) = ((1 : Nat) : Rat) from rfl, Rat.natCast_le_natCast]; exact Nat.mul_pos hn0 hd
  have hi := inv_pos' (rp2_pos 240)
  have h2 := Rat.mul_le_mul_of_nonneg_left hkq (Rat.le_of_lt hi)
  rw [one_div_mul (rp2_pos 240)] at h2
  refine Rat.le_of_mul_le_mul_right (c := ((n * n + d * d : Nat) : Rat)) ?_ hSq
  rw [h1]
  exact Rat.le_trans h2 hnd
theorem w_ang {n d : Nat} (hn0 : 0 < n) (hd : 0 < d) (hn : n < 2 ^ 100) (hd2 : d < 2 ^ 100) : Ang 2 (wS n d) (wW n d) := by
  refine ⟨wS_TC hn0 hd, wW_ok hn0 hd hn hd2, by omega, by omega, ⟨2, fun N h => ?_⟩, ⟨2, fun N h => ?_⟩⟩
  · unfold wS
    split
    · rename_i h1
      obtain ⟨a1, _⟩ := aS_bd (n := n) (d := d) (M := 1) (N := N) hd h1 (by omega)
      refine Rat.le_trans (vR_pos hn0 hd hn hd2) (Rat.le_trans ?_ a1)
      show vR n d ≤ 0 + 1 * (vR n d * 1)
      grind
    · have := (pi_bd h).1
      have := (aS_le (n := d) (d := n) hn0 (by omega) N).2
      have h2 : 1 / rp 2 240 ≤ 1 / 10 := by decide +kernel
      grind
  · unfold wS
    split
    · rename_i h1
      have := (aS_le hd h1 N).2
      grind
    · have := (pi_bd h).2
      have := (aS_le (n := d) (d := n) hn0 (by omega) N).1
      grind
theorem far_ang {K2 K η x : Rat} (h : 1 ≤ K * (12 * x)) (hx : x ≤ 2 * η) (hK : 0 ≤ K) (h2 : K * 64 ≤ K2) (hη0 : 0 ≤ η) (hη : K2 * η ≤ 1 / 64) : False := by
  have a1 := Rat.mul_le_mul_of_nonneg_right h2 hη0
  have a2 := Rat.mul_le_mul_of_nonneg_left hx hK
  grind
/-- an angle is not near a whole number by 2 to the power p -/
theorem ang_far {k : Nat} {s : Nat → Rat} {W : GQ} {m p : Nat} {η : Rat} (h : Ang k s W) (hp : p ≤ 200) (hs : Ev fun N => ab (s N - fr m p) ≤ η) (hη : rp 2 (KE + 252) * η ≤ 1 / 64) : False := by
  have hη0 : 0 ≤ η := by
    obtain ⟨N, hN⟩ := hs.ex
    exact Rat.le_trans (ab_nn _) hN
  have hK1 : rp 2 252 ≤ rp 2 (KE + 252) := rp_mono (by decide) (by omega)
  have hbig : rp 2 252 * η ≤ 1 / 64 := Rat.le_trans (Rat.mul_le_mul_of_nonneg_right hK1 hη0) hη
  have hη1 : η ≤ 1 / 4 := by
    have h2 : (1 : Rat) ≤ rp 2 252 := rp_one_le (by decide) 252
    have := Rat.mul_le_mul_of_nonneg_right h2 hη0
    grind
  by_cases hm : fr m p = 0
  · obtain ⟨N, h1, h2⟩ := (hs.and h.pos).ex
    rw [hm] at h1
    have h3 := le_ab (s N - 0)
    have h4 : 1 / rp 2 240 ≤ η := by grind
    have h5 := Rat.mul_le_mul_of_nonneg_left h4 (Rat.le_of_lt (rp2_pos 252))
    have h6 : (1 : Rat) < rp 2 252 * (1 / rp 2 240) := by decide +kernel
    grind
  · obtain ⟨N, h1, h2⟩ := (hs.and h.up).ex
    have hf0 := fr_nn m p
    have hk : ((k : Nat) : Rat) ≤ 2 := by rw [show (2 : Rat) = ((2 : Nat) : Rat) from rfl, Rat.natCast_le_natCast]; exact h.k2
    have hk1 : (1 : Rat) ≤ ((k : Nat) : Rat) := by rw [show (1 : Rat) = ((1 : Nat) : Rat) from rfl, Rat.natCast_le_natCast]; exact h.k1
    have hf : fr m p ≤ 5 := by have := ab_le.1 h1; grind
    have hfk0 : 0 ≤ ((k : Nat) : Rat) * fr m p := Rat.mul_nonneg (nat_nn k) hf0
    have hfk : ((k : Nat) : Rat) * fr m p ≤ 2 * 5 := rmul_le hk hf hf0 (by decide)
    have hne : ((k : Nat) : Rat) * fr m p ≠ 0 := by
      intro e
      have := Rat.mul_le_mul_of_nonneg_right hk1 hf0
      have h0 : 0 < fr m p := by grind
      grind
    have h3 := at_far (s := fun N => ((k : Nat) : Rat) * s N) (c := ((k : Nat) : Rat) * fr m p) (η := ((k : Nat) : Rat) * η) (b := 2 ^ p) h.tc h.ok hne (by rw [ab_of hfk0]; grind) (pow_pos2 p) (Nat.pow_le_pow_right (by omega) hp) ⟨((k * m : Nat) : Int), by
      have := fr_whole m p
      have e : ((2 ^ p : Nat) : Rat) * (((k : Nat) : Rat) * fr m p) = ((k : Nat) : Rat) * (((2 ^ p : Nat) : Rat) * fr m p) := by grind
      rw [e, this]
      show ((k : Nat) : Rat) * ((m : Nat) : Rat) = ((k * m : Nat) : Rat)
      rw [Rat.natCast_mul]⟩ (by have := Rat.mul_le_mul_of_nonneg_right hk hη0; grind) (hs.imp fun N hN => by
      have e : ((k : Nat) : Rat) * s N - ((k : Nat) : Rat) * fr m p = ((k : Nat) : Rat) * (s N - fr m p) := by grind
      rw [e, ab_mul, ab_of (nat_nn k)]
      exact Rat.mul_le_mul_of_nonneg_left hN (nat_nn k))
    have h4 : rp 2 KE * 64 ≤ rp 2 (KE + 252) := by
      rw [rp_add]
      exact Rat.mul_le_mul_of_nonneg_left (by decide +kernel) (Rat.le_of_lt (rp2_pos KE))
    exact far_ang h3 (Rat.mul_le_mul_of_nonneg_right hk hη0) (Rat.le_of_lt (rp2_pos KE)) h4 hη0 hη
/-- the angle is between f and f + 1, by 2 to the power p -/
def IsA (s : Nat → Rat) (p f : Nat) : Prop := Ev fun N => fr f p ≤ s N ∧ s N ≤ fr (f + 1) p
theorem ang_ok {k : Nat} {s : Nat → Rat} {W : GQ} {a : Sp} {w p : Nat} (h : Ang k s W) (hc : Ev fun N => Cn w a (s N)) (hp : p ≤ 200) (hpw : p ≤ w) (hd : a.2 ≤ a.1 + 2 ^ 60) (hw : KE + 363 ≤ w) : okF a w p := by
  have hsp : a.1 ≤ a.2 := by obtain ⟨N, hN⟩ := hc.ex; exact hN.sp
  rcases Decidable.em (okF a w p) with h1 | h1
  · exact h1
  · exfalso
    obtain ⟨m, h3, h4⟩ := not_ok_mid hpw hsp h1
    have h5 : fr a.2 w ≤ fr a.1 w + fr (2 ^ 60) w := by rw [← fr_add]; exact fr_le hd w
    refine ang_far (m := m) (p := p) (η := fr (2 ^ 60) w) h hp (hc.imp fun N hN => ?_) ?_
    · have := hN.lo
      have := hN.hi
      exact ab_le.2 ⟨by grind, by grind⟩
    · have h6 : rp 2 (KE + 252) * fr (2 ^ 60) w * rp 2 w ≤ 1 / 64 * rp 2 w := by
        rw [Rat.mul_assoc, fr_mul, ← rp2_nat, ← rp_add]
        have h7 := rp_mono (show (1 : Rat) ≤ 2 by decide) (show KE + 252 + 60 + 6 ≤ w by omega)
        rw [rp_add 2 (KE + 252 + 60) 6, show rp 2 6 = 64 by decide +kernel] at h7
        generalize rp 2 (KE + 252 + 60) = u at *
        generalize rp 2 w = v at *
        grind
      exact Rat.le_of_mul_le_mul_right h6 (rp2_pos w)
theorem a_ends {k : Nat} {s : Nat → Rat} {W : GQ} {near : Nat → Sp} {p : Nat} (h : Ang k s W) (hn : ANear near s) (hp : p ≤ 200) :
    lI near p ≤ 26 ∧ okF (near (lW p (lI near p))) (lW p (lI near p)) p ∧ (∀ i, i < lI near p → ¬ okF (near (lW p i)) (lW p i) p) ∧ IsA s p (lF near p) := by
  have h26 := lW_le hp (Nat.le_refl 26)
  have hok : okF (near (lW p 26)) (lW p 26) p := by
    obtain ⟨a1, a2⟩ := hn _ h26.1 h26.2.2
    refine ang_ok h a1 hp h26.2.1 a2 ?_
    have h7 : 64 * 2 ^ 26 ≤ lW p 26 := Nat.mul_le_mul_right _ (by omega)
    have h6 : KE + 363 ≤ 64 * 2 ^ 26 := by decide
    exact Nat.le_trans h6 h7
  obtain ⟨b1, b2, b3, _⟩ := fst_spec (fun i => decide (okF (near (lW p i)) (lW p i) p)) 26 0 26 (decide_eq_true hok) (by omega) (by omega)
  have c1 : okF (near (lW p (lI near p))) (lW p (lI near p)) p := of_decide_eq_true b1
  have hI := lW_le hp (show lI near p ≤ 26 from b3)
  obtain ⟨a1, a2⟩ := hn _ hI.1 hI.2.2
  have hpos : 0 < (near (lW p (lI near p))).2 := by
    rcases Nat.eq_zero_or_pos (near (lW p (lI near p))).2 with e | e
    · exfalso
      obtain ⟨N, h1, h2⟩ := (a1.and h.pos).ex
      have h3 := h1.hi
      rw [e, fr_zero] at h3
      have := inv_pos' (rp2_pos 240)
      grind
    · exact e
  obtain ⟨d1, d2⟩ := ok_between hI.2.1 hpos c1
  exact ⟨b3, c1, fun i hi => of_decide_eq_false (b2 i (by omega) hi), a1.imp fun N hN => ⟨Rat.le_trans d1 hN.lo, Rat.le_trans hN.hi d2⟩⟩
/-- one angle is not above another one -/
def SLe (s t : Nat → Rat) : Prop := ∀ ε : Rat, 0 < ε → Ev fun N => s N ≤ t N + ε
theorem SLe.of {s t : Nat → Rat} (h : Ev fun N => s N ≤ t N) : SLe s t := fun ε he => h.imp fun N hN => by grind
theorem SLe.refl (s : Nat → Rat) : SLe s s := .of (Ev.all fun N => Rat.le_refl)
theorem SLe.trans {s t u : Nat → Rat} (h : SLe s t) (k : SLe t u) : SLe s u := fun ε he => ((h (ε / 2) (by grind)).and (k (ε / 2) (by grind))).imp fun N hN => by
  obtain ⟨a, b⟩ := hN
  grind
/-- what is below one is below the other -/
theorem SLe.ends {s t : Nat → Rat} {a b : Rat} (h : SLe s t) (h1 : Ev fun N => a ≤ s N) (h2 : Ev fun N => t N ≤ b) : a ≤ b := le_eps fun ε he => by
  obtain ⟨N, ⟨c1, c2⟩, c3⟩ := ((h1.and h2).and (h ε he)).ex
  grind
theorem IsA.lo {s : Nat → Rat} {p f : Nat} (h : IsA s p f) : Ev fun N => fr f p ≤ s N := h.imp fun N hN => hN.1
theorem IsA.hi {s : Nat → Rat} {p f : Nat} (h : IsA s p f) : Ev fun N => s N ≤ fr (f + 1) p := h.imp fun N hN => hN.2
/-- more bits lie within fewer -/
theorem IsA.nest {k : Nat} {s : Nat → Rat} {W : GQ} {p m f g : Nat} (A : Ang k s W) (hp : p ≤ 200) (h : IsA s p f) (k : IsA s (p + m) g) : fr f p ≤ fr g (p + m) ∧ fr (g + 1) (p + m) ≤ fr (f + 1) p := by
  have e : ∀ a, fr a p = fr (a * 2 ^ m) (p + m) := fun a => (fr_up a p m).symm
  have z : rp 2 (KE + 252) * 0 ≤ 1 / 64 := by rw [Rat.mul_zero]; decide +kernel
  constructor
  · rw [e]
    rcases Nat.lt_or_ge g (f * 2 ^ m) with h1 | h1
    · exfalso
      refine ang_far (m := f) (p := p) (η := 0) A hp ((h.and k).imp fun N hN => ?_) z
      obtain ⟨⟨a1, a2⟩, b1, b2⟩ := hN
      have c1 := fr_le (show g + 1 ≤ f * 2 ^ m by omega) (p + m)
      rw [← e] at c1
      exact ab_le.2 ⟨by grind, by grind⟩
    · exact fr_le h1 _
  · rw [e]
    rcases Nat.lt_or_ge ((f + 1) * 2 ^ m) (g + 1) with h1 | h1
    · exfalso
      refine ang_far (m := f + 1) (p := p) (η := 0) A hp ((h.and k).imp fun N hN => ?_) z
      obtain ⟨⟨a1, a2⟩, b1, b2⟩ := hN
      have c1 := fr_le (show (f + 1) * 2 ^ m ≤ g by omega) (p + m)
      rw [← e] at c1
      exact ab_le.2 ⟨by grind, by grind⟩
    · exact fr_le h1 _
theorem IsA.small {k : Nat} {s : Nat → Rat} {W : GQ} {p f : Nat} (A : Ang k s W) (h : IsA s p f) : f < 2 ^ (p + 3) := by
  obtain ⟨N, ⟨h1, _⟩, h2⟩ := (h.and A.up).ex
  have h3 : fr f p ≤ 4 := Rat.le_trans h1 h2
  have h4 := Rat.mul_le_mul_of_nonneg_right h3 (Rat.le_of_lt (rp2_pos p))
  rw [fr_mul, rp2_nat, show (4 : Rat) = ((4 : Nat) : Rat) from rfl, ← Rat.natCast_mul, Rat.natCast_le_natCast] at h4
  rw [Nat.pow_add]
  have := pow_pos2 p
  omega

/-! pi is four times the angle of 1 -/

theorem SLe.abs {s t : Nat → Rat} (h : ∀ ε : Rat, 0 < ε → Ev fun N => ab (s N - t N) ≤ ε) : SLe s t ∧ SLe t s :=
  ⟨fun ε he => (h ε he).imp fun N hN => by have := (ab_le.1 hN).1; grind, fun ε he => (h ε he).imp fun N hN => by have := (ab_le.1 hN).2; grind⟩
theorem one_pi : SLe (fun N => 4 * aS 1 1 N) piS ∧ SLe piS fun N => 4 * aS 1 1 N := by
  have h1 := ((aS_TC (n := 1) (d := 1) (by omega) (by omega)).times 2).congr (s' := fun N => 4 * aS 1 1 N) fun N => by rw [show ((2 : Nat) : Rat) = 2 from rfl]; grind
  have e : pw (dirW (vR 1 1) (uR 1 1)) 2 = -1 := by apply GQ.ext' <;> decide +kernel
  rw [e] at h1
  refine SLe.abs fun ε he => h1.uniq pi_TC (by apply GQ.ext' <;> decide +kernel) ⟨4, fun N hN => ?_⟩ he
  have a1 := one_bd hN
  have a2 := pi_bd (show 2 ≤ N by omega)
  exact ab_le.2 ⟨by grind, by grind⟩
theorem both_one : SLe (fun N => aS 1 2 N + aS 1 3 N) (aS 1 1) ∧ SLe (aS 1 1) fun N => aS 1 2 N + aS 1 3 N := by
  have h1 := ((aS_TC (n := 1) (d := 2) (by omega) (by omega)).add (aS_TC (n := 1) (d := 3) (by omega) (by omega))).congr (s' := fun N => 2 * (aS 1 2 N + aS 1 3 N)) fun N => by grind
  have e : dirW (vR 1 2) (uR 1 2) * dirW (vR 1 3) (uR 1 3) = dirW (vR 1 1) (uR 1 1) := by apply GQ.ext' <;> decide +kernel
  rw [e] at h1
  refine SLe.abs fun ε he => (h1.uniq (aS_TC (n := 1) (d := 1) (by omega) (by omega)) (by apply GQ.ext' <;> decide +kernel) ⟨4, fun N hN => ?_⟩ he).imp fun N hN => ?_
  · have a1 := one_bd hN
    have a2 := both_bd hN
    exact ab_le.2 ⟨by grind, by grind⟩
  · have := ab_le.1 hN
    exact ab_le.2 ⟨by grind, by grind⟩

/-! the greater tangent's angle is not below -/

theorem RD.up {f g : Rat → Rat} {ε : Rat} (h : RD f g) (hg : ∀ t, In t → -ε ≤ g t) : -ε ≤ f 1 - f 0 := by
  obtain ⟨C, h1, h2, h3, h4⟩ := h
  have h5 : ∀ t u, In t → In u → ab (f u - f t - (u - t) * g t) ≤ C * ((u - t) * (u - t)) := fun t u ht hu => by
    have := h4 t u ht hu
    simp only [← q_sub, ← q_mul, nr_q] at this
    exact this
  refine le_eps fun δ hδ => ?_
  obtain ⟨n, hn⟩ := arch (C * (1 / δ))
  have hM := nat_pos (show 0 < n + 1 by omega)
  have hm := inv_pos' hM
  have hMm := one_div_mul hM
  have hMn : ((n + 1 : Nat) : Rat) = (n : Rat) + 1 := by rw [Rat.natCast_add]; rfl
  generalize hmm : 1 / ((n + 1 : Nat) : Rat) = m at *
  have hc : ((n + 1 : Nat) : Rat) * m = 1 := by rw [Rat.mul_comm]; exact hMm
  have key : ∀ i : Nat, i ≤ n + 1 → -((i : Rat) * (m * ε + C * (m * m))) ≤ f ((i : Rat) * m) - f 0 := by
    intro i
    induction i with
    | zero =>
      intro _
      rw [show ((0 : Nat) : Rat) = 0 from rfl, Rat.zero_mul, Rat.zero_mul]
      grind
    | succ i ih =>
      intro hi
      have ih := ih (by omega)
      have hi1 : ((i + 1 : Nat) : Rat) = (i : Rat) + 1 := by rw [Rat.natCast_add]; rfl
      have hle : ((i + 1 : Nat) : Rat) ≤ ((n + 1 : Nat) : Rat) := by rw [Rat.natCast_le_natCast]; exact hi
      have hle2 := Rat.mul_le_mul_of_nonneg_right hle (Rat.le_of_lt hm)
      rw [hc] at hle2
      have hi0 := nat_nn i
      have him := Rat.mul_nonneg hi0 (Rat.le_of_lt hm)
      rw [hi1] at hle2 ⊢
      have ht : In ((i : Rat) * m) := ⟨him, by grind⟩
      have hu : In (((i : Rat) + 1) * m) := ⟨by grind, hle2⟩
      have hd := (ab_le.1 (h5 _ _ ht hu)).2
      have e1 : ((i : Rat) + 1) * m - (i : Rat) * m = m := by grind
      rw [e1] at hd
      have hgm := Rat.mul_le_mul_of_nonneg_left (hg _ ht) (Rat.le_of_lt hm)
      have e3 : ((i : Rat) + 1) * (m * ε + C * (m * m)) = (i : Rat) * (m * ε + C * (m * m)) + (m * ε + C * (m * m)) := by grind
      rw [e3]
      generalize (i : Rat) * (m * ε + C * (m * m)) = z at *
      grind
  have hk := key (n + 1) (Nat.le_refl _)
  rw [hc] at hk
  have e4 : ((n + 1 : Nat) : Rat) * (m * ε + C * (m * m)) = (((n + 1 : Nat) : Rat) * m) * ε + C * m * (((n + 1 : Nat) : Rat) * m) := by grind
  rw [e4, hc] at hk
  have h6 : C * m ≤ δ := by
    have h6 := Rat.mul_le_mul_of_nonneg_right (Rat.le_trans hn (show (n : Rat) ≤ ((n + 1 : Nat) : Rat) by rw [hMn]; grind)) (Rat.mul_nonneg (Rat.le_of_lt hδ) (Rat.le_of_lt hm))
    have e5 : C * (1 / δ) * (δ * m) = C * m * (1 / δ * δ) := by grind
    rw [e5, one_div_mul hδ] at h6
    have e6 : ((n + 1 : Nat) : Rat) * (δ * m) = δ * (((n + 1 : Nat) : Rat) * m) := by grind
    rw [e6, hc] at h6
    grind
  grind


def tanQ (n d : Nat) : Rat := ((n : Nat) : Rat) * (1 / ((d : Nat) : Rat))
theorem tanQ_mul {n d : Nat} (hd : 0 < d) : tanQ n d * ((d : Nat) : Rat) = ((n : Nat) : Rat) := by
  unfold tanQ; rw [Rat.mul_assoc, one_div_mul (nat_pos hd), Rat.mul_one]
theorem inv_uniq {a b c : Rat} (h : a * b = 1) (k : a * c = 1) : b = c := by
  have : b = b * (a * c) := by rw [k, Rat.mul_one]
  grind
theorem aS_tan {n d : Nat} (hd : 0 < d) : vR n d = tanQ n d * (1 / (1 + tanQ n d * tanQ n d)) ∧ uR n d = tanQ n d * tanQ n d * (1 / (1 + tanQ n d * tanQ n d)) := by
  have hS := nat_pos (sum_pos (n := n) hd)
  have hiS := one_div_mul hS
  have hxd := tanQ_mul (n := n) hd
  have hp : 0 < 1 + tanQ n d * tanQ n d := by have := sq_nn (tanQ n d); grind
  have hi := one_div_mul hp
  have eS : ((n * n + d * d : Nat) : Rat) = (tanQ n d * tanQ n d + 1) * (((d : Nat) : Rat) * ((d : Nat) : Rat)) := by
    rw [Rat.natCast_add, Rat.natCast_mul, Rat.natCast_mul, ← hxd]; grind
  have hr : (1 + tanQ n d * tanQ n d) * (((d : Nat) : Rat) * ((d : Nat) : Rat) * (1 / ((n * n + d * d : Nat) : Rat))) = 1 := by
    have : (1 + tanQ n d * tanQ n d) * (((d : Nat) : Rat) * ((d : Nat) : Rat) * (1 / ((n * n + d * d : Nat) : Rat))) = 1 / ((n * n + d * d : Nat) : Rat) * ((tanQ n d * tanQ n d + 1) * (((d : Nat) : Rat) * ((d : Nat) : Rat))) := by grind
    rw [this, ← eS]; exact hiS
  have e := inv_uniq (a := 1 + tanQ n d * tanQ n d) (by rw [Rat.mul_comm]; exact hi) hr
  rw [e]
  unfold vR uR
  rw [Rat.natCast_mul, Rat.natCast_mul, ← hxd]
  generalize 1 / ((n * n + d * d : Nat) : Rat) = c
  constructor <;> grind
theorem tan_le {n1 d1 n2 d2 : Nat} (h1 : 0 < d1) (h2 : 0 < d2) (h : n1 * d2 ≤ n2 * d1) : tanQ n1 d1 ≤ tanQ n2 d2 := by
  have e1 := tanQ_mul (n := n1) h1
  have e2 := tanQ_mul (n := n2) h2
  have p1 := nat_pos h1
  have p2 := nat_pos h2
  have h3 : ((n1 * d2 : Nat) : Rat) ≤ ((n2 * d1 : Nat) : Rat) := by rw [Rat.natCast_le_natCast]; exact h
  rw [Rat.natCast_mul, Rat.natCast_mul, ← e1, ← e2] at h3
  refine Rat.le_of_mul_le_mul_right (c := ((d1 : Nat) : Rat) * ((d2 : Nat) : Rat)) ?_ (Rat.mul_pos p1 p2)
  grind
theorem tan_nn (n d : Nat) : 0 ≤ tanQ n d := by
  unfold tanQ
  rcases Nat.eq_zero_or_pos d with e | e
  · subst e; rw [show (1 : Rat) / ((0 : Nat) : Rat) = 0 by decide +kernel, Rat.mul_zero]; exact Rat.le_refl
  · exact Rat.mul_nonneg (nat_nn n) (Rat.le_of_lt (inv_pos' (nat_pos e)))
theorem tan_one {n d : Nat} (hd : 0 < d) (h : n ≤ d) : tanQ n d ≤ 1 := by
  refine Rat.le_of_mul_le_mul_right (c := ((d : Nat) : Rat)) ?_ (nat_pos hd)
  rw [tanQ_mul hd, Rat.one_mul, Rat.natCast_le_natCast]; exact h
theorem aS_mono {n1 d1 n2 d2 : Nat} (h1 : 0 < d1) (h2 : 0 < d2) (h : n1 * d2 ≤ n2 * d1) (hn : n2 ≤ d2) : Ev fun N => aS n1 d1 N ≤ aS n2 d2 N := by
  have hx := tan_le h1 h2 h
  have hx0 := tan_nn n1 d1
  have hx1 := tan_one h2 hn
  refine (aN_small (ε := 1) (by decide)).imp fun N hN => ?_
  obtain ⟨v1, u1⟩ := aS_tan (n := n1) h1
  obtain ⟨v2, u2⟩ := aS_tan (n := n2) h2
  unfold aS
  rw [v1, u1, v2, u2]
  generalize tanQ n1 d1 = x at *
  generalize tanQ n2 d2 = z at *
  have hy : RD (fun t => x + (z - x) * t) fun _ => z - x := ((RD.const x).add (RD.id.scale (z - x))).congr (fun _ => rfl) fun t _ => by grind
  have hpos : ∀ t : Rat, 0 < 1 + (x + (z - x) * t) * (x + (z - x) * t) := fun t => by have := sq_nn (x + (z - x) * t); grind
  have hr1 : ∀ t : Rat, (1 + (x + (z - x) * t) * (x + (z - x) * t)) * (1 / (1 + (x + (z - x) * t) * (x + (z - x) * t))) = 1 := fun t => by rw [Rat.mul_comm]; exact one_div_mul (hpos t)
  have hr0 : ∀ t, In t → 0 ≤ 1 / (1 + (x + (z - x) * t) * (x + (z - x) * t)) ∧ 1 / (1 + (x + (z - x) * t) * (x + (z - x) * t)) ≤ 1 := fun t _ => by
    have a1 := inv_pos' (hpos t)
    have a2 := hr1 t
    have a3 := Rat.mul_nonneg (sq_nn (x + (z - x) * t)) (Rat.le_of_lt a1)
    refine ⟨Rat.le_of_lt a1, ?_⟩
    generalize 1 / (1 + (x + (z - x) * t) * (x + (z - x) * t)) = c at *
    grind
  obtain ⟨_, _, hA⟩ := AS_RD (r := fun t => 1 / (1 + (x + (z - x) * t) * (x + (z - x) * t))) hy hr1 hr0
  have hup := (hA N).up (ε := 0) fun t ht => by
    obtain ⟨b2, b3⟩ := hr0 t ht
    have b1 := hr1 t
    have k1 := Rat.mul_nonneg (show 0 ≤ z - x by grind) ht.1
    have k2 := Rat.mul_le_mul_of_nonneg_left ht.2 (show 0 ≤ z - x by grind)
    have y0 : 0 ≤ x + (z - x) * t := by grind
    have y1 : x + (z - x) * t ≤ 1 := by grind
    generalize 1 / (1 + (x + (z - x) * t) * (x + (z - x) * t)) = c at *
    generalize x + (z - x) * t = y at *
    have hu0 : 0 ≤ y * y * c := Rat.mul_nonneg (sq_nn y) b2
    have hyy : y * y ≤ 1 := by have := rmul_le y1 y1 y0 (by decide); grind
    have hu1 : y * y * c ≤ 1 / 2 := by
      have : y * y * c ≤ c := by have := Rat.mul_le_mul_of_nonneg_right hyy b2; grind
      grind
    have hp := hN _ hu0 hu1
    have := Rat.mul_nonneg (Rat.mul_nonneg (show 0 ≤ z - x by grind) b2) (show 0 ≤ 1 - aN N * rp (y * y * c) N by grind)
    show -0 ≤ (z - x) * c * (1 - aN N * rp (y * y * c) N)
    grind
  have e0 : x + (z - x) * 0 = x := by grind
  have e1 : x + (z - x) * 1 = z := by grind
  rw [e0, e1] at hup
  grind
/-- the greater tangent's angle is not below -/
theorem wS_mono {n1 d1 n2 d2 : Nat} (m1 : 0 < n1) (m2 : 0 < n2) (h1 : 0 < d1) (h2 : 0 < d2) (h : n1 * d2 ≤ n2 * d1) : SLe (wS n1 d1) (wS n2 d2) := fun ε he => by
  unfold wS
  by_cases k2 : n2 ≤ d2
  · have k1 : n1 ≤ d1 := by
      have : n1 * d2 ≤ d2 * d1 := Nat.le_trans h (Nat.mul_le_mul_right _ k2)
      rw [Nat.mul_comm d2] at this
      exact Nat.le_of_mul_le_mul_right this h2
    simp only [if_pos k1, if_pos k2]
    exact (aS_mono h1 h2 h k2).imp fun N hN => by grind
  · simp only [if_neg k2]
    by_cases k1 : n1 ≤ d1
    · simp only [if_pos k1]
      have a1 := aS_mono (n1 := n1) (d1 := d1) (n2 := 1) (d2 := 1) h1 (by omega) (by omega) (by omega)
      have a2 := aS_mono (n1 := d2) (d1 := n2) (n2 := 1) (d2 := 1) m2 (by omega) (by omega) (by omega)
      exact ((a1.and a2).and (one_pi.1 ε he)).imp fun N hN => by
        obtain ⟨⟨b1, b2⟩, b3⟩ := hN
        grind
    · simp only [if_neg k1]
      have a1 := aS_mono (n1 := d2) (d1 := n2) (n2 := d1) (d2 := n1) m2 m1 (by rw [Nat.mul_comm d2, Nat.mul_comm d1]; exact h) (by omega)
      exact a1.imp fun N hN => by grind
/-- none is above a quarter turn -/
theorem wS_quarter {n d : Nat} (hn : 0 < n) (hd : 0 < d) : SLe (wS n d) fun N => piS N / 2 := .of ⟨2, fun N hN => by
  have hp := (pi_bd hN).1
  unfold wS
  split
  · rename_i h
    have := (aS_le hd h N).2
    grind
  · have := (aS_le (n := d) (d := n) hn (by omega) N).1
    grind⟩
/-- a quarter turn together -/
theorem wS_turn {n d : Nat} (h : n ≠ d ∨ n = 1) : SLe (fun N => wS n d N + wS d n N) (fun N => piS N / 2) ∧ SLe (fun N => piS N / 2) fun N => wS n d N + wS d n N := by
  by_cases e : n = d
  · have h1 : n = 1 := by omega
    subst e
    subst h1
    unfold wS
    simp only [if_pos (Nat.le_refl 1)]
    obtain ⟨a, b⟩ := one_pi
    exact ⟨fun ε he => (a (2 * ε) (by grind)).imp fun N hN => by grind, fun ε he => (b (2 * ε) (by grind)).imp fun N hN => by grind⟩
  · unfold wS
    rcases Nat.lt_or_ge n d with h1 | h1
    · simp only [if_pos (show n ≤ d by omega), if_neg (show ¬ d ≤ n by omega)]
      exact ⟨.of (Ev.all fun N => by grind), .of (Ev.all fun N => by grind)⟩
    · simp only [if_neg (show ¬ n ≤ d by omega), if_pos (show d ≤ n by omega)]
      exact ⟨.of (Ev.all fun N => by grind), .of (Ev.all fun N => by grind)⟩
/-! how large the numbers are -/
theorem gSp_short {n d w : Nat} (hd : 0 < d) (hn : n ≤ d) (hw : 64 ≤ w) (hw2 : w < 2 ^ 37) : (gSp n d w).1 < 2 ^ (w + 41) ∧ (gSp n d w).2 < 2 ^ (w + 41) := gR_short (gok hd hn hw) hw2
theorem piSp_short {w : Nat} (hw : 64 ≤ w) (hw2 : w < 2 ^ 37) : (piSp w).1 < 2 ^ (w + 50) ∧ (piSp w).2 < 2 ^ (w + 50) := by
  obtain ⟨a1, a2⟩ := gSp_short (n := 1) (d := 5) (by omega) (by omega) hw hw2
  obtain ⟨b1, b2⟩ := gSp_short (n := 1) (d := 239) (by omega) (by omega) hw hw2
  simp only [piSp, spSub, spTimes, Nat.div_one]
  rw [show w + 50 = w + 41 + 9 from rfl, Nat.pow_add _ (w + 41), show (2 : Nat) ^ 9 = 512 by decide]
  have := pow_pos2 (w + 41)
  omega
theorem wSp_short {n d w : Nat} (hn0 : 0 < n) (hd : 0 < d) (hw : 64 ≤ w) (hw2 : w < 2 ^ 37) : (wSp n d w).1 < 2 ^ (w + 52) ∧ (wSp n d w).2 < 2 ^ (w + 52) := by
  unfold wSp
  have h1 : 2 ^ (w + 41) ≤ 2 ^ (w + 52) := Nat.pow_le_pow_right (by omega) (by omega)
  have h2 : 2 ^ (w + 52) = 2 ^ (w + 50) * 4 := by rw [show w + 52 = w + 50 + 2 from rfl, Nat.pow_add]
  have h3 := pow_pos2 (w + 50)
  split
  · rename_i h
    obtain ⟨a1, a2⟩ := gSp_short hd h hw hw2
    omega
  · obtain ⟨a1, a2⟩ := gSp_short (n := d) (d := n) hn0 (by omega) hw hw2
    obtain ⟨b1, b2⟩ := piSp_short hw hw2
    simp only [spSub, spTimes, Nat.mul_one]
    omega

end Go.Proofs.Ytifnpelkoklcnaa.P
