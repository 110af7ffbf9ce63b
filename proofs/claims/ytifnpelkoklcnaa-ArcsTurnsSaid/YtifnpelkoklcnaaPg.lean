/- Angles by Euler's row, and e to i times them. Condition: the tangent lies from 0 to 1. Sequences of angles: to what e to i times them tends; equal directions; none near a rational. No condition beyond those told. Angles as the program reckons them. Conditions: w from 64 digits on; the tangent's parts above 0. -/
import Derived.Test.YtifnpelkoklcnaaPf
set_option linter.unusedSimpArgs false
set_option linter.unusedVariables false
namespace Go.Proofs.Ytifnpelkoklcnaa.P

open GQ

/-- the row's factors -/
def cA : Nat → Rat
  | 0 => 1
  | k + 1 => cA k * (((2 * k + 2 : Nat) : Rat) * (1 / ((2 * k + 3 : Nat) : Rat)))
/-- the row: N terms -/
def AS (v u : Rat) (N : Nat) : Rat := rsm (fun k => cA k * (v * rp u k)) N
def aN (N : Nat) : Rat := ((2 * N + 1 : Nat) : Rat) * cA N
theorem AS_succ (v u : Rat) (N : Nat) : AS v u (N + 1) = AS v u N + cA N * (v * rp u N) := rfl
theorem cA_le : ∀ N, 0 < cA N ∧ cA N ≤ 1 ∧ cA (N + 1) ≤ cA N := by
  have step : ∀ N, 0 < cA N → 0 < cA (N + 1) ∧ cA (N + 1) ≤ cA N := by
    intro N h
    have hp := nat_pos (show 0 < 2 * N + 3 by omega)
    have hi := inv_pos' hp
    have h1 := one_div_mul hp
    have h2 : ((2 * N + 2 : Nat) : Rat) ≤ ((2 * N + 3 : Nat) : Rat) := by rw [Rat.natCast_le_natCast]; omega
    have h3 := Rat.mul_le_mul_of_nonneg_right h2 (Rat.le_of_lt hi)
    have h4 := Rat.mul_pos (nat_pos (show 0 < 2 * N + 2 by omega)) hi
    have h5 : ((2 * N + 2 : Nat) : Rat) * (1 / ((2 * N + 3 : Nat) : Rat)) ≤ 1 := by rw [Rat.mul_comm] at h1; rw [h1] at h3; exact h3
    have h6 := Rat.mul_le_mul_of_nonneg_left h5 (Rat.le_of_lt h)
    refine ⟨Rat.mul_pos h h4, ?_⟩
    show cA N * (((2 * N + 2 : Nat) : Rat) * (1 / ((2 * N + 3 : Nat) : Rat))) ≤ cA N
    rw [Rat.mul_one] at h6
    exact h6
  intro N
  induction N with
  | zero =>
    have h0 : (0 : Rat) < cA 0 := by decide
    exact ⟨h0, Rat.le_refl, (step 0 h0).2⟩
  | succ N ih =>
    have h1 := step N ih.1
    exact ⟨h1.1, Rat.le_trans h1.2 ih.2.1, (step (N + 1) h1.1).2⟩
theorem aN_succ (N : Nat) : aN (N + 1) = cA N * ((2 * N + 2 : Nat) : Rat) := by
  have h1 := one_div_mul (nat_pos (show 0 < 2 * N + 3 by omega))
  show ((2 * N + 3 : Nat) : Rat) * (cA N * (((2 * N + 2 : Nat) : Rat) * (1 / ((2 * N + 3 : Nat) : Rat)))) = _
  generalize ((2 * N + 3 : Nat) : Rat) = a at *
  grind
theorem aN_zero : aN 0 = 1 := by decide +kernel
/-- the rest of the row -/
theorem AS_rest {v u : Rat} (hv : 0 ≤ v) (h0 : 0 ≤ u) (h : u ≤ 1 / 2) (N : Nat) : ∀ r, AS v u (N + r) + 2 * (cA (N + r) * (v * rp u (N + r))) ≤ AS v u N + 2 * (cA N * (v * rp u N))
  | 0 => Rat.le_refl
  | r + 1 => by
    have ih := AS_rest hv h0 h N r
    rw [show N + (r + 1) = (N + r) + 1 from rfl, AS_succ]
    have h1 := rp_nn h0 (N + r)
    have h2 := Rat.mul_nonneg hv h1
    obtain ⟨c1, c2, c3⟩ := cA_le (N + r)
    have h3 := Rat.mul_le_mul_of_nonneg_left h h2
    have h4 : 0 ≤ v * rp u (N + r) * u := Rat.mul_nonneg h2 h0
    have h5 := Rat.mul_le_mul_of_nonneg_right c3 h4
    have h6 := Rat.mul_le_mul_of_nonneg_left h3 (Rat.le_of_lt c1)
    show AS v u (N + r) + cA (N + r) * (v * rp u (N + r)) + 2 * (cA (N + r + 1) * (v * (rp u (N + r) * u))) ≤ _
    have e : v * (rp u (N + r) * u) = v * rp u (N + r) * u := by grind
    rw [e]
    generalize v * rp u (N + r) * u = b at *
    generalize v * rp u (N + r) = a at *
    grind
theorem AS_mono {v u : Rat} (hv : 0 ≤ v) (h0 : 0 ≤ u) (N : Nat) : ∀ r, AS v u N ≤ AS v u (N + r)
  | 0 => Rat.le_refl
  | r + 1 => by
    have ih := AS_mono hv h0 N r
    have h1 := Rat.mul_nonneg (Rat.le_of_lt (cA_le (N + r)).1) (Rat.mul_nonneg hv (rp_nn h0 (N + r)))
    rw [show N + (r + 1) = (N + r) + 1 from rfl, AS_succ]
    grind
theorem AS_le {v u : Rat} (hv : 0 ≤ v) (hv2 : v ≤ 1 / 2) (h0 : 0 ≤ u) (h : u ≤ 1 / 2) (N : Nat) : 0 ≤ AS v u N ∧ AS v u N ≤ 1 := by
  have h1 := AS_rest hv h0 h 0 N
  have h2 := AS_mono hv h0 0 N
  rw [Nat.zero_add] at h1 h2
  have h3 := Rat.mul_nonneg (Rat.le_of_lt (cA_le N).1) (Rat.mul_nonneg hv (rp_nn h0 N))
  have h4 : AS v u 0 + 2 * (cA 0 * (v * rp u 0)) = 2 * v := by show (0 : Rat) + 2 * (1 * (v * 1)) = _; grind
  have h5 : AS v u 0 = 0 := rfl
  rw [h4] at h1
  rw [h5] at h2
  exact ⟨h2, by grind⟩

/-! how the row changes with the tangent -/

theorem AS_RD {y y' r : Rat → Rat} (hy : RD y y') (hr1 : ∀ t, (1 + y t * y t) * r t = 1) (hr0 : ∀ t, In t → 0 ≤ r t ∧ r t ≤ 1) :
    RD (fun t => y t * r t) (fun t => y' t * r t * (1 - 2 * (y t * y t * r t))) ∧
    RD (fun t => y t * y t * r t) (fun t => 2 * (y' t * r t * (y t * r t))) ∧
    ∀ N, RD (fun t => AS (y t * r t) (y t * y t * r t) N) fun t => y' t * r t * (1 - aN N * rp (y t * y t * r t) N) := by
  have hd : RD (fun t => 1 + y t * y t) fun t => y' t * y t + y t * y' t := ((RD.const 1).add (hy.mul hy)).congr (fun _ => rfl) fun t _ => by grind
  have hr := RD.inv (r := r) (B := 1) hd (fun t _ => hr1 t) fun t ht => by rw [ab_of (hr0 t ht).1]; exact (hr0 t ht).2
  have hv : RD (fun t => y t * r t) fun t => y' t * r t * (1 - 2 * (y t * y t * r t)) := (hy.mul hr).congr (fun _ => rfl) fun t _ => by
    have := hr1 t
    generalize y t = a at *
    generalize y' t = b at *
    generalize r t = c at *
    grind
  have hu : RD (fun t => y t * y t * r t) fun t => 2 * (y' t * r t * (y t * r t)) := (hy.mul hv).congr (fun t => by grind) fun t _ => by
    have := hr1 t
    generalize y t = a at *
    generalize y' t = b at *
    generalize r t = c at *
    have e : 1 - a * a * c = c := by grind
    have e2 : b * (a * c) + a * (b * c * (1 - 2 * (a * a * c))) = 2 * (b * (a * c) * (1 - a * a * c)) := by grind
    rw [e2, e]; grind
  have hT : ∀ k, RD (fun t => y t * r t * rp (y t * y t * r t) k) fun t => y' t * r t * (((2 * k + 1 : Nat) : Rat) * rp (y t * y t * r t) k - ((2 * k + 2 : Nat) : Rat) * rp (y t * y t * r t) (k + 1)) := by
    intro k
    induction k with
    | zero =>
      refine hv.congr (fun t => by show y t * r t * 1 = _; grind) fun t _ => ?_
      show y' t * r t * (((1 : Nat) : Rat) * 1 - ((2 : Nat) : Rat) * (1 * (y t * y t * r t))) = _
      rw [show ((1 : Nat) : Rat) = 1 from rfl, show ((2 : Nat) : Rat) = 2 from rfl]; grind
    | succ k ih =>
      refine (ih.mul hu).congr (fun t => by show y t * r t * (rp (y t * y t * r t) k * (y t * y t * r t)) = _; grind) fun t _ => ?_
      have h1 := hr1 t
      show y' t * r t * (((2 * (k + 1) + 1 : Nat) : Rat) * rp (y t * y t * r t) (k + 1) - ((2 * (k + 1) + 2 : Nat) : Rat) * (rp (y t * y t * r t) (k + 1) * (y t * y t * r t))) = _
      have e0 : rp (y t * y t * r t) (k + 1) = rp (y t * y t * r t) k * (y t * y t * r t) := rfl
      rw [e0]
      have e1 : ((2 * (k + 1) + 1 : Nat) : Rat) = ((2 * k + 1 : Nat) : Rat) + 2 := by rw [show 2 * (k + 1) + 1 = (2 * k + 1) + 2 by omega, Rat.natCast_add]; rfl
      have e2 : ((2 * (k + 1) + 2 : Nat) : Rat) = ((2 * k + 2 : Nat) : Rat) + 2 := by rw [show 2 * (k + 1) + 2 = (2 * k + 2) + 2 by omega, Rat.natCast_add]; rfl
      rw [e1, e2]
      generalize rp (y t * y t * r t) k = p
      generalize ((2 * k + 1 : Nat) : Rat) = m
      generalize ((2 * k + 2 : Nat) : Rat) = m2
      have hu2 : (y t * r t) * (y t * r t) = (y t * y t * r t) * (1 - y t * y t * r t) := by
        have e : 1 - y t * y t * r t = r t := by grind
        rw [e]; grind
      generalize y t * y t * r t = u at *
      generalize y t * r t = v at *
      generalize y' t = b at *
      generalize r t = c at *
      have e3 : v * p * (2 * (b * c * v)) = 2 * (b * c * p) * (v * v) := by grind
      rw [e3, hu2]
      grind
  refine ⟨hv, hu, fun N => ?_⟩
  induction N with
  | zero =>
    refine (RD.const 0).congr (fun _ => rfl) fun t _ => ?_
    rw [aN_zero]
    show y' t * r t * (1 - 1 * 1) = 0
    grind
  | succ N ih =>
    refine (ih.add ((hT N).scale (cA N))).congr (fun _ => rfl) fun t _ => ?_
    rw [aN_succ]
    show y' t * r t * (1 - cA N * ((2 * N + 2 : Nat) : Rat) * rp (y t * y t * r t) (N + 1)) = y' t * r t * (1 - ((2 * N + 1 : Nat) : Rat) * cA N * rp (y t * y t * r t) N) + cA N * _
    grind
theorem nn_le_two : ∀ N : Nat, N * N ≤ 4 * 2 ^ N
  | 0 => by omega
  | N + 1 => by
    have ih := nn_le_two N
    have : N < 2 ^ N := Nat.lt_two_pow_self
    rw [Nat.pow_succ]
    have e : (N + 1) * (N + 1) = N * N + 2 * N + 1 := by rw [Nat.add_mul, Nat.mul_add, Nat.one_mul, Nat.mul_one]; omega
    omega
theorem rp_half_le {u : Rat} (h0 : 0 ≤ u) (h : u ≤ 1 / 2) (n : Nat) : rp u n * rp 2 n ≤ 1 := by
  induction n with
  | zero => show (1 : Rat) * 1 ≤ 1; rw [Rat.mul_one]; exact Rat.le_refl
  | succ n ih =>
    show rp u n * u * (rp 2 n * 2) ≤ 1
    have h1 := Rat.mul_nonneg (rp_nn h0 n) (Rat.le_of_lt (rp2_pos n))
    have h2 := Rat.mul_le_mul_of_nonneg_left h h1
    grind
theorem aN_nn (N : Nat) : 0 ≤ aN N := Rat.mul_nonneg (nat_nn _) (Rat.le_of_lt (cA_le N).1)
theorem aN_small {ε : Rat} (he : 0 < ε) : Ev fun N => ∀ u : Rat, 0 ≤ u → u ≤ 1 / 2 → aN N * rp u N ≤ ε := by
  obtain ⟨m, hm⟩ := arch (12 * (1 / ε))
  refine ⟨m + 1, fun N hN u h0 h => ?_⟩
  have h1 := rp_half_le h0 h N
  have h2 : aN N ≤ 3 * (N : Rat) := by
    have c := (cA_le N).2.1
    have h3 : ((2 * N + 1 : Nat) : Rat) ≤ 3 * (N : Rat) := by
      rw [show (3 : Rat) = ((3 : Nat) : Rat) from rfl, ← Rat.natCast_mul, Rat.natCast_le_natCast]; omega
    have h4 := Rat.mul_le_mul_of_nonneg_left c (nat_nn (2 * N + 1))
    unfold aN
    grind
  have h5 : (N : Rat) * (N : Rat) ≤ 4 * rp 2 N := by
    rw [rp2_nat, show (4 : Rat) = ((4 : Nat) : Rat) from rfl, ← Rat.natCast_mul, ← Rat.natCast_mul, Rat.natCast_le_natCast]
    exact nn_le_two N
  have hN0 := nat_pos (show 0 < N by omega)
  have h6 : 12 * (1 / ε) ≤ (N : Rat) := Rat.le_trans hm (by rw [Rat.natCast_le_natCast]; omega)
  have h7 := rp_nn h0 N
  -- N * (aN u^N) <= 3 N N u^N <= 12
  have h8 : (N : Rat) * (aN N * rp u N) ≤ 12 := by
    have a1 := Rat.mul_le_mul_of_nonneg_right (Rat.mul_le_mul_of_nonneg_left h2 (Rat.le_of_lt hN0)) h7
    have a2 := Rat.mul_le_mul_of_nonneg_right h5 h7
    grind
  have h9 : 12 ≤ (N : Rat) * ε := by
    have a1 := Rat.mul_le_mul_of_nonneg_right h6 (Rat.le_of_lt he)
    have a2 := one_div_mul he
    grind
  exact Rat.le_of_mul_le_mul_left (Rat.le_trans h8 h9) hN0

/-! e to i times twice the angle -/

/-- e to i times the angle of the doubled tangent -/
def dirW (v u : Rat) : GQ := ⟨1 - 2 * u, 2 * v⟩
theorem imul (c a : Rat) : (⟨0, c⟩ : GQ) * q a = ⟨0, c * a⟩ := by apply GQ.ext' <;> simp only [mul_re, mul_im, q_re, q_im] <;> grind
theorem nr_im (a : Rat) : nr ⟨0, a⟩ = ab a := by unfold nr; simp only [ab_zero]; grind
theorem RE_two (n : Nat) : RE 2 n ≤ 9 := by
  have := RE_nat n 2
  rw [show ((2 : Nat) : Rat) = 2 from rfl, show rp 3 2 = 9 by decide +kernel] at this
  exact this
theorem at_near {x r : Rat} (h0 : 0 ≤ x) (h1 : x ≤ 1) (hr : (1 + x * x) * r = 1) {N : Nat} {ε : Rat} (hN : ∀ u : Rat, 0 ≤ u → u ≤ 1 / 2 → aN N * rp u N ≤ ε) (n : Nat) :
    nr (En ⟨0, -(2 * AS (x * r) (x * x * r) N)⟩ (n + 1) * dirW (x * r) (x * x * r) - 1) ≤ 4 * (rt 2 n + ε * 9) := by
  have hy : RD (fun t => x * t) fun _ => x := (RD.id.scale x).congr (fun _ => rfl) fun t _ => by grind
  have hpos : ∀ t : Rat, 0 < 1 + x * t * (x * t) := fun t => by have := sq_nn (x * t); grind
  have hr1 : ∀ t : Rat, (1 + x * t * (x * t)) * (1 / (1 + x * t * (x * t))) = 1 := fun t => by rw [Rat.mul_comm]; exact one_div_mul (hpos t)
  have hr0 : ∀ t, In t → 0 ≤ 1 / (1 + x * t * (x * t)) ∧ 1 / (1 + x * t * (x * t)) ≤ 1 := fun t _ => by
    have a1 := inv_pos' (hpos t)
    have a2 := hr1 t
    have a3 := Rat.mul_nonneg (sq_nn (x * t)) (Rat.le_of_lt a1)
    refine ⟨Rat.le_of_lt a1, ?_⟩
    generalize 1 / (1 + x * t * (x * t)) = c at *
    grind
  obtain ⟨hv, hu, hA⟩ := AS_RD (r := fun t => 1 / (1 + x * t * (x * t))) hy hr1 hr0
  have hA := hA N
  have hf : DD (fun t => (⟨0, -(2 * AS (x * t * (1 / (1 + x * t * (x * t)))) (x * t * (x * t) * (1 / (1 + x * t * (x * t)))) N)⟩ : GQ)) fun t => ⟨0, -(2 * (x * (1 / (1 + x * t * (x * t))) * (1 - aN N * rp (x * t * (x * t) * (1 / (1 + x * t * (x * t)))) N)))⟩ :=
    (DD.scale ⟨0, -2⟩ hA).congr (fun t => by rw [imul]; congr 1; grind) fun t _ => by rw [imul]; congr 1; grind
  have hW : DD (fun t => dirW (x * t * (1 / (1 + x * t * (x * t)))) (x * t * (x * t) * (1 / (1 + x * t * (x * t))))) fun t => ⟨-(4 * (x * (1 / (1 + x * t * (x * t))) * (x * t * (1 / (1 + x * t * (x * t)))))), 2 * (x * (1 / (1 + x * t * (x * t))) * (1 - 2 * (x * t * (x * t) * (1 / (1 + x * t * (x * t))))))⟩ :=
    (DD.add ((RD.const 1).add (hu.scale (-2))) (DD.scale ⟨0, 2⟩ hv)).congr (fun t => by
      rw [imul]; unfold dirW; apply GQ.ext' <;> simp only [add_re, add_im, q_re, q_im] <;> grind) fun t _ => by
      rw [imul]; apply GQ.ext' <;> simp only [add_re, add_im, q_re, q_im] <;> grind
  have hF := (hf.En n).mul hW
  have hnear := hF.near (ε := 4 * (rt 2 n + ε * 9)) fun t ht => by
    have b1 := hr1 t
    obtain ⟨b2, b3⟩ := hr0 t ht
    have y0 : 0 ≤ x * t := Rat.mul_nonneg h0 ht.1
    have y1 : x * t ≤ 1 := by have := Rat.mul_le_mul_of_nonneg_left ht.2 h0; grind
    generalize 1 / (1 + x * t * (x * t)) = c at *
    generalize x * t = y at *
    have hu0 : 0 ≤ y * y * c := Rat.mul_nonneg (sq_nn y) b2
    have hyy : y * y ≤ 1 := by have := rmul_le y1 y1 y0 (by decide); grind
    have hu1 : y * y * c ≤ 1 / 2 := by
      have : y * y * c ≤ c := by have := Rat.mul_le_mul_of_nonneg_right hyy b2; grind
      grind
    have hv0 : 0 ≤ y * c := Rat.mul_nonneg y0 b2
    have hv1 : y * c ≤ 1 / 2 := by
      have k1 := Rat.mul_nonneg (sq_nn (1 - y)) b2
      grind
    have hp := hN _ hu0 hu1
    have hp0 := Rat.mul_nonneg (aN_nn N) (rp_nn hu0 N)
    obtain ⟨s0, s1⟩ := AS_le hv0 hv1 hu0 hu1 N
    generalize AS (y * c) (y * y * c) N = A at *
    generalize aN N * rp (y * y * c) N = p at *
    have hz : nr (⟨0, -(2 * A)⟩ : GQ) ≤ 2 := by rw [nr_im, ab_neg, ab_of (by grind)]; grind
    have e : (⟨0, -(2 * (x * c * (1 - p)))⟩ : GQ) * En ⟨0, -(2 * A)⟩ n * dirW (y * c) (y * y * c) + En ⟨0, -(2 * A)⟩ (n + 1) * ⟨-(4 * (x * c * (y * c))), 2 * (x * c * (1 - 2 * (y * y * c)))⟩ = (⟨0, 2 * (x * c)⟩ : GQ) * dirW (y * c) (y * y * c) * (et ⟨0, -(2 * A)⟩ n + q p * En ⟨0, -(2 * A)⟩ n) := by
      rw [show En (⟨0, -(2 * A)⟩ : GQ) (n + 1) = En ⟨0, -(2 * A)⟩ n + et ⟨0, -(2 * A)⟩ n from rfl]
      generalize En (⟨0, -(2 * A)⟩ : GQ) n = E0
      generalize et (⟨0, -(2 * A)⟩ : GQ) n = E1
      unfold dirW
      generalize y * y * c = u
      generalize y * c = v
      generalize x * c = d
      apply GQ.ext' <;> simp only [add_re, add_im, mul_re, mul_im, q_re, q_im] <;> grind
    rw [e]
    have g1 : nr (⟨0, 2 * (x * c)⟩ : GQ) ≤ 2 := by
      have k1 := Rat.mul_nonneg h0 b2
      have k2 := rmul_le h1 b3 b2 (by decide)
      rw [nr_im, ab_of (by grind)]; grind
    have g2 : nr (dirW (y * c) (y * y * c)) ≤ 2 := by
      unfold dirW nr
      simp only
      rw [ab_of (by grind), ab_of (by grind)]
      grind
    have g3 := Rat.le_trans (nr_mul _ _) (rmul_le g1 g2 (nr_nn _) (by decide))
    have g4 := nr_et hz n
    have g5 := Rat.le_trans (nr_En hz n) (RE_two n)
    have g6 : nr (q p * En ⟨0, -(2 * A)⟩ n) ≤ ε * 9 := by
      have k1 := nr_q_mul p (En ⟨0, -(2 * A)⟩ n)
      rw [ab_of hp0] at k1
      exact Rat.le_trans k1 (rmul_le hp g5 (nr_nn _) (Rat.le_trans hp0 hp))
    have g7 := nr_add (et (⟨0, -(2 * A)⟩ : GQ) n) (q p * En ⟨0, -(2 * A)⟩ n)
    have g8 := Rat.le_trans (nr_mul (⟨0, 2 * (x * c)⟩ * dirW (y * c) (y * y * c)) (et ⟨0, -(2 * A)⟩ n + q p * En ⟨0, -(2 * A)⟩ n)) (rmul_le g3 (show _ ≤ rt 2 n + ε * 9 by grind) (nr_nn _) (by decide +kernel))
    grind
  have hc : 1 / (1 + x * x) = r := by
    have k1 := one_div_mul (show 0 < 1 + x * x by have := sq_nn x; grind)
    generalize 1 / (1 + x * x) = c at *
    have : c = c * ((1 + x * x) * r) := by rw [hr, Rat.mul_one]
    grind
  rw [Rat.mul_one, hc] at hnear
  have e0 : En (⟨0, -(2 * AS (x * 0 * (1 / (1 + x * 0 * (x * 0)))) (x * 0 * (x * 0) * (1 / (1 + x * 0 * (x * 0)))) N)⟩ : GQ) (n + 1) * dirW (x * 0 * (1 / (1 + x * 0 * (x * 0)))) (x * 0 * (x * 0) * (1 / (1 + x * 0 * (x * 0)))) = 1 := by
    have z1 : x * 0 = 0 := Rat.mul_zero x
    rw [z1]
    have z2 : (0 : Rat) * (1 / (1 + 0 * 0)) = 0 := Rat.zero_mul _
    have z3 : (0 : Rat) * 0 * (1 / (1 + 0 * 0)) = 0 := by rw [Rat.mul_zero, Rat.zero_mul]
    rw [z2, z3]
    have z4 : ∀ M, AS 0 0 M = 0 := by
      intro M
      induction M with
      | zero => rfl
      | succ M ih => rw [AS_succ, ih]; grind
    rw [z4]
    have z5 : (⟨0, -(2 * 0)⟩ : GQ) = q 0 := by apply GQ.ext' <;> simp only [q_re, q_im] <;> grind
    rw [z5, En_q, RE_zero (by omega)]
    unfold dirW
    apply GQ.ext' <;> simp only [mul_re, mul_im, q_re, q_im, one_re, one_im] <;> grind
  rw [e0] at hnear
  exact hnear


/-- e to i times s tends to W -/
def TC (s : Nat → Rat) (W : GQ) : Prop := ∀ δ : Rat, 0 < δ → Ev fun N => Ev fun n => nr (En ⟨0, -(s N)⟩ n * W - 1) ≤ δ
theorem TC.congr {s s' : Nat → Rat} {W : GQ} (h : TC s W) (e : ∀ N, s' N = s N) : TC s' W := fun δ hδ => (h δ hδ).imp fun N hN => by rw [e]; exact hN
theorem im_add (a b : Rat) : (⟨0, -(a + b)⟩ : GQ) = ⟨0, -a⟩ + ⟨0, -b⟩ := by apply GQ.ext' <;> simp only [add_re, add_im] <;> grind
theorem TC.zero : TC (fun _ => 0) 1 := fun δ hδ => Ev.all fun N => ⟨1, fun n hn => by
  show nr (En ⟨0, -0⟩ n * 1 - 1) ≤ δ
  rw [show (⟨0, -0⟩ : GQ) = q 0 from rfl, En_q, RE_zero hn, gmul_one, show q 1 - 1 = 0 from gsub_self 1, nr_zero]
  exact Rat.le_of_lt hδ⟩
theorem TC.add {s s' : Nat → Rat} {V W : GQ} (h : TC s V) (k : TC s' W) : TC (fun N => s N + s' N) (V * W) := fun δ hδ => by
  have hB := nr_nn (V * W)
  obtain ⟨e, he, he2⟩ := eps (ε := δ) hδ (B := nr (V * W) + 2) (by grind)
  obtain ⟨e1, h1, h2, h3⟩ := rmin_ex he (show (0 : Rat) < 1 by decide)
  refine ((h e1 h1).and (k e1 h1)).imp fun N hN => ?_
  obtain ⟨n0, hadd⟩ := En_add_nul (⟨0, -(s N)⟩ : GQ) ⟨0, -(s' N)⟩ e1 h1
  refine (hN.1.and (hN.2.and ⟨n0, fun n hn => hadd n hn⟩)).imp fun n hn => ?_
  obtain ⟨a, b, c⟩ := hn
  have c : nr (En (⟨0, -(s N)⟩ : GQ) n * En ⟨0, -(s' N)⟩ n - En ((⟨0, -(s N)⟩ : GQ) + ⟨0, -(s' N)⟩) n) ≤ e1 := c
  rw [im_add]
  generalize En (⟨0, -(s N)⟩ : GQ) n = A at *
  generalize En (⟨0, -(s' N)⟩ : GQ) n = B at *
  generalize En ((⟨0, -(s N)⟩ : GQ) + ⟨0, -(s' N)⟩) n = C at *
  have e : C * (V * W) - 1 = -((A * B - C) * (V * W)) + ((A * V - 1) * (B * W - 1) + ((A * V - 1) + (B * W - 1))) := by
    apply GQ.ext' <;> simp only [add_re, add_im, mul_re, mul_im, sub_re, sub_im, neg_re, neg_im, one_re, one_im] <;> grind
  rw [e]
  have t1 := nr_add (-((A * B - C) * (V * W))) ((A * V - 1) * (B * W - 1) + ((A * V - 1) + (B * W - 1)))
  rw [nr_neg] at t1
  have t2 := Rat.le_trans (nr_mul (A * B - C) (V * W)) (Rat.mul_le_mul_of_nonneg_right c hB)
  have t3 := nr_add ((A * V - 1) * (B * W - 1)) ((A * V - 1) + (B * W - 1))
  have t4 := nr_add (A * V - 1) (B * W - 1)
  have t5 := Rat.le_trans (nr_mul (A * V - 1) (B * W - 1)) (rmul_le a b (nr_nn _) (Rat.le_of_lt h1))
  have t6 : e1 * e1 ≤ e1 := by have := Rat.mul_le_mul_of_nonneg_left h3 (Rat.le_of_lt h1); grind
  have t7 := Rat.mul_le_mul_of_nonneg_right h2 (show 0 ≤ nr (V * W) + 2 + 1 by grind)
  grind
def cj (a : GQ) : GQ := ⟨a.re, -a.im⟩
theorem cj_mul (a b : GQ) : cj (a * b) = cj a * cj b := by apply GQ.ext' <;> simp only [cj, mul_re, mul_im] <;> grind
theorem cj_add (a b : GQ) : cj (a + b) = cj a + cj b := by apply GQ.ext' <;> simp only [cj, add_re, add_im] <;> grind
theorem cj_sub (a b : GQ) : cj (a - b) = cj a - cj b := by apply GQ.ext' <;> simp only [cj, sub_re, sub_im] <;> grind
theorem cj_q (x : Rat) : cj (q x) = q x := by apply GQ.ext' <;> simp only [cj, q_re, q_im] <;> grind
theorem cj_et (z : GQ) : ∀ i, cj (et z i) = et (cj z) i
  | 0 => by show cj (q 1) = q 1; rw [cj_q]
  | i + 1 => by
    show cj (et z i * (q (1 / ((i + 1 : Nat) : Rat)) * z)) = et (cj z) i * (q (1 / ((i + 1 : Nat) : Rat)) * cj z)
    rw [cj_mul, cj_mul, cj_et z i, cj_q]
theorem cj_En (z : GQ) : ∀ n, cj (En z n) = En (cj z) n
  | 0 => by show cj (q 0) = q 0; rw [cj_q]
  | n + 1 => by
    show cj (En z n + et z n) = En (cj z) n + et (cj z) n
    rw [cj_add, cj_En z n, cj_et]
theorem nr_cj (a : GQ) : nr (cj a) = nr a := by unfold nr cj; simp only [ab_neg]
theorem TC.neg {s : Nat → Rat} {W : GQ} (h : TC s W) : TC (fun N => -s N) (cj W) := fun δ hδ => (h δ hδ).imp fun N hN => hN.imp fun n hn => by
  have e : En (⟨0, -(-s N)⟩ : GQ) n * cj W - 1 = cj (En ⟨0, -(s N)⟩ n * W - 1) := by
    rw [cj_sub, cj_mul, cj_En, show cj (⟨0, -(s N)⟩ : GQ) = ⟨0, -(-s N)⟩ from rfl, show cj 1 = 1 from cj_q 1]
  rw [e, nr_cj]
  exact hn
theorem TC.times {s : Nat → Rat} {W : GQ} (h : TC s W) : ∀ k : Nat, TC (fun N => (k : Rat) * s N) (pw W k)
  | 0 => TC.zero.congr fun N => by rw [show ((0 : Nat) : Rat) = 0 from rfl, Rat.zero_mul]
  | k + 1 => ((h.times k).add h).congr fun N => by rw [Rat.natCast_add, show ((1 : Nat) : Rat) = 1 from rfl]; grind

/-- e to i times the doubled angle -/
theorem at_to {x r : Rat} (h0 : 0 ≤ x) (h1 : x ≤ 1) (hr : (1 + x * x) * r = 1) : TC (fun N => 2 * AS (x * r) (x * x * r) N) (dirW (x * r) (x * x * r)) := fun δ hδ => by
  refine (aN_small (ε := δ / 72) (by grind)).imp fun N hN => ?_
  obtain ⟨n0, hn0⟩ := rt_small (x := 2) (by decide) (ε := δ / 8) (by grind)
  refine ⟨n0 + 1, fun n hn => ?_⟩
  have a1 := at_near h0 h1 hr hN (n - 1)
  rw [show n - 1 + 1 = n by omega] at a1
  have a2 := hn0 (n - 1) (by omega)
  grind

/-! small angles -/

theorem RE_small {x : Rat} (h0 : 0 ≤ x) (h : x ≤ 1 / 2) (n : Nat) : RE x (n + 1) ≤ 1 + (x + x) := by
  have h1 := RE_rest h0 (n := 1) (by rw [show ((1 + 1 : Nat) : Rat) = 2 by decide +kernel]; grind) n
  have h2 := rt_nn h0 (1 + n)
  rw [show 1 + n = n + 1 by omega] at h1 h2
  have h3 : RE x 1 + (rt x 1 + rt x 1) = 1 + (x + x) := by
    show (0 + (1 : Rat)) + (1 * (1 / ((0 + 1 : Nat) : Rat) * x) + 1 * (1 / ((0 + 1 : Nat) : Rat) * x)) = _
    rw [show (1 : Rat) / ((0 + 1 : Nat) : Rat) = 1 by decide +kernel]; grind
  grind
/-- e to z less 1 is at most twice as large as z -/
theorem En_one {z : GQ} {x : Rat} (hz : nr z ≤ x) (h : x ≤ 1 / 2) (n : Nat) : nr (En z (n + 1) - 1) ≤ x + x := by
  have h0 : 0 ≤ x := Rat.le_trans (nr_nn z) hz
  have key : ∀ n, nr (En z (n + 1) - 1) ≤ RE x (n + 1) - 1 := by
    intro n
    induction n with
    | zero =>
      have e : En z (0 + 1) - 1 = 0 := by show (0 : GQ) + 1 - 1 = 0; rw [gadd_sub_cancel]
      rw [e, nr_zero]
      show (0 : Rat) ≤ 0 + 1 - 1
      decide +kernel
    | succ n ih =>
      have e : En z (n + 1 + 1) - 1 = (En z (n + 1) - 1) + et z (n + 1) := by
        show En z (n + 1) + et z (n + 1) - 1 = _
        apply GQ.ext' <;> simp only [add_re, add_im, sub_re, sub_im, one_re, one_im] <;> grind
      rw [e, RE_succ]
      have := nr_add (En z (n + 1) - 1) (et z (n + 1))
      have := nr_et hz (n + 1)
      grind
  have := key n
  have := RE_small h0 h n
  grind
/-- e to z less 1 and z is at most the square, twice -/
theorem En_two {z : GQ} {x : Rat} (hz : nr z ≤ x) (h : x ≤ 1 / 2) (n : Nat) : nr (En z (n + 2) - 1 - z) ≤ 2 * (x * x) := by
  have h0 : 0 ≤ x := Rat.le_trans (nr_nn z) hz
  have key : ∀ n, nr (En z (n + 2) - 1 - z) + (rt x (n + 2) + rt x (n + 2)) ≤ 2 * (x * x) := by
    intro n
    induction n with
    | zero =>
      have e : En z (0 + 2) - 1 - z = 0 := by
        have e1 : et z 1 = z := by
          show (1 : GQ) * (q (1 / ((0 + 1 : Nat) : Rat)) * z) = z
          rw [gone_mul, show q (1 / ((0 + 1 : Nat) : Rat)) = 1 from by apply GQ.ext' <;> decide +kernel, gone_mul]
        show (0 : GQ) + 1 + et z 1 - 1 - z = 0
        rw [e1]
        apply GQ.ext' <;> simp only [add_re, add_im, sub_re, sub_im, one_re, one_im, zero_re, zero_im] <;> grind
      rw [e, nr_zero]
      have e2 : rt x (0 + 2) = x * x / 2 := by
        show 1 * (1 / ((0 + 1 : Nat) : Rat) * x) * (1 / ((1 + 1 : Nat) : Rat) * x) = _
        rw [show (1 : Rat) / ((0 + 1 : Nat) : Rat) = 1 by decide +kernel, show (1 : Rat) / ((1 + 1 : Nat) : Rat) = 1 / 2 by decide +kernel]; grind
      rw [e2]
      have := sq_nn x
      grind
    | succ n ih =>
      have e : En z (n + 1 + 2) - 1 - z = (En z (n + 2) - 1 - z) + et z (n + 2) := by
        show En z (n + 2) + et z (n + 2) - 1 - z = _
        apply GQ.ext' <;> simp only [add_re, add_im, sub_re, sub_im, one_re, one_im] <;> grind
      rw [e]
      have t1 := nr_add (En z (n + 2) - 1 - z) (et z (n + 2))
      have t2 := nr_et hz (n + 2)
      have t3 := rt_half h0 (n := n + 2) (by
        have : ((1 : Nat) : Rat) ≤ ((n + 2 + 1 : Nat) : Rat) := by rw [Rat.natCast_le_natCast]; omega
        rw [show ((1 : Nat) : Rat) = 1 from rfl] at this
        grind) 0
      rw [Nat.add_zero] at t3
      rw [show n + 1 + 2 = n + 2 + 1 from rfl]
      grind
  have := key n
  have := rt_nn h0 (n + 2)
  grind
theorem sub_TC {s : Nat → Rat} (h : TC s 1) (hb : Ev fun N => ab (s N) ≤ 1 / 4) {ε : Rat} (he : 0 < ε) : Ev fun N => ab (s N) ≤ ε := by
  refine ((h (ε / 2) (by grind)).and hb).imp fun N hN => ?_
  obtain ⟨⟨n0, hn⟩, hs⟩ := hN
  have h1 : nr (En (⟨0, -(s N)⟩ : GQ) (n0 + 2) * 1 - 1) ≤ ε / 2 := hn (n0 + 2) (by omega)
  have hz : nr (⟨0, -(s N)⟩ : GQ) ≤ ab (s N) := by rw [nr_im, ab_neg]; exact Rat.le_refl
  have h2 := En_two hz (by grind) n0
  rw [gmul_one] at h1
  have e : (⟨0, -(s N)⟩ : GQ) = (En ⟨0, -(s N)⟩ (n0 + 2) - 1) - (En ⟨0, -(s N)⟩ (n0 + 2) - 1 - ⟨0, -(s N)⟩) := by
    apply GQ.ext' <;> simp only [sub_re, sub_im] <;> grind
  have h3 := nr_sub (En (⟨0, -(s N)⟩ : GQ) (n0 + 2) - 1) (En ⟨0, -(s N)⟩ (n0 + 2) - 1 - ⟨0, -(s N)⟩)
  rw [← e, nr_im, ab_neg] at h3
  have h4 := Rat.mul_le_mul_of_nonneg_left hs (ab_nn (s N))
  grind
/-- equal directions and not far apart: the same -/
theorem TC.uniq {s s' : Nat → Rat} {W : GQ} (h : TC s W) (k : TC s' W) (hW : W * cj W = 1) (hb : Ev fun N => ab (s N - s' N) ≤ 1 / 4) {ε : Rat} (he : 0 < ε) : Ev fun N => ab (s N - s' N) ≤ ε := by
  have h1 := (h.add k.neg).congr (s' := fun N => s N - s' N) fun N => by grind
  rw [hW] at h1
  exact sub_TC h1 hb he

/-! none is near a rational -/

theorem nr_le_two {W : GQ} (h : W * cj W = 1) : nr W ≤ 2 := by
  have h1 := congrArg GQ.re h
  simp only [cj, mul_re, one_re] at h1
  have key : ∀ a : Rat, a * a ≤ 1 → ab a ≤ 1 := by
    intro a ha
    rcases rat_lt_or 1 (ab a) with h2 | h2
    · exfalso
      have h3 := Rat.mul_lt_mul_of_pos_left h2 (show 0 < ab a by grind)
      rw [ab_sq] at h3
      grind
    · exact h2
  have a1 := key W.re (by have := sq_nn W.im; grind)
  have a2 := key W.im (by have := sq_nn W.re; grind)
  unfold nr
  grind
/-- a direction of few digits -/
structure Wok (W : GQ) : Prop where
  one : W * cj W = 1
  den : ∃ k : Nat, 0 < k ∧ k ≤ 2 ^ 250 ∧ Wh (gn k * cj W)
/-- an angle is not near a rational of few digits -/
theorem at_far {s : Nat → Rat} {W : GQ} {c η : Rat} {b : Nat} (h : TC s W) (hW : Wok W) (hc0 : c ≠ 0) (hc : ab c ≤ 128) (hb0 : 0 < b) (hb : b ≤ 2 ^ 200) (hbc : ∃ z : Int, ((b : Nat) : Rat) * c = (z : Rat)) (hη : η ≤ 1 / 2) (hs : Ev fun N => ab (s N - c) ≤ η) : 1 ≤ rp 2 KE * (12 * η) := by
  obtain ⟨k, hk0, hk, hkW⟩ := hW.den
  obtain ⟨z, hz⟩ := hbc
  have hm := measure (K := KE) (C := 250) (z := ⟨0, -c⟩) (x := cj W) (fun e => hc0 (by have := congrArg GQ.im e; simp only [zero_im] at this; grind)) (by rw [nr_im, ab_neg]; exact hc) hb0 hb (Nat.le_refl _) ⟨0, -z, by
    apply GQ.ext'
    · simp only [mul_re, P.gn, q_re, q_im]; grind
    · simp only [mul_im, P.gn, q_re, q_im]; rw [Rat.intCast_neg, ← hz]; grind⟩ hk0 hk (by decide) hkW (Nat.le_refl _)
  have hη0 : 0 ≤ η := by
    obtain ⟨N, hN⟩ := hs.ex
    exact Rat.le_trans (ab_nn _) hN
  have hw2 := nr_le_two hW.one
  have hp := rp2_pos KE
  refine le_eps fun ε he => ?_
  obtain ⟨d, hd, hd2⟩ := eps he (B := rp 2 KE * 8) (by grind)
  obtain ⟨d1, hd1, hd3, hd4⟩ := rmin_ex hd (show (0 : Rat) < 1 by decide)
  obtain ⟨N, hN, hsN⟩ := ((h d1 hd1).and hs).ex
  obtain ⟨na, hadd⟩ := En_add_nul (⟨0, -(s N)⟩ : GQ) ⟨0, s N - c⟩ d1 hd1
  obtain ⟨n, h1, h2, h3, h4⟩ := (hN.and (Ev.and ⟨na, fun n hn => hadd n hn⟩ (Ev.and hm ⟨1, fun n hn => hn⟩))).ex
  have hsum : (⟨0, -(s N)⟩ : GQ) + ⟨0, s N - c⟩ = ⟨0, -c⟩ := by apply GQ.ext' <;> simp only [add_re, add_im] <;> grind
  rw [hsum] at h2
  have hE : nr (En (⟨0, s N - c⟩ : GQ) n - 1) ≤ η + η := by
    obtain ⟨m, rfl⟩ : ∃ m, n = m + 1 := ⟨n - 1, by omega⟩
    exact En_one (by rw [nr_im]; exact hsN) hη m
  generalize hA : En (⟨0, -(s N)⟩ : GQ) n = A at *
  generalize hB : En (⟨0, s N - c⟩ : GQ) n = B at *
  generalize hC : En (⟨0, -c⟩ : GQ) n = C at *
  have e : C - cj W = -(A * B - C) + ((A * W - 1) * cj W * B + cj W * (B - 1)) := by
    have e1 : A = A * W * cj W := by rw [gmul_assoc, hW.one, gmul_one]
    have e2 : A * B = A * W * cj W * B := by rw [← e1]
    rw [e2]
    generalize A * W = Y
    apply GQ.ext' <;> simp only [add_re, add_im, mul_re, mul_im, sub_re, sub_im, neg_re, neg_im, one_re, one_im] <;> grind
  have hcw : nr (cj W) ≤ 2 := by rw [nr_cj]; exact hw2
  have hB2 : nr B ≤ 2 := by
    have e2 : B = 1 + (B - 1) := by rw [gadd_comm, gsub_add_cancel]
    have := nr_add 1 (B - 1)
    rw [← e2, nr_one] at this
    grind
  have t1 := nr_add (-(A * B - C)) ((A * W - 1) * cj W * B + cj W * (B - 1))
  rw [nr_neg] at t1
  have t2 := nr_add ((A * W - 1) * cj W * B) (cj W * (B - 1))
  have t3 := Rat.le_trans (nr_mul (A * W - 1) (cj W)) (rmul_le h1 hcw (nr_nn _) (Rat.le_of_lt hd1))
  have t4 := Rat.le_trans (nr_mul ((A * W - 1) * cj W) B) (rmul_le t3 hB2 (nr_nn _) (by grind))
  have t5 := Rat.le_trans (nr_mul (cj W) (B - 1)) (rmul_le hcw hE (nr_nn _) (by decide))
  rw [← e] at t1
  have t6 : nr (C - cj W) ≤ 5 * d1 + 4 * η := by grind
  have t7 := Rat.mul_le_mul_of_nonneg_left t6 (Rat.le_of_lt hp)
  have t8 := Rat.mul_le_mul_of_nonneg_left hd3 (Rat.le_of_lt hp)
  have t9 := Rat.mul_nonneg (Rat.le_of_lt hp) hη0
  have t10 := Rat.mul_nonneg (Rat.le_of_lt hp) (Rat.le_of_lt hd)
  generalize rp 2 KE = K at *
  grind


def gT (b t : Sp) (w : Nat) : Nat → Sp
  | 0 => t
  | j + 1 => spTimes (spMul (gT b t w j) b w) (2 * (j + 1)) (2 * (j + 1) + 1)
def gA (b t : Sp) (w : Nat) : Nat → Sp
  | 0 => t
  | j + 1 => spAdd (gA b t w j) (gT b t w (j + 1))
theorem cn_gT {w : Nat} {b t : Sp} {u v : Rat} (hb : Cn w b u) (ht : Cn w t v) : ∀ j, Cn w (gT b t w j) (cA j * (v * rp u j))
  | 0 => by show Cn w t (1 * (v * 1)); rw [Rat.one_mul, Rat.mul_one]; exact ht
  | j + 1 => by
    refine cn_times (by omega) (cn_mul (cn_gT hb ht j) hb) ?_
    have h1 := one_div_mul (nat_pos (show 0 < 2 * j + 3 by omega))
    show cA j * (((2 * j + 2 : Nat) : Rat) * (1 / ((2 * j + 3 : Nat) : Rat))) * (v * (rp u j * u)) * ((2 * j + 3 : Nat) : Rat) = cA j * (v * rp u j) * u * ((2 * j + 2 : Nat) : Rat)
    generalize ((2 * j + 3 : Nat) : Rat) = a at *
    generalize ((2 * j + 2 : Nat) : Rat) = c at *
    have e : cA j * (c * (1 / a)) * (v * (rp u j * u)) * a = cA j * c * (v * (rp u j * u)) * (1 / a * a) := by grind
    rw [e, h1]; grind
theorem cn_gA {w : Nat} {b t : Sp} {u v : Rat} (hb : Cn w b u) (ht : Cn w t v) : ∀ j, Cn w (gA b t w j) (AS v u (j + 1))
  | 0 => by
    show Cn w t (0 + 1 * (v * 1))
    rw [show (0 : Rat) + 1 * (v * 1) = v by grind]; exact ht
  | j + 1 => by
    rw [AS_succ]
    exact cn_add (cn_gA hb ht j) (cn_gT hb ht (j + 1))
/-- what the row starts with -/
structure Gok (b t : Sp) (w : Nat) : Prop where
  w64 : 64 ≤ w
  b2 : 2 * b.2 ≤ 2 ^ w + 2
  b1 : b.2 = b.1 + 1
  t2 : 2 * t.2 ≤ 2 ^ w + 2
  t1 : t.2 = t.1 + 1
theorem two64 {w : Nat} (h : 64 ≤ w) : 1000 ≤ 2 ^ w := by
  have h2 : 2 ^ 64 ≤ 2 ^ w := Nat.pow_le_pow_right (by omega) h
  have h3 : (2 : Nat) ^ 64 = 18446744073709551616 := by decide
  omega
theorem times_less (m k : Nat) : (m + 1) * (2 * (k + 1)) / (2 * (k + 1) + 1) ≤ m := by
  have : (m + 1) * (2 * (k + 1)) / (2 * (k + 1) + 1) < m + 1 := by
    rw [Nat.div_lt_iff_lt_mul (by omega), Nat.mul_add (m + 1) (2 * (k + 1)) 1]
    omega
  omega
/-- a product with about a half -/
theorem half_mul {a b w : Nat} (hb : 2 * b ≤ 2 ^ w + 2) (ha : a ≤ 2 ^ w) : a * b / 2 ^ w ≤ (a + 2) / 2 := by
  have hw := pow_pos2 w
  rw [Nat.le_div_iff_mul_le (by omega)]
  have a1 : a * b / 2 ^ w * 2 ^ w ≤ a * b := Nat.div_mul_le_self _ _
  have a2 : a * (2 * b) ≤ a * (2 ^ w + 2) := Nat.mul_le_mul_left _ hb
  refine Nat.le_of_mul_le_mul_right (c := 2 ^ w) ?_ hw
  rw [Nat.mul_right_comm, Nat.add_mul]
  rw [Nat.mul_add, Nat.mul_left_comm] at a2
  omega
theorem half_mul' {a b w : Nat} (hw : 64 ≤ w) (hb : 2 * b ≤ 2 ^ w + 2) (ha : 2 * a < 2 ^ w) : a * b / 2 ^ w ≤ a / 2 := by
  have hp := pow_pos2 w
  have h : a * b / 2 ^ w < a / 2 + 1 := by
    rw [Nat.div_lt_iff_lt_mul hp]
    have a2 : a * (2 * b) ≤ a * (2 ^ w + 2) := Nat.mul_le_mul_left _ hb
    rw [Nat.mul_add, Nat.mul_left_comm] at a2
    have a3 : (a - 1) * 2 ^ w ≤ (2 * (a / 2)) * 2 ^ w := Nat.mul_le_mul_right _ (by omega)
    have a4 : a * 2 ^ w ≤ (2 * (a / 2)) * 2 ^ w + 2 ^ w := by
      rcases Nat.eq_zero_or_pos a with e | e
      · subst e; omega
      · have : a * 2 ^ w = (a - 1) * 2 ^ w + 2 ^ w := by
          rw [← Nat.succ_mul]; congr 1; omega
        omega
    rw [Nat.add_mul, Nat.one_mul]
    rw [Nat.mul_assoc] at a4
    omega
  omega
theorem gT_le {b t : Sp} {w : Nat} (h : Gok b t w) : ∀ j, 2 * (gT b t w j).2 ≤ 2 ^ w + 8
  | 0 => by have := h.t2; simp only [gT]; omega
  | j + 1 => by
    have ih := gT_le h j
    have hw := two64 h.w64
    have h1 := half_mul (a := (gT b t w j).2) h.b2 (by omega)
    have h2 := times_less ((gT b t w j).2 * b.2 / 2 ^ w) j
    simp only [gT]
    rw [spTimes, spMul]
    show 2 * (((gT b t w j).2 * b.2 / 2 ^ w + 1) * (2 * (j + 1)) / (2 * (j + 1) + 1) + 1) ≤ 2 ^ w + 8
    omega
theorem gT_width {b t : Sp} {w : Nat} (h : Gok b t w) : ∀ j, (gT b t w j).1 ≤ (gT b t w j).2 ∧ (gT b t w j).2 ≤ (gT b t w j).1 + 12
  | 0 => by have := h.t1; simp only [gT]; omega
  | j + 1 => by
    obtain ⟨h1, h2⟩ := gT_width h j
    have h3 := gT_le h j
    have hw := pow_pos2 w
    have hw2 := two64 h.w64
    have hb1 := h.b1
    have hb2 := h.b2
    simp only [gT]
    rw [spTimes, spMul]
    generalize gT b t w j = s at *
    have hm : s.2 * b.2 ≤ s.1 * b.1 + 8 * 2 ^ w := by
      have a1 : s.2 * b.2 ≤ (s.1 + 12) * b.2 := Nat.mul_le_mul_right _ h2
      have a2 : s.1 * b.2 = s.1 * b.1 + s.1 := by rw [hb1, Nat.mul_add, Nat.mul_one]
      rw [Nat.add_mul, a2] at a1
      omega
    have hq : s.2 * b.2 / 2 ^ w ≤ s.1 * b.1 / 2 ^ w + 8 := by
      have := Nat.div_le_div_right (c := 2 ^ w) hm
      rwa [Nat.add_mul_div_right _ _ hw] at this
    have hq0 : s.1 * b.1 / 2 ^ w ≤ s.2 * b.2 / 2 ^ w := Nat.div_le_div_right (Nat.mul_le_mul h1 (by omega))
    show s.1 * b.1 / 2 ^ w * (2 * (j + 1)) / (2 * (j + 1) + 1) ≤ (s.2 * b.2 / 2 ^ w + 1) * (2 * (j + 1)) / (2 * (j + 1) + 1) + 1 ∧ (s.2 * b.2 / 2 ^ w + 1) * (2 * (j + 1)) / (2 * (j + 1) + 1) + 1 ≤ s.1 * b.1 / 2 ^ w * (2 * (j + 1)) / (2 * (j + 1) + 1) + 12
    generalize s.1 * b.1 / 2 ^ w = p at *
    generalize s.2 * b.2 / 2 ^ w = r at *
    have b1 : p * (2 * (j + 1)) / (2 * (j + 1) + 1) ≤ (r + 1) * (2 * (j + 1)) / (2 * (j + 1) + 1) := Nat.div_le_div_right (Nat.mul_le_mul_right _ (by omega))
    have b2 : (r + 1) * (2 * (j + 1)) / (2 * (j + 1) + 1) ≤ p * (2 * (j + 1)) / (2 * (j + 1) + 1) + 9 := by
      have c1 : (r + 1) * (2 * (j + 1)) ≤ p * (2 * (j + 1)) + 9 * (2 * (j + 1) + 1) := by
        have : (r + 1) * (2 * (j + 1)) ≤ (p + 9) * (2 * (j + 1)) := Nat.mul_le_mul_right _ (by omega)
        rw [Nat.add_mul p 9] at this
        omega
      have := Nat.div_le_div_right (c := 2 * (j + 1) + 1) c1
      rwa [Nat.add_mul_div_right _ _ (by omega)] at this
    omega
theorem gT_falls {b t : Sp} {w : Nat} (h : Gok b t w) : ∀ j, j ≤ w → (gT b t w j).2 ≤ 2 ^ (w - j) + 3
  | 0, _ => by have := h.t2; have := two64 h.w64; simp only [gT, Nat.sub_zero]; omega
  | 1, _ => by
    have ih := gT_le h 0
    have hw := two64 h.w64
    have h1 := half_mul (a := (gT b t w 0).2) h.b2 (by omega)
    have h2 := times_less ((gT b t w 0).2 * b.2 / 2 ^ w) 0
    have hw3 : 2 ^ w = 2 ^ (w - 1) * 2 := by rw [← Nat.pow_succ]; congr 1; have := h.w64; omega
    rw [show gT b t w 1 = spTimes (spMul (gT b t w 0) b w) (2 * (0 + 1)) (2 * (0 + 1) + 1) from rfl, spTimes, spMul]
    show ((gT b t w 0).2 * b.2 / 2 ^ w + 1) * (2 * (0 + 1)) / (2 * (0 + 1) + 1) + 1 ≤ 2 ^ (w - 1) + 3
    omega
  | j + 2, hj => by
    have ih := gT_falls h (j + 1) (by omega)
    have hw := two64 h.w64
    have hs : 2 ^ (w - (j + 1)) = 2 ^ (w - (j + 2)) * 2 := by rw [← Nat.pow_succ]; congr 1; omega
    have hle : 2 ^ (w - (j + 2)) * 4 ≤ 2 ^ w := by
      rw [show (4 : Nat) = 2 ^ 2 by decide, ← Nat.pow_add]; exact Nat.pow_le_pow_right (by omega) (by omega)
    have h1 : (gT b t w (j + 1)).2 * b.2 / 2 ^ w ≤ 2 ^ (w - (j + 2)) + 2 := by
      rw [hs] at ih
      by_cases hc : 2 * (gT b t w (j + 1)).2 < 2 ^ w
      · have := half_mul' h.w64 h.b2 hc; omega
      · have := half_mul (a := (gT b t w (j + 1)).2) h.b2 (by omega)
        omega
    have h2 := times_less ((gT b t w (j + 1)).2 * b.2 / 2 ^ w) (j + 1)
    rw [show gT b t w (j + 2) = spTimes (spMul (gT b t w (j + 1)) b w) (2 * (j + 1 + 1)) (2 * (j + 1 + 1) + 1) from rfl, spTimes, spMul]
    show ((gT b t w (j + 1)).2 * b.2 / 2 ^ w + 1) * (2 * (j + 1 + 1)) / (2 * (j + 1 + 1) + 1) + 1 ≤ 2 ^ (w - (j + 2)) + 3
    omega
theorem gT_ends {b t : Sp} {w : Nat} (h : Gok b t w) : (gT b t w (w + 1)).2 ≤ 3 := by
  have h0 := gT_falls h w (Nat.le_refl _)
  have hw := two64 h.w64
  rw [Nat.sub_self, Nat.pow_zero] at h0
  have h1 := half_mul' (a := (gT b t w w).2) h.w64 h.b2 (by omega)
  have h2 := times_less ((gT b t w w).2 * b.2 / 2 ^ w) w
  rw [show gT b t w (w + 1) = spTimes (spMul (gT b t w w) b w) (2 * (w + 1)) (2 * (w + 1) + 1) from rfl, spTimes, spMul]
  show ((gT b t w w).2 * b.2 / 2 ^ w + 1) * (2 * (w + 1)) / (2 * (w + 1) + 1) + 1 ≤ 3
  omega
def gJ (b t : Sp) (w : Nat) : Nat := fst (fun j => decide ((gT b t w j).2 ≤ 3)) (w + 1) 0
theorem gJ_spec {b t : Sp} {w : Nat} (h : Gok b t w) : (gT b t w (gJ b t w)).2 ≤ 3 ∧ (∀ i, i < gJ b t w → 3 < (gT b t w i).2) ∧ gJ b t w ≤ w + 1 := by
  obtain ⟨a, c, d, _⟩ := fst_spec (fun j => decide ((gT b t w j).2 ≤ 3)) (w + 1) 0 (w + 1) (by simpa using gT_ends h) (by omega) (by omega)
  refine ⟨of_decide_eq_true a, fun i hi => ?_, d⟩
  have := c i (by omega) hi
  simp only [decide_eq_false_iff_not] at this
  omega
def gR (b t : Sp) (w : Nat) : Sp := spWider (gA b t w (gJ b t w)) 8
theorem gA_width {b t : Sp} {w : Nat} (h : Gok b t w) : ∀ j, (gA b t w j).1 ≤ (gA b t w j).2 ∧ (gA b t w j).2 ≤ (gA b t w j).1 + 12 * (j + 1) ∧ (gA b t w j).2 ≤ (2 ^ w + 4) * (j + 1)
  | 0 => by have := h.t1; have := h.t2; simp only [gA]; omega
  | j + 1 => by
    obtain ⟨i1, i2, i3⟩ := gA_width h j
    obtain ⟨h1, h2⟩ := gT_width h (j + 1)
    have h3 := gT_le h (j + 1)
    have hw := pow_pos2 w
    simp only [gA, spAdd]
    rw [Nat.mul_succ (2 ^ w + 4)]
    omega
theorem gR_width {b t : Sp} {w : Nat} (h : Gok b t w) : (gR b t w).1 ≤ (gR b t w).2 ∧ (gR b t w).2 ≤ (gR b t w).1 + (12 * (w + 2) + 8) := by
  obtain ⟨i1, i2, _⟩ := gA_width h (gJ b t w)
  have := (gJ_spec h).2.2
  simp only [gR, spWider]
  omega
theorem g_short {b t : Sp} {w : Nat} (h : Gok b t w) (hw : w < 2 ^ 37) {j : Nat} (hj : j ≤ w + 1) : (gT b t w j).1 < 2 ^ (w + 2) ∧ (gT b t w j).2 < 2 ^ (w + 2) ∧ (gA b t w j).1 < 2 ^ (w + 40) ∧ (gA b t w j).2 < 2 ^ (w + 40) := by
  have h1 := gT_le h j
  have h2 := (gT_width h j).1
  obtain ⟨h3, _, h4⟩ := gA_width h j
  have h5 : (2 ^ w + 4) * (j + 1) ≤ (2 ^ w + 4) * 2 ^ 38 := Nat.mul_le_mul_left _ (by omega)
  have h6 := two64 h.w64
  rw [Nat.pow_add, Nat.pow_add]
  have h7 : (2 ^ w + 4) * 2 ^ 38 = 2 ^ w * 2 ^ 38 + 4 * 2 ^ 38 := by rw [Nat.add_mul]
  have h8 : (2 : Nat) ^ 38 = 274877906944 := by decide
  have h9 : (2 : Nat) ^ 40 = 1099511627776 := by decide
  have h10 : 2 ^ 64 ≤ 2 ^ w := Nat.pow_le_pow_right (by omega) h.w64
  have h11 : (2 : Nat) ^ 64 = 18446744073709551616 := by decide
  omega
theorem gR_short {b t : Sp} {w : Nat} (h : Gok b t w) (hw : w < 2 ^ 37) : (gR b t w).1 < 2 ^ (w + 41) ∧ (gR b t w).2 < 2 ^ (w + 41) := by
  obtain ⟨_, _, h3, h4⟩ := g_short h hw (gJ_spec h).2.2
  have hw2 := two64 h.w64
  simp only [gR, spWider]
  rw [show w + 41 = w + 40 + 1 from rfl, Nat.pow_succ]
  have : 2 ^ w ≤ 2 ^ (w + 40) := Nat.pow_le_pow_right (by omega) (by omega)
  omega
theorem gR_in {b t : Sp} {w : Nat} {u v : Rat} (hb : Cn w b u) (ht : Cn w t v) (hu : u ≤ 1 / 2) (h : Gok b t w) : ∀ N, gJ b t w + 1 ≤ N → Cn w (gR b t w) (AS v u N) := by
  intro N hN
  obtain ⟨r, rfl⟩ : ∃ r, N = gJ b t w + 1 + r := ⟨N - (gJ b t w + 1), by omega⟩
  have hu0 := hb.nn
  have hv0 := ht.nn
  have h1 := cn_gA hb ht (gJ b t w)
  have h2 := cn_gT hb ht (gJ b t w)
  have h3 := (gJ_spec h).1
  have h4 := AS_rest hv0 hu0 hu (gJ b t w + 1) r
  have h5 := AS_mono hv0 hu0 (gJ b t w + 1) r
  have hp := rp2_pos w
  have h7 : ((gT b t w (gJ b t w)).2 : Rat) ≤ ((3 : Nat) : Rat) := by rw [Rat.natCast_le_natCast]; exact h3
  rw [show ((3 : Nat) : Rat) = 3 from rfl] at h7
  have h8 : 0 ≤ cA (gJ b t w + 1 + r) * (v * rp u (gJ b t w + 1 + r)) := Rat.mul_nonneg (Rat.le_of_lt (cA_le _).1) (Rat.mul_nonneg hv0 (rp_nn hu0 _))
  have h9 : 2 * (cA (gJ b t w + 1) * (v * rp u (gJ b t w + 1))) ≤ cA (gJ b t w) * (v * rp u (gJ b t w)) := by
    show 2 * (cA (gJ b t w + 1) * (v * (rp u (gJ b t w) * u))) ≤ _
    obtain ⟨c1, c2, c3⟩ := cA_le (gJ b t w)
    have k1 := Rat.mul_nonneg hv0 (rp_nn hu0 (gJ b t w))
    have k2 := Rat.mul_le_mul_of_nonneg_left hu k1
    have k3 := Rat.mul_le_mul_of_nonneg_right c3 (Rat.mul_nonneg k1 hu0)
    have k4 := Rat.mul_le_mul_of_nonneg_left k2 (Rat.le_of_lt c1)
    have e : v * (rp u (gJ b t w) * u) = v * rp u (gJ b t w) * u := by grind
    rw [e]
    generalize v * rp u (gJ b t w) * u = p at *
    generalize v * rp u (gJ b t w) = q at *
    grind
  obtain ⟨a1, a2⟩ := h1
  have b2 := h2.2
  constructor
  · show (((gA b t w (gJ b t w)).1 : Nat) : Rat) ≤ _
    have c1 := Rat.mul_le_mul_of_nonneg_right h5 (Rat.le_of_lt hp)
    grind
  · show _ ≤ (((gA b t w (gJ b t w)).2 + 8 : Nat) : Rat)
    rw [Rat.natCast_add, show ((8 : Nat) : Rat) = 8 from rfl]
    have c0 : AS v u (gJ b t w + 1 + r) ≤ AS v u (gJ b t w + 1) + cA (gJ b t w) * (v * rp u (gJ b t w)) := by grind
    have c1 := Rat.mul_le_mul_of_nonneg_right c0 (Rat.le_of_lt hp)
    rw [Rat.add_mul] at c1
    grind

end Go.Proofs.Ytifnpelkoklcnaa.P
