/- Changes of what depends on a number from 0 to 1: of sums, products, quotients, e to a power; what changes little everywhere changes little in all. No condition. The same for rationals; numbers to which e's powers tend; logarithms by the row of odd powers. Condition: the quotient is at most a third. Logarithms as the program reckons them, and the two whole numbers that hold one. Conditions: w from 64 on, the powers of two at most 1000; at most 200 bits are asked. The two whole numbers that hold a logarithm: they are found, and there are only two such; what follows. Condition: at most 200 bits are asked. -/
import Derived.Test.YtjfaefgabaimaaaGreatPe
set_option linter.unusedSimpArgs false
set_option linter.unusedVariables false
namespace Go.Proofs.YtjfaefgabaimaaaGreat.P
open GQ
def In (t : Rat) : Prop := 0 ≤ t ∧ t ≤ 1
/-- f changes as g says, up to C times the square of the way -/
structure DC (C : Rat) (f g : Rat → GQ) : Prop where
  nn : 0 ≤ C
  bf : ∀ t, In t → nr (f t) ≤ C
  bg : ∀ t, In t → nr (g t) ≤ C
  dd : ∀ t u, In t → In u → nr (f u - f t - q (u - t) * g t) ≤ C * ((u - t) * (u - t))
def DD (f g : Rat → GQ) : Prop := ∃ C, DC C f g
theorem nr_q_mul (x : Rat) (a : GQ) : nr (q x * a) ≤ ab x * nr a := by
  have := nr_mul (q x) a
  rwa [nr_q] at this
theorem ab_sq (x : Rat) : ab x * ab x = x * x := by unfold ab; split <;> grind
theorem In.ab {t u : Rat} (h : In t) (k : In u) : ab (u - t) ≤ 1 := by
  obtain ⟨h1, h2⟩ := h
  obtain ⟨k1, k2⟩ := k
  exact ab_le.2 ⟨by grind, by grind⟩
theorem ab_sq_le {x : Rat} (h : ab x ≤ 1) : x * x ≤ ab x := by
  rw [← ab_sq]
  have := Rat.mul_le_mul_of_nonneg_left h (ab_nn x)
  grind
theorem DD.congr {f g f' g' : Rat → GQ} (h : DD f g) (e1 : ∀ t, f' t = f t) (e2 : ∀ t, In t → g' t = g t) : DD f' g' := by
  obtain ⟨C, h1, h2, h3, h4⟩ := h
  exact ⟨C, h1, fun t ht => by rw [e1]; exact h2 t ht, fun t ht => by rw [e2 t ht]; exact h3 t ht, fun t u ht hu => by rw [e1, e1, e2 t ht]; exact h4 t u ht hu⟩
theorem DD.const (c : GQ) : DD (fun _ => c) fun _ => 0 := by
  refine ⟨nr c, nr_nn c, fun _ _ => Rat.le_refl, fun _ _ => by rw [nr_zero]; exact nr_nn c, fun t u _ _ => ?_⟩
  have e : c - c - q (u - t) * 0 = 0 := by rw [gmul_zero, gsub_self, gsub_zero]
  rw [e, nr_zero]
  exact Rat.mul_nonneg (nr_nn c) (sq_nn _)
theorem DD.id : DD (fun t => q t) fun _ => 1 := by
  refine ⟨1, by decide, fun t ht => ?_, fun _ _ => by rw [nr_one]; exact Rat.le_refl, fun t u _ _ => ?_⟩
  · rw [nr_q, ab_of ht.1]; exact ht.2
  · have e : q u - q t - q (u - t) * 1 = 0 := by
      apply GQ.ext' <;> simp only [sub_re, sub_im, mul_re, mul_im, q_re, q_im, one_re, one_im, zero_re, zero_im] <;> grind
    rw [e, nr_zero]
    exact Rat.mul_nonneg (by decide) (sq_nn _)
theorem DD.add {f g f' g' : Rat → GQ} (h : DD f g) (k : DD f' g') : DD (fun t => f t + f' t) fun t => g t + g' t := by
  obtain ⟨C, h1, h2, h3, h4⟩ := h
  obtain ⟨D, k1, k2, k3, k4⟩ := k
  refine ⟨C + D, by grind, fun t ht => ?_, fun t ht => ?_, fun t u ht hu => ?_⟩
  · have := nr_add (f t) (f' t); have := h2 t ht; have := k2 t ht; grind
  · have := nr_add (g t) (g' t); have := h3 t ht; have := k3 t ht; grind
  · have e : f u + f' u - (f t + f' t) - q (u - t) * (g t + g' t) = (f u - f t - q (u - t) * g t) + (f' u - f' t - q (u - t) * g' t) := by
      apply GQ.ext' <;> simp only [sub_re, sub_im, mul_re, mul_im, add_re, add_im, q_re, q_im] <;> grind
    rw [e]
    have := nr_add (f u - f t - q (u - t) * g t) (f' u - f' t - q (u - t) * g' t)
    have := h4 t u ht hu; have := k4 t u ht hu
    grind
theorem DD.mul {f g f' g' : Rat → GQ} (h : DD f g) (k : DD f' g') : DD (fun t => f t * f' t) fun t => g t * f' t + f t * g' t := by
  obtain ⟨C, h1, h2, h3, h4⟩ := h
  obtain ⟨D, k1, k2, k3, k4⟩ := k
  have hCD := Rat.mul_nonneg h1 k1
  refine ⟨4 * (C * D), by grind, fun t ht => ?_, fun t ht => ?_, fun t u ht hu => ?_⟩
  · have := Rat.le_trans (nr_mul (f t) (f' t)) (rmul_le (h2 t ht) (k2 t ht) (nr_nn _) h1); grind
  · have a1 := Rat.le_trans (nr_mul (g t) (f' t)) (rmul_le (h3 t ht) (k2 t ht) (nr_nn _) h1)
    have a2 := Rat.le_trans (nr_mul (f t) (g' t)) (rmul_le (h2 t ht) (k3 t ht) (nr_nn _) h1)
    have := nr_add (g t * f' t) (f t * g' t)
    grind
  · generalize hS : f' u - f' t - q (u - t) * g' t = S
    generalize hR : f u - f t - q (u - t) * g t = R
    have e : f u * f' u - f t * f' t - q (u - t) * (g t * f' t + f t * g' t) = (f t * S + q (u - t) * g t * (q (u - t) * g' t)) + (q (u - t) * g t * S + R * f' u) := by
      subst hS hR
      apply GQ.ext' <;> simp only [sub_re, sub_im, mul_re, mul_im, add_re, add_im, q_re, q_im] <;> grind
    rw [e]
    have hs := k4 t u ht hu
    have hr := h4 t u ht hu
    rw [hS] at hs
    rw [hR] at hr
    have hab := ht.ab hu
    have hn := ab_nn (u - t)
    have hsq := ab_sq (u - t)
    have hq := sq_nn (u - t)
    have hg : nr (q (u - t) * g t) ≤ ab (u - t) * C := Rat.le_trans (nr_q_mul _ _) (Rat.mul_le_mul_of_nonneg_left (h3 t ht) hn)
    have hg' : nr (q (u - t) * g' t) ≤ ab (u - t) * D := Rat.le_trans (nr_q_mul _ _) (Rat.mul_le_mul_of_nonneg_left (k3 t ht) hn)
    have b1 := Rat.le_trans (nr_mul (f t) S) (rmul_le (h2 t ht) hs (nr_nn _) h1)
    have b2 := Rat.le_trans (nr_mul (q (u - t) * g t) (q (u - t) * g' t)) (rmul_le hg hg' (nr_nn _) (Rat.mul_nonneg hn h1))
    have hg1 : nr (q (u - t) * g t) ≤ C := Rat.le_trans hg (by have := Rat.mul_le_mul_of_nonneg_right hab h1; grind)
    have b3 := Rat.le_trans (nr_mul (q (u - t) * g t) S) (rmul_le hg1 hs (nr_nn _) h1)
    have b4 := Rat.le_trans (nr_mul R (f' u)) (rmul_le hr (k2 u hu) (nr_nn _) (Rat.mul_nonneg h1 hq))
    have t1 := nr_add (f t * S + q (u - t) * g t * (q (u - t) * g' t)) (q (u - t) * g t * S + R * f' u)
    have t2 := nr_add (f t * S) (q (u - t) * g t * (q (u - t) * g' t))
    have t3 := nr_add (q (u - t) * g t * S) (R * f' u)
    have e2 : ab (u - t) * C * (ab (u - t) * D) = C * D * ((u - t) * (u - t)) := by rw [← hsq]; grind
    rw [e2] at b2
    generalize (u - t) * (u - t) = w at *
    have e1 : C * (D * w) = C * D * w := by grind
    have e4 : C * w * D = C * D * w := by grind
    rw [e1] at b1 b3
    rw [e4] at b4
    have e5 : 4 * (C * D) * w = 4 * (C * D * w) := by grind
    rw [e5]
    grind
/-- 1 by it -/
theorem DD.inv {d d' r : Rat → GQ} {B : Rat} (h : DD d d') (hr : ∀ t, In t → d t * r t = 1) (hB : ∀ t, In t → nr (r t) ≤ B) : DD r fun t => -(d' t * (r t * r t)) := by
  obtain ⟨C, h1, h2, h3, h4⟩ := h
  have hB0 : 0 ≤ B := Rat.le_trans (nr_nn _) (hB 0 ⟨Rat.le_refl, by decide⟩)
  have hBB := Rat.mul_nonneg hB0 hB0
  have hCB := Rat.mul_nonneg h1 hB0
  have hCBB := Rat.mul_nonneg h1 hBB
  have hK := Rat.mul_nonneg (Rat.mul_nonneg hCB hBB) h1
  refine ⟨B + C * (B * B) + 2 * (C * B * (B * B) * C), by grind, fun t ht => ?_, fun t ht => ?_, fun t u ht hu => ?_⟩
  · have := hB t ht; grind
  · rw [nr_neg]
    have a1 := Rat.le_trans (nr_mul (r t) (r t)) (rmul_le (hB t ht) (hB t ht) (nr_nn _) hB0)
    have a2 := Rat.le_trans (nr_mul (d' t) (r t * r t)) (rmul_le (h3 t ht) a1 (nr_nn _) h1)
    grind
  · have hd := h4 t u ht hu
    generalize hρ : d u - d t - q (u - t) * d' t = ρ at hd
    have key : r u - r t = -(r u * r t * (q (u - t) * d' t + ρ)) := by
      have e1 : q (u - t) * d' t + ρ = d u - d t := by
        rw [← hρ]; apply GQ.ext' <;> simp only [sub_re, sub_im, add_re, add_im] <;> grind
      have e2 : r u * r t * (d u - d t) = r t * (d u * r u) - r u * (d t * r t) := by
        apply GQ.ext' <;> simp only [sub_re, sub_im, mul_re, mul_im] <;> grind
      rw [e1, e2, hr t ht, hr u hu, gmul_one, gmul_one]
      apply GQ.ext' <;> simp only [sub_re, sub_im, neg_re, neg_im] <;> grind
    have e : r u - r t - q (u - t) * -(d' t * (r t * r t)) = q (u - t) * d' t * r t * (r u * r t * (q (u - t) * d' t + ρ)) + -(r u * r t * ρ) := by
      have e3 : r u - r t - q (u - t) * -(d' t * (r t * r t)) = -(q (u - t) * d' t * r t * (r u - r t)) + (r u - r t + r u * r t * (q (u - t) * d' t)) := by
        apply GQ.ext' <;> simp only [sub_re, sub_im, mul_re, mul_im, add_re, add_im, neg_re, neg_im] <;> grind
      rw [e3, key]
      apply GQ.ext' <;> simp only [sub_re, sub_im, mul_re, mul_im, add_re, add_im, neg_re, neg_im] <;> grind
    rw [e]
    have hab := ht.ab hu
    have hn := ab_nn (u - t)
    have hsq := ab_sq (u - t)
    have hsl := ab_sq_le hab
    have hq := sq_nn (u - t)
    have hg : nr (q (u - t) * d' t) ≤ ab (u - t) * C := Rat.le_trans (nr_q_mul _ _) (Rat.mul_le_mul_of_nonneg_left (h3 t ht) hn)
    have hrr := Rat.le_trans (nr_mul (r u) (r t)) (rmul_le (hB u hu) (hB t ht) (nr_nn _) hB0)
    have b1 := Rat.le_trans (nr_mul (q (u - t) * d' t) (r t)) (rmul_le hg (hB t ht) (nr_nn _) (Rat.mul_nonneg hn h1))
    have b2 : nr (q (u - t) * d' t + ρ) ≤ 2 * (ab (u - t) * C) := by
      have t1 := nr_add (q (u - t) * d' t) ρ
      have t2 := Rat.mul_le_mul_of_nonneg_left hsl h1
      grind
    have b3 := Rat.le_trans (nr_mul (r u * r t) (q (u - t) * d' t + ρ)) (rmul_le hrr b2 (nr_nn _) hBB)
    have b4 := Rat.le_trans (nr_mul (q (u - t) * d' t * r t) (r u * r t * (q (u - t) * d' t + ρ))) (rmul_le b1 b3 (nr_nn _) (Rat.mul_nonneg (Rat.mul_nonneg hn h1) hB0))
    have b5 := Rat.le_trans (nr_mul (r u * r t) ρ) (rmul_le hrr hd (nr_nn _) hBB)
    have t1 := nr_add (q (u - t) * d' t * r t * (r u * r t * (q (u - t) * d' t + ρ))) (-(r u * r t * ρ))
    rw [nr_neg] at t1
    have e1 : ab (u - t) * C * B * (B * B * (2 * (ab (u - t) * C))) = 2 * (C * B * (B * B) * C) * ((u - t) * (u - t)) := by rw [← hsq]; grind
    rw [e1] at b4
    have e2 : B * B * (C * ((u - t) * (u - t))) = C * (B * B) * ((u - t) * (u - t)) := by grind
    rw [e2] at b5
    have b6 := Rat.mul_nonneg hB0 hq
    generalize (u - t) * (u - t) = w at *
    have e3 : (B + C * (B * B) + 2 * (C * B * (B * B) * C)) * w = B * w + C * (B * B) * w + 2 * (C * B * (B * B) * C) * w := by grind
    rw [e3]
    grind
theorem DD.scale {f g : Rat → GQ} (c : GQ) (h : DD f g) : DD (fun t => c * f t) fun t => c * g t :=
  ((DD.const c).mul h).congr (fun _ => rfl) fun t _ => by rw [gzero_mul, gzero_add]
theorem DD.pw {f g : Rat → GQ} (h : DD f g) : ∀ n, DD (fun t => pw (f t) (n + 1)) fun t => gn (n + 1) * (P.pw (f t) n * g t)
  | 0 => h.congr (fun t => by rw [pw_succ, pw_zero, gone_mul]) fun t _ => by rw [pw_zero, gone_mul, show gn (0 + 1) = 1 from gn_one, gone_mul]
  | n + 1 => ((h.pw n).mul h).congr (fun t => by rw [pw_succ]) fun t _ => by
    rw [show gn (n + 1 + 1) = gn (n + 1) + 1 by rw [gn_add, gn_one], pw_succ]
    apply GQ.ext' <;> simp only [add_re, add_im, mul_re, mul_im, one_re, one_im] <;> grind
theorem DD.sum {f g : Nat → Rat → GQ} : ∀ (n : Nat), (∀ k, k < n → DD (f k) (g k)) → DD (fun t => sm (fun k => f k t) n) fun t => sm (fun k => g k t) n
  | 0, _ => DD.const 0
  | n + 1, h => (DD.sum n fun k hk => h k (by omega)).add (h n (by omega))
theorem et_mul_self (z : GQ) (j : Nat) : et z j * z = gn (j + 1) * et z (j + 1) := (et_next z j).symm
theorem DD.et {f g : Rat → GQ} (h : DD f g) : ∀ i, DD (fun t => et (f t) (i + 1)) fun t => g t * P.et (f t) i
  | 0 => h.congr (fun t => by
      show (1 : GQ) * (q (1 / ((0 + 1 : Nat) : Rat)) * f t) = f t
      rw [gone_mul, show q (1 / ((0 + 1 : Nat) : Rat)) = 1 from by apply GQ.ext' <;> decide +kernel, gone_mul]) fun t _ => by
      show g t * (1 : GQ) = g t
      rw [gmul_one]
  | j + 1 => by
    have h1 := (h.et j).mul (h.scale (q (1 / ((j + 1 + 1 : Nat) : Rat))))
    refine h1.congr (fun t => rfl) fun t _ => ?_
    have h2 := et_mul_self (f t) j
    have h3 := gn_q (j + 2) (by omega)
    have h4 : gn (j + 2) = gn (j + 1) + 1 := by rw [show j + 2 = j + 1 + 1 from rfl, gn_add, gn_one]
    have e1 : g t * P.et (f t) j * (q (1 / ((j + 1 + 1 : Nat) : Rat)) * f t) + P.et (f t) (j + 1) * (q (1 / ((j + 1 + 1 : Nat) : Rat)) * g t) = g t * (q (1 / ((j + 1 + 1 : Nat) : Rat)) * (P.et (f t) j * f t + P.et (f t) (j + 1))) := by
      apply GQ.ext' <;> simp only [add_re, add_im, mul_re, mul_im] <;> grind
    rw [e1, h2]
    have e2 : gn (j + 1) * P.et (f t) (j + 1) + P.et (f t) (j + 1) = gn (j + 2) * P.et (f t) (j + 1) := by rw [h4, gadd_mul, gone_mul]
    rw [e2, ← gmul_assoc (q _), gmul_comm (q _) (gn (j + 2)), show j + 1 + 1 = j + 2 from rfl, h3, gone_mul]
theorem DD.En {f g : Rat → GQ} (h : DD f g) : ∀ n, DD (fun t => En (f t) (n + 1)) fun t => g t * P.En (f t) n
  | 0 => (DD.const 1).congr (fun t => by show (0 : GQ) + 1 = 1; rw [gzero_add]) fun t _ => by show g t * (0 : GQ) = 0; rw [gmul_zero]
  | n + 1 => ((h.En n).add (h.et n)).congr (fun t => rfl) fun t _ => by
    show g t * (P.En (f t) n + P.et (f t) n) = _
    rw [gmul_add]
/-- what changes little everywhere changes little in all -/
theorem DD.near {f g : Rat → GQ} {ε : Rat} (h : DD f g) (hg : ∀ t, In t → nr (g t) ≤ ε) : nr (f 1 - f 0) ≤ ε := by
  obtain ⟨C, h1, h2, h3, h4⟩ := h
  refine le_eps fun δ hδ => ?_
  obtain ⟨n, hn⟩ := arch (C * (1 / δ))
  have hM := nat_pos (show 0 < n + 1 by omega)
  have hm := inv_pos' hM
  have hMm := one_div_mul hM
  have hMn : ((n + 1 : Nat) : Rat) = (n : Rat) + 1 := by rw [Rat.natCast_add]; rfl
  generalize hmm : 1 / ((n + 1 : Nat) : Rat) = m at *
  have key : ∀ i : Nat, i ≤ n + 1 → nr (f ((i : Rat) * m) - f 0) ≤ (i : Rat) * (m * ε + C * (m * m)) := by
    intro i
    induction i with
    | zero =>
      intro _
      have e : ((0 : Nat) : Rat) * m = 0 := by rw [show ((0 : Nat) : Rat) = 0 from rfl, Rat.zero_mul]
      rw [e, gsub_self, nr_zero, show ((0 : Nat) : Rat) = 0 from rfl, Rat.zero_mul]
      exact Rat.le_refl
    | succ i ih =>
      intro hi
      have ih := ih (by omega)
      have hi1 : ((i + 1 : Nat) : Rat) = (i : Rat) + 1 := by rw [Rat.natCast_add]; rfl
      have hle : ((i + 1 : Nat) : Rat) ≤ ((n + 1 : Nat) : Rat) := by rw [Rat.natCast_le_natCast]; exact hi
      have hle2 := Rat.mul_le_mul_of_nonneg_right hle (Rat.le_of_lt hm)
      have hc : ((n + 1 : Nat) : Rat) * m = 1 := by rw [Rat.mul_comm]; exact hMm
      rw [hc] at hle2
      have hi0 := nat_nn i
      have him := Rat.mul_nonneg hi0 (Rat.le_of_lt hm)
      rw [hi1] at hle2 ⊢
      have ht : In ((i : Rat) * m) := ⟨him, by grind⟩
      have hu : In (((i : Rat) + 1) * m) := ⟨by grind, hle2⟩
      have hd := h4 _ _ ht hu
      have e1 : ((i : Rat) + 1) * m - (i : Rat) * m = m := by grind
      rw [e1] at hd
      have hgm := Rat.le_trans (nr_q_mul m (g ((i : Rat) * m))) (by rw [ab_of (Rat.le_of_lt hm)]; exact Rat.mul_le_mul_of_nonneg_left (hg _ ht) (Rat.le_of_lt hm))
      have e2 : f (((i : Rat) + 1) * m) - f 0 = (f (((i : Rat) + 1) * m) - f ((i : Rat) * m) - q m * g ((i : Rat) * m)) + q m * g ((i : Rat) * m) + (f ((i : Rat) * m) - f 0) := by
        apply GQ.ext' <;> simp only [sub_re, sub_im, add_re, add_im] <;> grind
      rw [e2]
      have t1 := nr_add ((f (((i : Rat) + 1) * m) - f ((i : Rat) * m) - q m * g ((i : Rat) * m)) + q m * g ((i : Rat) * m)) (f ((i : Rat) * m) - f 0)
      have t2 := nr_add (f (((i : Rat) + 1) * m) - f ((i : Rat) * m) - q m * g ((i : Rat) * m)) (q m * g ((i : Rat) * m))
      have e3 : ((i : Rat) + 1) * (m * ε + C * (m * m)) = (i : Rat) * (m * ε + C * (m * m)) + (m * ε + C * (m * m)) := by grind
      rw [e3]
      generalize (i : Rat) * (m * ε + C * (m * m)) = z at *
      grind
  have hk := key (n + 1) (Nat.le_refl _)
  have hc : ((n + 1 : Nat) : Rat) * m = 1 := by rw [Rat.mul_comm]; exact hMm
  rw [hc] at hk
  have e4 : ((n + 1 : Nat) : Rat) * (m * ε + C * (m * m)) = (((n + 1 : Nat) : Rat) * m) * ε + C * m * (((n + 1 : Nat) : Rat) * m) := by grind
  rw [e4, hc] at hk
  have h5 : C * m ≤ δ := by
    have h6 := Rat.mul_le_mul_of_nonneg_right (Rat.le_trans hn (show (n : Rat) ≤ ((n + 1 : Nat) : Rat) by rw [hMn]; grind)) (Rat.mul_nonneg (Rat.le_of_lt hδ) (Rat.le_of_lt hm))
    have e5 : C * (1 / δ) * (δ * m) = C * m * (1 / δ * δ) := by grind
    rw [e5, one_div_mul hδ] at h6
    have e6 : ((n + 1 : Nat) : Rat) * (δ * m) = δ * (((n + 1 : Nat) : Rat) * m) := by grind
    rw [e6, hc] at h6
    grind
  grind
def RD (f g : Rat → Rat) : Prop := DD (fun t => q (f t)) fun t => q (g t)
theorem q_neg (a : Rat) : q (-a) = -q a := by apply GQ.ext' <;> simp only [neg_re, neg_im, q_re, q_im] <;> grind
theorem RD.congr {f g f' g' : Rat → Rat} (h : RD f g) (e1 : ∀ t, f' t = f t) (e2 : ∀ t, In t → g' t = g t) : RD f' g' :=
  DD.congr h (fun t => by rw [e1]) fun t ht => by rw [e2 t ht]
theorem RD.const (c : Rat) : RD (fun _ => c) fun _ => 0 := DD.const (q c)
theorem RD.id : RD (fun t => t) fun _ => 1 := DD.id
theorem RD.add {f g f' g' : Rat → Rat} (h : RD f g) (k : RD f' g') : RD (fun t => f t + f' t) fun t => g t + g' t :=
  (DD.add h k).congr (fun t => q_add _ _) fun t _ => q_add _ _
theorem RD.mul {f g f' g' : Rat → Rat} (h : RD f g) (k : RD f' g') : RD (fun t => f t * f' t) fun t => g t * f' t + f t * g' t :=
  (DD.mul h k).congr (fun t => q_mul _ _) fun t _ => by rw [q_add, q_mul, q_mul]
theorem RD.scale {f g : Rat → Rat} (c : Rat) (h : RD f g) : RD (fun t => c * f t) fun t => c * g t :=
  (DD.scale (q c) h).congr (fun t => q_mul _ _) fun t _ => q_mul _ _
theorem RD.inv {d d' r : Rat → Rat} {B : Rat} (h : RD d d') (hr : ∀ t, In t → d t * r t = 1) (hB : ∀ t, In t → ab (r t) ≤ B) : RD r fun t => -(d' t * (r t * r t)) :=
  (DD.inv (r := fun t => q (r t)) (B := B) h (fun t ht => by rw [← q_mul, hr t ht]; rfl) (fun t ht => by rw [nr_q]; exact hB t ht)).congr (fun _ => rfl) fun t _ => by rw [q_neg, q_mul, q_mul]
theorem pw_q (x : Rat) : ∀ n, pw (q x) n = q (rp x n)
  | 0 => rfl
  | n + 1 => by
    show pw (q x) n * q x = q (rp x n * x)
    rw [pw_q x n, q_mul]
theorem RD.rp {f g : Rat → Rat} (h : RD f g) (n : Nat) : RD (fun t => rp (f t) (n + 1)) fun t => ((n + 1 : Nat) : Rat) * (P.rp (f t) n * g t) :=
  (DD.pw h n).congr (fun t => (pw_q _ _).symm) fun t _ => by rw [q_mul, q_mul, pw_q]; rfl
theorem RD.sum {f g : Nat → Rat → Rat} (n : Nat) (h : ∀ k, k < n → RD (f k) (g k)) : RD (fun t => rsm (fun k => f k t) n) fun t => rsm (fun k => g k t) n :=
  (DD.sum (f := fun k t => q (f k t)) (g := fun k t => q (g k t)) n h).congr (fun t => (q_sm _ _).symm) fun t _ => (q_sm _ _).symm
theorem RD.RE {f g : Rat → Rat} (h : RD f g) (n : Nat) : RD (fun t => RE (f t) (n + 1)) fun t => g t * P.RE (f t) n :=
  (DD.En h n).congr (fun t => (En_q _ _).symm) fun t _ => by rw [q_mul, En_q]
theorem RD.near {f g : Rat → Rat} {ε : Rat} (h : RD f g) (hg : ∀ t, In t → ab (g t) ≤ ε) : ab (f 1 - f 0) ≤ ε := by
  have := DD.near h (ε := ε) fun t ht => by rw [nr_q]; exact hg t ht
  rwa [← q_sub, nr_q] at this
def To (s : Nat → Rat) (X : Rat) : Prop := 0 < X ∧ ∀ δ : Rat, 0 < δ → Ev fun N => EL (s N) (X + δ) ∧ EG (s N) (X - δ)
theorem EL.lim {x c : Rat} (h : ∀ δ : Rat, 0 < δ → EL x (c + δ)) : EL x c := fun ε he => (h (ε / 2) (by grind) (ε / 2) (by grind)).imp fun n hn => by grind
theorem EG.lim {x c : Rat} (h : ∀ δ : Rat, 0 < δ → EG x (c - δ)) : EG x c := fun ε he => (h (ε / 2) (by grind) (ε / 2) (by grind)).imp fun n hn => by grind
theorem To.el {s : Nat → Rat} {X lo : Rat} (h : To s X) (k : Ev fun N => lo ≤ s N) : EL lo X := EL.lim fun δ hδ => by
  obtain ⟨N, hN, hk⟩ := ((h.2 δ hδ).and k).ex
  exact hN.1.mono hk
theorem To.eg {s : Nat → Rat} {X hi : Rat} (h : To s X) (k : Ev fun N => s N ≤ hi) : EG hi X := EG.lim fun δ hδ => by
  obtain ⟨N, hN, hk⟩ := ((h.2 δ hδ).and k).ex
  exact hN.2.mono hk
theorem To.congr {s s' : Nat → Rat} {X : Rat} (h : To s X) (e : ∀ N, s' N = s N) : To s' X := ⟨h.1, fun δ hδ => (h.2 δ hδ).imp fun n hn => by rw [e]; exact hn⟩
theorem rmin_ex {a b : Rat} (ha : 0 < a) (hb : 0 < b) : ∃ c : Rat, 0 < c ∧ c ≤ a ∧ c ≤ b := by
  rcases rat_lt_or a b with h | h
  · exact ⟨a, ha, Rat.le_refl, Rat.le_of_lt h⟩
  · exact ⟨b, hb, h, Rat.le_refl⟩
theorem To.add {s s' : Nat → Rat} {X Y : Rat} (h : To s X) (k : To s' Y) : To (fun N => s N + s' N) (X * Y) := by
  obtain ⟨hX, h⟩ := h
  obtain ⟨hY, k⟩ := k
  refine ⟨Rat.mul_pos hX hY, fun δ hδ => ?_⟩
  obtain ⟨e, he, he2⟩ := eps hδ (B := X + Y + 1) (by grind)
  obtain ⟨e1, h1, h2, h3⟩ := rmin_ex he hX
  obtain ⟨e2, k1, k2, k3⟩ := rmin_ex h1 hY
  obtain ⟨e3, m1, m2, m3⟩ := rmin_ex k1 (show (0 : Rat) < 1 by decide)
  refine ((h e3 m1).and (k e3 m1)).imp fun N hN => ?_
  obtain ⟨⟨a1, a2⟩, b1, b2⟩ := hN
  have hs : (X + Y + 1) * e3 ≤ δ := by
    have t1 := Rat.mul_le_mul_of_nonneg_right (show e3 ≤ e by grind) (show 0 ≤ X + Y + 1 + 1 by grind)
    grind
  have hee : e3 * e3 ≤ e3 := by have := Rat.mul_le_mul_of_nonneg_right m3 (Rat.le_of_lt m1); grind
  have e0 : 0 ≤ e3 * e3 := Rat.mul_nonneg (Rat.le_of_lt m1) (Rat.le_of_lt m1)
  have e4 : (X + e3) * (Y + e3) = X * Y + (X + Y) * e3 + e3 * e3 := by grind
  have e5 : (X - e3) * (Y - e3) = X * Y - (X + Y) * e3 + e3 * e3 := by grind
  have e6 : (X + Y + 1) * e3 = (X + Y) * e3 + e3 := by grind
  rw [e6] at hs
  exact ⟨(a1.add b1).le (by rw [e4]; grind), (EG.add (by grind) a2 b2).le (by rw [e5]; grind)⟩
theorem To.neg {s : Nat → Rat} {X Y : Rat} (h : To s X) (hXY : X * Y = 1) : To (fun N => -s N) Y := by
  obtain ⟨hX, h⟩ := h
  have hY : 0 < Y := by
    rcases rat_lt_or 0 Y with h1 | h1
    · exact h1
    · exfalso
      have := Rat.mul_le_mul_of_nonneg_left h1 (Rat.le_of_lt hX)
      grind
  refine ⟨hY, fun δ hδ => ?_⟩
  have hYY := Rat.mul_nonneg (Rat.le_of_lt hY) (Rat.le_of_lt hY)
  obtain ⟨e, he, he2⟩ := eps hδ (B := 2 * (Y * Y)) (by grind)
  obtain ⟨e1, h1, h2, h3⟩ := rmin_ex he (show 0 < X / 2 by grind)
  refine (h e1 h1).imp fun N hN => ?_
  obtain ⟨a1, a2⟩ := hN
  have hs : 2 * (Y * Y) * e1 ≤ δ := by
    have t1 := Rat.mul_le_mul_of_nonneg_right h2 (show 0 ≤ 2 * (Y * Y) by grind)
    grind
  constructor
  · refine (EG.neg a2 (d := Y + 2 * (Y * Y) * e1) (by grind) ?_).le (by grind)
    have e5 : (X - e1) * (Y + 2 * (Y * Y) * e1) = X * Y + 2 * (X * Y) * Y * e1 - e1 * Y - 2 * (Y * e1) * (Y * e1) := by grind
    rw [e5, hXY]
    have e6 : Y * e1 ≤ 1 / 2 := by
      have t1 := Rat.mul_le_mul_of_nonneg_left h3 (Rat.le_of_lt hY)
      have t2 : Y * (X / 2) = (X * Y) / 2 := by grind
      rw [t2, hXY] at t1
      exact t1
    have e7 : 0 ≤ Y * e1 := Rat.mul_nonneg (Rat.le_of_lt hY) (Rat.le_of_lt h1)
    have e8 := Rat.mul_le_mul_of_nonneg_right e6 e7
    grind
  · refine (EL.neg a1 (d := Y - Y * Y * e1) (by grind) ?_).le (by have := Rat.mul_nonneg hYY (Rat.le_of_lt h1); grind)
    have e5 : (X + e1) * (Y - Y * Y * e1) = X * Y - (X * Y) * Y * e1 + e1 * Y - (Y * e1) * (Y * e1) := by grind
    rw [e5, hXY]
    have := sq_nn (Y * e1)
    grind
theorem To.zero : To (fun _ => 0) 1 := ⟨by decide, fun δ hδ => Ev.all fun _ => ⟨EL.zero.le (by grind), EG.of_zero.le (by grind)⟩⟩
theorem To.times {s : Nat → Rat} {X : Rat} (h : To s X) : ∀ k : Nat, To (fun N => (k : Rat) * s N) (rp X k)
  | 0 => To.zero.congr fun N => by rw [show ((0 : Nat) : Rat) = 0 from rfl, Rat.zero_mul]
  | k + 1 => ((h.times k).add h).congr fun N => by rw [Rat.natCast_add, show ((1 : Nat) : Rat) = 1 from rfl]; grind
/-- twice the sum of a quotient's odd powers, each by its place: N terms -/
def LS (y : Rat) (N : Nat) : Rat := rsm (fun k => 2 * (1 / ((2 * k + 1 : Nat) : Rat)) * rp y (2 * k + 1)) N
def LP (y : Rat) (N : Nat) : Rat := rsm (fun k => rp y (2 * k)) N
theorem LS_succ (y : Rat) (N : Nat) : LS y (N + 1) = LS y N + 2 * (1 / ((2 * N + 1 : Nat) : Rat)) * rp y (2 * N + 1) := rfl
theorem rp_two (y : Rat) (N : Nat) : rp y (2 * (N + 1)) = rp y (2 * N) * (y * y) := by
  show rp y (2 * N) * y * y = _
  grind
theorem rp_odd (y : Rat) (N : Nat) : rp y (2 * (N + 1) + 1) = rp y (2 * N + 1) * (y * y) := by
  show rp y (2 * N) * y * y * y = rp y (2 * N) * y * (y * y)
  grind
theorem LP_closed (y : Rat) : ∀ N, (1 - y * y) * LP y N = 1 - rp y (2 * N)
  | 0 => by show (1 - y * y) * 0 = 1 - 1; grind
  | N + 1 => by
    have ih := LP_closed y N
    rw [rp_two]
    show (1 - y * y) * (LP y N + rp y (2 * N)) = _
    grind
theorem rp_zero_succ (n : Nat) : rp 0 (n + 1) = 0 := Rat.mul_zero _
theorem LS_zero : ∀ N, LS 0 N = 0
  | 0 => rfl
  | N + 1 => by rw [LS_succ, LS_zero N, rp_zero_succ]; grind
theorem LS_nn {y : Rat} (h : 0 ≤ y) (N : Nat) : 0 ≤ LS y N := rsm_nn fun k _ => Rat.mul_nonneg (Rat.mul_nonneg (by decide) (Rat.le_of_lt (inv_pos' (nat_pos (by omega))))) (rp_nn h _)
theorem inv_le_one {n : Nat} (h : 0 < n) : 1 / (n : Rat) ≤ 1 := by
  have h1 := nat_pos h
  have h2 : (1 : Rat) ≤ (n : Rat) := by rw [show (1 : Rat) = ((1 : Nat) : Rat) from rfl, Rat.natCast_le_natCast]; exact h
  have h3 := Rat.mul_le_mul_of_nonneg_left h2 (Rat.le_of_lt (inv_pos' h1))
  rw [one_div_mul h1] at h3
  grind
theorem sq_third {y : Rat} (h0 : 0 ≤ y) (h : y ≤ 1 / 3) : y * y ≤ 1 / 9 := by
  have := rmul_le h h h0 (by decide +kernel)
  grind
/-- the rest of the row -/
theorem LS_rest {y : Rat} (h0 : 0 ≤ y) (h : y ≤ 1 / 3) (N : Nat) : ∀ r, LS y (N + r) + 9 / 4 * rp y (2 * (N + r) + 1) ≤ LS y N + 9 / 4 * rp y (2 * N + 1)
  | 0 => Rat.le_refl
  | r + 1 => by
    have ih := LS_rest h0 h N r
    rw [show N + (r + 1) = (N + r) + 1 from rfl, LS_succ, rp_odd]
    have h1 := rp_nn h0 (2 * (N + r) + 1)
    have h2 := Rat.mul_le_mul_of_nonneg_left (sq_third h0 h) h1
    have h3 := Rat.mul_le_mul_of_nonneg_right (inv_le_one (show 0 < 2 * (N + r) + 1 by omega)) h1
    generalize rp y (2 * (N + r) + 1) = a at *
    grind
theorem LS_mono {y : Rat} (h0 : 0 ≤ y) (N : Nat) : ∀ r, LS y N ≤ LS y (N + r)
  | 0 => Rat.le_refl
  | r + 1 => by
    have ih := LS_mono h0 N r
    have h1 := Rat.mul_nonneg (Rat.mul_nonneg (by decide : (0 : Rat) ≤ 2) (Rat.le_of_lt (inv_pos' (nat_pos (show 0 < 2 * (N + r) + 1 by omega))))) (rp_nn h0 (2 * (N + r) + 1))
    rw [show N + (r + 1) = (N + r) + 1 from rfl, LS_succ]
    grind
theorem LS_le {y : Rat} (h0 : 0 ≤ y) (h : y ≤ 1 / 3) (N : Nat) : LS y N ≤ 1 := by
  have h1 := LS_rest h0 h 0 N
  rw [Nat.zero_add] at h1
  have h2 := rp_nn h0 (2 * N + 1)
  have h3 : LS y 0 + 9 / 4 * rp y (2 * 0 + 1) = 9 / 4 * y := by show (0 : Rat) + 9 / 4 * (1 * y) = _; grind
  rw [h3] at h1
  grind
theorem rp_third_le {y : Rat} (h0 : 0 ≤ y) (h : y ≤ 1 / 3) (n : Nat) : rp y n * rp 2 n ≤ 1 := by
  induction n with
  | zero => show (1 : Rat) * 1 ≤ 1; rw [Rat.mul_one]; exact Rat.le_refl
  | succ n ih =>
    show rp y n * y * (rp 2 n * 2) ≤ 1
    have h1 := Rat.mul_nonneg (rp_nn h0 n) (Rat.le_of_lt (rp2_pos n))
    have h2 := Rat.mul_le_mul_of_nonneg_left h h1
    grind
theorem rp_small {y : Rat} (h0 : 0 ≤ y) (h : y ≤ 1 / 3) {ε : Rat} (he : 0 < ε) : Ev fun N => rp y N ≤ ε := by
  obtain ⟨n, hn⟩ := arch (1 / ε)
  refine ⟨n, fun N hN => ?_⟩
  have h1 := rp_third_le h0 h N
  have h2 : (n : Rat) ≤ (N : Rat) := by rw [Rat.natCast_le_natCast]; exact hN
  have h3 : 1 / ε ≤ rp 2 N := Rat.le_trans hn (Rat.le_trans h2 (le_rp2 N))
  have h4 := Rat.mul_le_mul_of_nonneg_left h3 (rp_nn h0 N)
  have h5 : rp y N * (1 / ε) ≤ 1 := Rat.le_trans h4 h1
  have h6 := Rat.mul_le_mul_of_nonneg_right h5 (Rat.le_of_lt he)
  rw [Rat.mul_assoc, one_div_mul he] at h6
  grind
theorem nr_rt {x : Rat} {B : Rat} (h : ab x ≤ B) (n : Nat) : ab (rt x n) ≤ rt B n := by
  have := nr_et (z := q x) (x := B) (by rw [nr_q]; exact h) n
  rwa [et_q, nr_q] at this
theorem ab_RE {x : Rat} {B : Rat} (h : ab x ≤ B) (n : Nat) : ab (RE x n) ≤ RE B n := by
  have := nr_En (z := q x) (x := B) (by rw [nr_q]; exact h) n
  rwa [En_q, nr_q] at this
/-- e to the other sum, times the number, is almost 1 -/
theorem ln_near {z x : Rat} (h0 : 0 ≤ z) (h : z ≤ 1 / 3) (hx : x * (1 - z) = 1 + z) (N n : Nat) : ab (RE (-LS z N) (n + 1) * x - 1) ≤ 3 / 2 * (rt 1 n + rp z (2 * N) * 3) := by
  have hy : RD (fun t => z * t) fun _ => z := (RD.id.scale z).congr (fun _ => rfl) fun t _ => by grind
  have hS : RD (fun t => -LS (z * t) N) fun t => -(2 * z * LP (z * t) N) := by
    have h1 : ∀ k, k < N → RD (fun t => 2 * (1 / ((2 * k + 1 : Nat) : Rat)) * rp (z * t) (2 * k + 1)) fun t => 2 * z * rp (z * t) (2 * k) := fun k _ =>
      ((hy.rp (2 * k)).scale (2 * (1 / ((2 * k + 1 : Nat) : Rat)))).congr (fun _ => rfl) fun t _ => by
        have h2 := one_div_mul (nat_pos (show 0 < 2 * k + 1 by omega))
        have e : 2 * (1 / ((2 * k + 1 : Nat) : Rat)) * (((2 * k + 1 : Nat) : Rat) * (rp (z * t) (2 * k) * z)) = 2 * (1 / ((2 * k + 1 : Nat) : Rat) * ((2 * k + 1 : Nat) : Rat)) * (rp (z * t) (2 * k) * z) := by grind
        rw [e, h2]; grind
    refine ((RD.sum N h1).scale (-1)).congr (fun t => by show -LS (z * t) N = -1 * LS (z * t) N; grind) fun t _ => ?_
    rw [rsm_mul]
    show -(2 * z * LP (z * t) N) = -1 * (2 * z * LP (z * t) N)
    grind
  have hpos : ∀ t, In t → 0 ≤ z * t ∧ z * t ≤ 1 / 3 := fun t ht => by
    have h1 := Rat.mul_nonneg h0 ht.1
    have h2 := Rat.mul_le_mul_of_nonneg_left ht.2 h0
    exact ⟨h1, by grind⟩
  have hd : RD (fun t => 1 - z * t) fun _ => -z := ((RD.const 1).add (hy.scale (-1))).congr (fun t => by grind) fun t _ => by grind
  have hn : RD (fun t => 1 + z * t) fun _ => z := ((RD.const 1).add hy).congr (fun t => rfl) fun t _ => by grind
  have hrv : ∀ t, In t → (1 - z * t) * (1 / (1 - z * t)) = 1 := fun t ht => by
    have := (hpos t ht).2
    rw [Rat.mul_comm]; exact one_div_mul (by grind)
  have hr0 : ∀ t, In t → 0 ≤ 1 / (1 - z * t) ∧ 1 / (1 - z * t) ≤ 3 / 2 := fun t ht => by
    have h1 := (hpos t ht).2
    have h2 : 0 < 1 - z * t := by grind
    have h3 := inv_pos' h2
    have h4 := hrv t ht
    refine ⟨Rat.le_of_lt h3, ?_⟩
    have h5 := Rat.mul_le_mul_of_nonneg_right (show (2 : Rat) / 3 ≤ 1 - z * t by grind) (Rat.le_of_lt h3)
    rw [h4] at h5
    generalize 1 / (1 - z * t) = r at *
    grind
  have hr := RD.inv (r := fun t => 1 / (1 - z * t)) (B := 3 / 2) hd hrv fun t ht => by rw [ab_of (hr0 t ht).1]; exact (hr0 t ht).2
  have hG := (hS.RE n).mul (hn.mul hr)
  have hG2 : RD (fun t => RE (-LS (z * t) N) (n + 1) * ((1 + z * t) * (1 / (1 - z * t)))) fun t => 2 * z * (1 / (1 - z * t) * (1 / (1 - z * t))) * (rt (-LS (z * t) N) n + rp (z * t) (2 * N) * RE (-LS (z * t) N) n) :=
    hG.congr (fun _ => rfl) fun t ht => by
      have h1 := hrv t ht
      have h2 := LP_closed (z * t) N
      have h3 := RE_succ (-LS (z * t) N) n
      rw [h3]
      generalize 1 / (1 - z * t) = r at *
      generalize z * t = y at *
      generalize LP y N = σ at *
      generalize rp y (2 * N) = p at *
      generalize RE (-LS y N) n = e0
      generalize rt (-LS y N) n = e1
      have hp : p = 1 - (1 - y * y) * σ := by grind
      have hr2 : r = (1 - y) * (r * r) := by grind
      have k1 : z * r + (1 + y) * -(-z * (r * r)) = 2 * z * (r * r) := by
        have : z * r = z * ((1 - y) * (r * r)) := by rw [← hr2]
        grind
      rw [k1]
      have k2 : -(2 * z * σ) * e0 * ((1 + y) * r) = -(2 * z * σ) * e0 * ((1 + y) * ((1 - y) * (r * r))) := by rw [← hr2]
      rw [k2, hp]
      grind
  have hnear := hG2.near (ε := 3 / 2 * (rt 1 n + rp z (2 * N) * 3)) fun t ht => by
    obtain ⟨r0, r1⟩ := hr0 t ht
    obtain ⟨y0, y1⟩ := hpos t ht
    have s0 := LS_nn y0 N
    have s1 := LS_le y0 y1 N
    have hs : ab (-LS (z * t) N) ≤ 1 := by rw [ab_neg, ab_of s0]; exact s1
    have b1 := nr_rt hs n
    have b2 := Rat.le_trans (ab_RE hs n) (RE_one n)
    have b3 : rp (z * t) (2 * N) ≤ rp z (2 * N) := rp_le y0 (by have := Rat.mul_le_mul_of_nonneg_left ht.2 h0; grind) _
    have b4 := rp_nn y0 (2 * N)
    have b5 : ab (rp (z * t) (2 * N) * RE (-LS (z * t) N) n) ≤ rp z (2 * N) * 3 := by
      rw [ab_mul, ab_of b4]
      exact rmul_le b3 b2 (ab_nn _) (rp_nn h0 _)
    have b6 : ab (rt (-LS (z * t) N) n + rp (z * t) (2 * N) * RE (-LS (z * t) N) n) ≤ rt 1 n + rp z (2 * N) * 3 := Rat.le_trans (ab_add _ _) (by grind)
    have b7 : ab (2 * z * (1 / (1 - z * t) * (1 / (1 - z * t)))) ≤ 3 / 2 := by
      have c1 := rmul_le r1 r1 r0 (by decide +kernel)
      have c2 := Rat.mul_nonneg r0 r0
      have c3 := rmul_le (show 2 * z ≤ 2 / 3 by grind) c1 c2 (by decide +kernel)
      rw [ab_of (Rat.mul_nonneg (by grind) c2)]
      grind
    rw [ab_mul]
    exact rmul_le b7 b6 (ab_nn _) (by decide +kernel)
  have e1 : RE (-LS (z * 1) N) (n + 1) * ((1 + z * 1) * (1 / (1 - z * 1))) = RE (-LS z N) (n + 1) * x := by
    have h1 := hrv 1 ⟨by decide, Rat.le_refl⟩
    rw [Rat.mul_one] at h1 ⊢
    congr 1
    rw [← hx]
    generalize 1 / (1 - z) = r at *
    grind
  have e2 : RE (-LS (z * 0) N) (n + 1) * ((1 + z * 0) * (1 / (1 - z * 0))) = 1 := by
    rw [Rat.mul_zero, LS_zero, show (-0 : Rat) = 0 from rfl, RE_zero (show 1 ≤ n + 1 by omega)]
    decide +kernel
  rw [e1, e2] at hnear
  exact hnear
/-- e to the row's sums tends to the number -/
theorem ln_to {z x : Rat} (h0 : 0 ≤ z) (h : z ≤ 1 / 3) (hx : x * (1 - z) = 1 + z) : To (fun N => LS z N) x := by
  have hz : 0 < 1 - z := by grind
  have hx0 : 0 < x := by
    rcases rat_lt_or 0 x with h1 | h1
    · exact h1
    · exfalso
      have := Rat.mul_le_mul_of_nonneg_right h1 (Rat.le_of_lt hz)
      grind
  have hxi := one_div_mul hx0
  have hx1 : x * (1 / x) = 1 := by rw [Rat.mul_comm]; exact hxi
  have key : To (fun N => -LS z N) (1 / x) := by
    refine ⟨inv_pos' hx0, fun δ hδ => ?_⟩
    have hδx : 0 < δ * x := Rat.mul_pos hδ hx0
    refine (rp_small h0 h (ε := δ * x / 9) (by grind)).imp (q := fun N => rp z N ≤ δ * x / 9) (fun _ h => h) |> fun hev => ?_
    obtain ⟨N0, hN0⟩ := hev
    refine ⟨N0, fun N hN => ?_⟩
    have hp : rp z (2 * N) ≤ δ * x / 9 := hN0 (2 * N) (by omega)
    obtain ⟨n0, hn0⟩ := rt_small (x := 1) (by decide) (ε := δ * x / 9) (by grind)
    have hall : ∀ n, n0 + 1 ≤ n → ab (RE (-LS z N) n * x - 1) ≤ δ * x := fun n hn => by
      have h1 := ln_near h0 h hx N (n - 1)
      rw [show n - 1 + 1 = n by omega] at h1
      have h2 := hn0 (n - 1) (by omega)
      grind
    have hcan : ∀ a b : Rat, a * x ≤ b * x → a ≤ b := fun a b hh => Rat.le_of_mul_le_mul_right hh hx0
    constructor
    · intro ε he
      refine ⟨n0 + 1, fun n hn => hcan _ _ ?_⟩
      have h1 := (ab_le.1 (hall n hn)).1
      have h3 := Rat.mul_pos he hx0
      have e : (1 / x + δ + ε) * x = 1 / x * x + δ * x + ε * x := by grind
      rw [e, hxi]
      grind
    · intro ε he
      refine ⟨n0 + 1, fun n hn => hcan _ _ ?_⟩
      have h1 := (ab_le.1 (hall n hn)).2
      have h3 := Rat.mul_pos he hx0
      have e : (1 / x - δ) * x = 1 / x * x - δ * x := by grind
      have e' : (RE (-LS z N) n + ε) * x = RE (-LS z N) n * x + ε * x := by grind
      rw [e, e', hxi]
      grind
  exact (key.neg (Y := x) hxi).congr fun N => by grind
def lP (y : Sp) (w : Nat) : Nat → Sp
  | 0 => y
  | j + 1 => spMul (lP y w j) (spMul y y w) w
def lA (y : Sp) (w : Nat) : Nat → Sp
  | 0 => (0, 0)
  | j + 1 => spAdd (lA y w j) (spTimes (lP y w j) 1 (2 * j + 1))
theorem cn_lP {w : Nat} {y : Sp} {z : Rat} (h : Cn w y z) : ∀ j, Cn w (lP y w j) (rp z (2 * j + 1))
  | 0 => by show Cn w y (1 * z); rw [Rat.one_mul]; exact h
  | j + 1 => by rw [rp_odd]; exact cn_mul (cn_lP h j) (cn_mul h h)
theorem cn_zero (w : Nat) : Cn w (0, 0) 0 := ⟨by rw [Rat.zero_mul]; exact Rat.le_refl, by rw [Rat.zero_mul]; exact Rat.le_refl⟩
theorem cn_lA {w : Nat} {y : Sp} {z : Rat} (h : Cn w y z) : ∀ j, Cn w (lA y w j) (LS z j / 2)
  | 0 => by show Cn w (0, 0) ((0 : Rat) / 2); rw [show (0 : Rat) / 2 = 0 by decide +kernel]; exact cn_zero w
  | j + 1 => by
    have h1 := cn_times (n := 1) (d := 2 * j + 1) (by omega) (cn_lP h j) (s := 1 / ((2 * j + 1 : Nat) : Rat) * rp z (2 * j + 1)) (by
      have := one_div_mul (nat_pos (show 0 < 2 * j + 1 by omega))
      rw [show ((1 : Nat) : Rat) = 1 from rfl, Rat.mul_one]
      generalize rp z (2 * j + 1) = a
      generalize ((2 * j + 1 : Nat) : Rat) = b at *
      grind)
    have h2 := cn_add (cn_lA h j) h1
    have e : LS z (j + 1) / 2 = LS z j / 2 + 1 / ((2 * j + 1 : Nat) : Rat) * rp z (2 * j + 1) := by rw [LS_succ]; grind
    rw [e]
    exact h2
/-- a number that the row starts with -/
structure Yok (y : Sp) (w : Nat) : Prop where
  lt : 2 * y.2 + 8 ≤ 2 ^ w
  one : y.2 = y.1 + 1
theorem Yok.sq {y : Sp} {w : Nat} (h : Yok y w) : 4 * (spMul y y w).2 ≤ 2 ^ w ∧ (spMul y y w).1 ≤ (spMul y y w).2 ∧ (spMul y y w).2 ≤ (spMul y y w).1 + 2 := by
  obtain ⟨h1, h2⟩ := h
  have hw := pow_pos2 w
  simp only [spMul]
  have a1 : y.2 * y.2 / 2 ^ w ≤ y.2 / 2 := by
    rw [Nat.le_div_iff_mul_le (by omega)]
    have a1 : y.2 * y.2 / 2 ^ w * 2 ^ w ≤ y.2 * y.2 := Nat.div_mul_le_self _ _
    have a2 : y.2 * y.2 * 2 ≤ y.2 * 2 ^ w := by rw [Nat.mul_assoc]; exact Nat.mul_le_mul_left _ (by omega)
    refine Nat.le_of_mul_le_mul_right (c := 2 ^ w) ?_ hw
    rw [Nat.mul_right_comm]
    omega
  have a2 : y.2 * y.2 ≤ y.1 * y.1 + 1 * 2 ^ w := by
    rw [h2, Nat.add_mul, Nat.mul_add, Nat.mul_one, Nat.one_mul]
    omega
  have a3 : y.2 * y.2 / 2 ^ w ≤ y.1 * y.1 / 2 ^ w + 1 := by
    have := Nat.div_le_div_right (c := 2 ^ w) a2
    rwa [Nat.add_mul_div_right _ _ hw] at this
  have a4 : y.1 * y.1 / 2 ^ w ≤ y.2 * y.2 / 2 ^ w := Nat.div_le_div_right (Nat.mul_le_mul (by omega) (by omega))
  omega
theorem quarter {a b w : Nat} (h : 4 * b ≤ 2 ^ w) : a * b / 2 ^ w ≤ a / 4 := by
  have hw := pow_pos2 w
  rw [Nat.le_div_iff_mul_le (by omega)]
  have a1 : a * b / 2 ^ w * 2 ^ w ≤ a * b := Nat.div_mul_le_self _ _
  have a2 : a * b * 4 ≤ a * 2 ^ w := by rw [Nat.mul_assoc]; exact Nat.mul_le_mul_left _ (by omega)
  refine Nat.le_of_mul_le_mul_right (c := 2 ^ w) ?_ hw
  rw [Nat.mul_right_comm]
  omega
theorem lP_le {y : Sp} {w : Nat} (h : Yok y w) : ∀ j, 2 * (lP y w j).2 ≤ 2 ^ w
  | 0 => by have := h.lt; simp only [lP]; omega
  | j + 1 => by
    have ih := lP_le h j
    have hs := h.sq.1
    have hl := h.lt
    have := quarter (a := (lP y w j).2) hs
    simp only [lP]
    rw [spMul]
    show 2 * ((lP y w j).2 * (spMul y y w).2 / 2 ^ w + 1) ≤ 2 ^ w
    omega
theorem lP_width {y : Sp} {w : Nat} (h : Yok y w) : ∀ j, (lP y w j).1 ≤ (lP y w j).2 ∧ (lP y w j).2 ≤ (lP y w j).1 + 5
  | 0 => by have := h.one; simp only [lP]; omega
  | j + 1 => by
    obtain ⟨h1, h2⟩ := lP_width h j
    have h3 := lP_le h j
    obtain ⟨s1, s2, s3⟩ := h.sq
    have hw := pow_pos2 w
    simp only [lP]
    generalize spMul y y w = s at *
    simp only [spMul]
    generalize lP y w j = t at *
    have hm : t.2 * s.2 ≤ t.1 * s.1 + 3 * 2 ^ w := by
      have a1 : t.2 * s.2 ≤ (t.1 + 5) * s.2 := Nat.mul_le_mul_right _ h2
      have a2 : t.1 * s.2 ≤ t.1 * (s.1 + 2) := Nat.mul_le_mul_left _ s3
      rw [Nat.mul_add] at a2
      rw [Nat.add_mul] at a1
      omega
    have hq : t.2 * s.2 / 2 ^ w ≤ t.1 * s.1 / 2 ^ w + 3 := by
      have := Nat.div_le_div_right (c := 2 ^ w) hm
      rwa [Nat.add_mul_div_right _ _ hw] at this
    have hq0 : t.1 * s.1 / 2 ^ w ≤ t.2 * s.2 / 2 ^ w := Nat.div_le_div_right (Nat.mul_le_mul h1 s2)
    omega
theorem lP_falls {y : Sp} {w : Nat} (h : Yok y w) : ∀ j, j ≤ w → (lP y w j).2 ≤ 2 ^ (w - j) + 2
  | 0, _ => by have := h.lt; simp only [lP, Nat.sub_zero]; omega
  | j + 1, hj => by
    have ih := lP_falls h j (by omega)
    have := quarter (a := (lP y w j).2) h.sq.1
    simp only [lP]
    rw [spMul]
    show (lP y w j).2 * (spMul y y w).2 / 2 ^ w + 1 ≤ _
    rw [show w - j = w - (j + 1) + 1 by omega, Nat.pow_succ] at ih
    omega
theorem lP_ends {y : Sp} {w : Nat} (h : Yok y w) : (lP y w (w + 1)).2 ≤ 1 := by
  have h1 := lP_falls h w (Nat.le_refl _)
  have := quarter (a := (lP y w w).2) h.sq.1
  rw [Nat.sub_self, Nat.pow_zero] at h1
  simp only [lP]
  rw [spMul]
  show (lP y w w).2 * (spMul y y w).2 / 2 ^ w + 1 ≤ 1
  omega
/-- how many terms the row takes -/
def lJ (y : Sp) (w : Nat) : Nat := fst (fun j => decide ((lP y w j).2 ≤ 1)) (w + 1) 0
theorem lJ_spec {w : Nat} {y : Sp} (h : Yok y w) : (lP y w (lJ y w)).2 ≤ 1 ∧ (∀ i, i < lJ y w → 1 < (lP y w i).2) ∧ lJ y w ≤ w + 1 := by
  obtain ⟨a, b, c, _⟩ := fst_spec (fun j => decide ((lP y w j).2 ≤ 1)) (w + 1) 0 (w + 1) (by simpa using lP_ends h) (by omega) (by omega)
  refine ⟨of_decide_eq_true a, fun i hi => ?_, c⟩
  have := b i (by omega) hi
  simp only [decide_eq_false_iff_not] at this
  omega
/-- the row's end -/
def lR (y : Sp) (w : Nat) : Sp := spAdd (spWider (lA y w (lJ y w)) 2) (spWider (lA y w (lJ y w)) 2)
theorem lA_width {w : Nat} {y : Sp} (h : Yok y w) : ∀ j, (lA y w j).1 ≤ (lA y w j).2 ∧ (lA y w j).2 ≤ (lA y w j).1 + 6 * j
  | 0 => by simp only [lA]; omega
  | j + 1 => by
    have ih := lA_width h j
    obtain ⟨h1, h2⟩ := lP_width h j
    simp only [lA, spAdd, spTimes, Nat.mul_one]
    generalize lA y w j = a at *
    generalize lP y w j = b at *
    have b1 : b.1 / (2 * j + 1) ≤ b.2 / (2 * j + 1) := Nat.div_le_div_right h1
    have b2 : b.2 / (2 * j + 1) ≤ b.1 / (2 * j + 1) + 5 := by
      have : b.2 ≤ b.1 + 5 * (2 * j + 1) := by omega
      have := Nat.div_le_div_right (c := 2 * j + 1) this
      rwa [Nat.add_mul_div_right _ _ (by omega)] at this
    omega
theorem lA_le {w : Nat} {y : Sp} (h : Yok y w) : ∀ j, (lA y w j).2 ≤ (2 ^ w + 1) * j
  | 0 => by simp only [lA]; omega
  | j + 1 => by
    have ih := lA_le h j
    have h1 := lP_le h j
    simp only [lA, spAdd, spTimes, Nat.mul_one]
    have h2 := Nat.div_le_self (lP y w j).2 (2 * j + 1)
    rw [Nat.mul_succ]
    omega
theorem lR_in {w : Nat} {y : Sp} {z : Rat} (h : Cn w y z) (h0 : 0 ≤ z) (hz : z ≤ 1 / 3) (hy : Yok y w) : ∀ N, lJ y w ≤ N → Cn w (lR y w) (LS z N) := by
  intro N hN
  obtain ⟨r, rfl⟩ : ∃ r, N = lJ y w + r := ⟨N - lJ y w, by omega⟩
  have h1 := cn_lA h (lJ y w)
  have h2 := cn_lP h (lJ y w)
  have h3 := (lJ_spec hy).1
  have h4 := LS_rest h0 hz (lJ y w) r
  have h5 := LS_mono h0 (lJ y w) r
  have h6 := rp_nn h0 (2 * (lJ y w + r) + 1)
  have hp := rp2_pos w
  have h7 : ((lP y w (lJ y w)).2 : Rat) ≤ ((1 : Nat) : Rat) := by rw [Rat.natCast_le_natCast]; exact h3
  rw [show ((1 : Nat) : Rat) = 1 from rfl] at h7
  obtain ⟨a1, a2⟩ := h1
  have b2 := h2.2
  have b3 : rp z (2 * lJ y w + 1) * rp 2 w ≤ 1 := Rat.le_trans b2 h7
  constructor
  · show (((lA y w (lJ y w)).1 + (lA y w (lJ y w)).1 : Nat) : Rat) ≤ _
    rw [Rat.natCast_add]
    have c1 := Rat.mul_le_mul_of_nonneg_right h5 (Rat.le_of_lt hp)
    have e : LS z (lJ y w) * rp 2 w = LS z (lJ y w) / 2 * rp 2 w + LS z (lJ y w) / 2 * rp 2 w := by grind
    grind
  · show _ ≤ ((((lA y w (lJ y w)).2 + 2) + ((lA y w (lJ y w)).2 + 2) : Nat) : Rat)
    rw [Rat.natCast_add, Rat.natCast_add, show ((2 : Nat) : Rat) = 2 from rfl]
    have c0 : LS z (lJ y w + r) ≤ LS z (lJ y w) + 9 / 4 * rp z (2 * lJ y w + 1) := by grind
    have c1 := Rat.mul_le_mul_of_nonneg_right c0 (Rat.le_of_lt hp)
    have e : (LS z (lJ y w) + 9 / 4 * rp z (2 * lJ y w + 1)) * rp 2 w = LS z (lJ y w) / 2 * rp 2 w + LS z (lJ y w) / 2 * rp 2 w + 9 / 4 * (rp z (2 * lJ y w + 1) * rp 2 w) := by grind
    rw [e] at c1
    grind
theorem lR_width {w : Nat} {y : Sp} (hy : Yok y w) : (lR y w).1 ≤ (lR y w).2 ∧ (lR y w).2 ≤ (lR y w).1 + (12 * (w + 1) + 4) := by
  have h1 := lA_width hy (lJ y w)
  have h2 := (lJ_spec hy).2.2
  simp only [lR, spAdd, spWider]
  omega
theorem Yok.of {n d w : Nat} (hd : 0 < d) (hn : 3 * n ≤ d) (hw : 64 ≤ w) : Yok (spOf n d w) w := by
  refine ⟨?_, rfl⟩
  have h1 : n * 2 ^ w / d ≤ 2 ^ w / 3 := by
    rw [Nat.le_div_iff_mul_le (by omega)]
    have a1 : n * 2 ^ w / d * d ≤ n * 2 ^ w := Nat.div_mul_le_self _ _
    have a2 : n * 2 ^ w * 3 ≤ 2 ^ w * d := by
      rw [show n * 2 ^ w * 3 = 2 ^ w * (3 * n) by rw [Nat.mul_comm n, Nat.mul_assoc, Nat.mul_comm n]]
      exact Nat.mul_le_mul_left _ hn
    refine Nat.le_of_mul_le_mul_right (c := d) ?_ hd
    rw [Nat.mul_right_comm]
    omega
  have h2 : 2 ^ 64 ≤ 2 ^ w := Nat.pow_le_pow_right (by omega) hw
  have h3 : (2 : Nat) ^ 64 = 18446744073709551616 := by decide
  show 2 * (n * 2 ^ w / d + 1) + 8 ≤ 2 ^ w
  omega
def lNear (neg : Bool) (K n d w : Nat) : Sp :=
  if neg = true then spSub (spTimes (lR (spOf 1 3 w) w) K 1) (lR (spOf (n - d) (n + d) w) w)
  else spAdd (spTimes (lR (spOf 1 3 w) w) K 1) (lR (spOf (n - d) (n + d) w) w)
/-- the sums that tend to the logarithm -/
def lS (neg : Bool) (K : Nat) (z : Rat) (N : Nat) : Rat := if neg = true then (K : Rat) * LS (1 / 3) N - LS z N else (K : Rat) * LS (1 / 3) N + LS z N
theorem Cn.lo {w : Nat} {a : Sp} {r : Rat} (h : Cn w a r) : fr a.1 w ≤ r := fr_le' h.1
theorem Cn.hi {w : Nat} {a : Sp} {r : Rat} (h : Cn w a r) : r ≤ fr a.2 w := le_fr h.2
theorem LS_le_LS {y z : Rat} (h0 : 0 ≤ y) (h : y ≤ z) (N : Nat) : LS y N ≤ LS z N := rsm_le fun k _ =>
  Rat.mul_le_mul_of_nonneg_left (rp_le h0 h _) (Rat.mul_nonneg (by decide) (Rat.le_of_lt (inv_pos' (nat_pos (by omega)))))
/-- the number: 2 to the power K, times n by d; or what it is to be multiplied with to make 1 -/
def lX (neg : Bool) (K : Nat) (x : Rat) : Rat := if neg = true then rp 2 K * (1 / x) else rp 2 K * x
structure NearIn (a : Sp) (w : Nat) (X : Rat) : Prop where
  el : EL (fr a.1 w) X
  eg : EG (fr a.2 w) X
  sp : a.1 ≤ a.2
theorem lNear_in {neg : Bool} {K n d w : Nat} {x : Rat} (hd : 0 < d) (hdn : d ≤ n) (hn : n ≤ 2 * d) (hw : 64 ≤ w) (hx : x * ((d : Nat) : Rat) = ((n : Nat) : Rat)) (hK : neg = true → 1 ≤ K) :
    NearIn (lNear neg K n d w) w (lX neg K x) ∧ (lNear neg K n d w).2 ≤ (lNear neg K n d w).1 + (K + 1) * (12 * (w + 1) + 8) := by
  have hdq := nat_pos hd
  have hsum : 0 < n + d := by omega
  have hsq := nat_pos hsum
  have hz : ∃ z : Rat, z * ((n + d : Nat) : Rat) = ((n - d : Nat) : Rat) := ⟨((n - d : Nat) : Rat) * (1 / ((n + d : Nat) : Rat)), by rw [Rat.mul_assoc, one_div_mul hsq, Rat.mul_one]⟩
  obtain ⟨z, hz⟩ := hz
  have hzc := cn_of hsum hz w
  have h0 : 0 ≤ z := hzc.nn
  have hz2 : z * (((n : Nat) : Rat) + ((d : Nat) : Rat)) = ((n : Nat) : Rat) - ((d : Nat) : Rat) := by rw [← cast_sub hdn, ← hz, Rat.natCast_add]
  have hn2 : ((n : Nat) : Rat) ≤ 2 * ((d : Nat) : Rat) := by
    have : ((n : Nat) : Rat) ≤ ((2 * d : Nat) : Rat) := by rw [Rat.natCast_le_natCast]; exact hn
    rwa [Rat.natCast_mul] at this
  rw [Rat.natCast_add] at hsq
  have h3 : z ≤ 1 / 3 := by
    have : z * (((n : Nat) : Rat) + ((d : Nat) : Rat)) ≤ 1 / 3 * (((n : Nat) : Rat) + ((d : Nat) : Rat)) := by rw [hz2]; grind
    exact Rat.le_of_mul_le_mul_right this hsq
  have hxz : x * (1 - z) = 1 + z := by
    have e1 : (1 - z) * (((n : Nat) : Rat) + ((d : Nat) : Rat)) = 2 * ((d : Nat) : Rat) := by
      have : (1 - z) * (((n : Nat) : Rat) + ((d : Nat) : Rat)) = (((n : Nat) : Rat) + ((d : Nat) : Rat)) - z * (((n : Nat) : Rat) + ((d : Nat) : Rat)) := by grind
      rw [this, hz2]; grind
    have e2 : (1 + z) * (((n : Nat) : Rat) + ((d : Nat) : Rat)) = 2 * ((n : Nat) : Rat) := by
      have : (1 + z) * (((n : Nat) : Rat) + ((d : Nat) : Rat)) = (((n : Nat) : Rat) + ((d : Nat) : Rat)) + z * (((n : Nat) : Rat) + ((d : Nat) : Rat)) := by grind
      rw [this, hz2]; grind
    have e3 : x * (1 - z) * (((n : Nat) : Rat) + ((d : Nat) : Rat)) = (1 + z) * (((n : Nat) : Rat) + ((d : Nat) : Rat)) := by
      rw [Rat.mul_assoc, e1, e2, ← hx]; grind
    exact Rat.le_antisymm (Rat.le_of_mul_le_mul_right (show _ ≤ _ by rw [e3]; exact Rat.le_refl) hsq) (Rat.le_of_mul_le_mul_right (show _ ≤ _ by rw [e3]; exact Rat.le_refl) hsq)
  have t1 := ln_to h0 h3 hxz
  have t2 : To (fun N => LS (1 / 3) N) 2 := ln_to (by decide +kernel) Rat.le_refl (by decide +kernel)
  have y1 : Yok (spOf (n - d) (n + d) w) w := Yok.of hsum (by omega) hw
  have y2 : Yok (spOf 1 3 w) w := Yok.of (by omega) (by omega) hw
  have c1 := lR_in hzc h0 h3 y1
  have c2 := lR_in (cn_of (show 0 < 3 by omega) (show (1 / 3 : Rat) * ((3 : Nat) : Rat) = ((1 : Nat) : Rat) by decide +kernel) w) (by decide +kernel) Rat.le_refl y2
  have w1 := lR_width y1
  have w2 := lR_width y2
  have hTo : To (lS neg K z) (lX neg K x) := by
    unfold lS lX
    cases neg with
    | true =>
      simp only [if_true]
      exact ((t2.times K).add (t1.neg (Y := 1 / x) (by rw [Rat.mul_comm]; exact one_div_mul t1.1))).congr fun N => by grind
    | false =>
      simp only [Bool.false_eq_true, if_false]
      exact (t2.times K).add t1
  have hCn : Ev fun N => Cn w (lNear neg K n d w) (lS neg K z N) := by
    refine ⟨lJ (spOf (n - d) (n + d) w) w + lJ (spOf 1 3 w) w, fun N hN => ?_⟩
    have d1 := c1 N (by omega)
    have d2 := cn_times (n := K) (d := 1) (by omega) (c2 N (by omega)) (s := (K : Rat) * LS (1 / 3) N) (by rw [show ((1 : Nat) : Rat) = 1 from rfl]; grind)
    unfold lNear lS
    cases neg with
    | true =>
      simp only [if_true]
      refine cn_sub d2 d1 ?_
      have l1 := LS_le_LS h0 h3 N
      have l2 : (1 : Rat) ≤ (K : Rat) := by rw [show (1 : Rat) = ((1 : Nat) : Rat) from rfl, Rat.natCast_le_natCast]; exact hK rfl
      have l3 := Rat.mul_le_mul_of_nonneg_right l2 (LS_nn (show (0 : Rat) ≤ 1 / 3 by decide +kernel) N)
      grind
    | false =>
      simp only [Bool.false_eq_true, if_false]
      exact cn_add d2 d1
  refine ⟨⟨hTo.el (hCn.imp fun N h => h.lo), hTo.eg (hCn.imp fun N h => h.hi), ?_⟩, ?_⟩
  · obtain ⟨N, h⟩ := hCn.ex
    exact h.sp
  · have m1 : (lR (spOf 1 3 w) w).2 * K ≤ ((lR (spOf 1 3 w) w).1 + (12 * (w + 1) + 4)) * K := Nat.mul_le_mul_right _ w2.2
    rw [Nat.add_mul, Nat.mul_comm (12 * (w + 1) + 4)] at m1
    have m2 : (lR (spOf 1 3 w) w).1 * K ≤ (lR (spOf 1 3 w) w).2 * K := Nat.mul_le_mul_right _ w2.1
    have m3 : (K + 1) * (12 * (w + 1) + 8) = K * (12 * (w + 1) + 4) + 4 * K + (12 * (w + 1) + 8) := by
      rw [Nat.add_mul, show 12 * (w + 1) + 8 = (12 * (w + 1) + 4) + 4 from rfl, Nat.mul_add, Nat.one_mul]; omega
    rw [m3]
    unfold lNear
    cases neg with
    | true =>
      simp only [if_true, spSub, spTimes, Nat.div_one]
      generalize (lR (spOf 1 3 w) w).1 * K = a at *
      generalize (lR (spOf 1 3 w) w).2 * K = b at *
      generalize K * (12 * (w + 1) + 4) = c at *
      omega
    | false =>
      simp only [Bool.false_eq_true, if_false, spAdd, spTimes, Nat.div_one]
      generalize (lR (spOf 1 3 w) w).1 * K = a at *
      generalize (lR (spOf 1 3 w) w).2 * K = b at *
      generalize K * (12 * (w + 1) + 4) = c at *
      omega
/-- the logarithm of X, by 2 to the power p, is between f and f + 1 -/
def IsL (X : Rat) (p f : Nat) : Prop := EL (fr f p) X ∧ EG (fr (f + 1) p) X
/-- a number above 1 of few digits -/
structure Xok (X : Rat) : Prop where
  gt : 1 < X
  le : X ≤ rp 2 130
  den : ∃ (k : Nat) (z : Int), 0 < k ∧ k ≤ 2 ^ 250 ∧ ((k : Nat) : Rat) * X = (z : Rat)
theorem EG.times {x c : Rat} (hc : 0 ≤ c) (h : EG x c) : ∀ k : Nat, EG (((k : Nat) : Rat) * x) (rp c k)
  | 0 => by rw [show ((0 : Nat) : Rat) = 0 from rfl, Rat.zero_mul]; exact EG.of_zero
  | k + 1 => by
    have := EG.add (rp_nn hc k) (EG.times hc h k) h
    rwa [show ((k : Nat) : Rat) * x + x = ((k + 1 : Nat) : Rat) * x by rw [Rat.natCast_add, show ((1 : Nat) : Rat) = 1 from rfl]; grind] at this
theorem EL.lt127 {x X : Rat} (h : EL x X) (hX : X ≤ rp 2 130) : x ≤ 127 := by
  rcases rat_lt_or 127 x with h1 | h1
  · exfalso
    have h2 := EG.times (x := 1) (by decide +kernel) (EG.sum (by decide) 3) 127
    rw [show ((127 : Nat) : Rat) * 1 = 127 by decide +kernel] at h2
    have h3 := h.ge (h2.mono (Rat.le_of_lt h1))
    have h4 : rp 2 130 < rp (RE 1 3) 127 := by decide +kernel
    grind
  · exact h1
theorem EL.shift {x X η : Rat} (h : EL x X) (h0 : 0 ≤ η) (h1 : η ≤ 1) : EL (x + η) (X * (1 + 2 * η)) :=
  (h.add (EL.one_add h0 h1)).le (by rw [show (1 : Rat) + (η + η) = 1 + 2 * η by grind]; exact Rat.le_refl)
theorem EG.shift {x X η : Rat} (hX : 0 ≤ X) (h : EG x X) (h0 : 0 ≤ η) (h1 : η ≤ 1) : EG (x - η) (X * (1 - 2 * η)) := by
  have h2 := EL.neg (EL.one_add h0 h1) (d := 1 - 2 * η) (by grind) (by have := sq_nn η; grind)
  have h3 := EG.add hX h h2
  rwa [show x + -η = x - η by grind] at h3
theorem far_zero {k X η u v : Rat} (hz : k + 1 ≤ k * X) (c1 : k * X * (1 - 2 * η) ≤ k) (c2 : k * (X * η) ≤ k * u) (c3 : k * u ≤ v) (h : 4 * v ≤ 1 / 2) : False := by
  have c6 : k * X * (1 - 2 * η) = k * X - 2 * (k * (X * η)) := by grind
  rw [c6] at c1
  grind
theorem far_other {K x v : Rat} (h : 1 ≤ K * (2 * x)) (c : K * x ≤ K * v) (hv : 4 * (K * v) ≤ 1 / 2) : False := by grind
/-- the logarithm is not near a whole number by 2 to the power p -/
theorem ln_far {X lo hi : Rat} {m p : Nat} {η : Rat} (hX : Xok X) (hp : p ≤ 200) (h1 : EL lo X) (h2 : EG hi X) (hlo : lo ≤ fr m p) (hhi : fr m p ≤ hi) (hη : hi ≤ lo + η) (hη2 : rp 2 (KE + 252) * η ≤ 1 / 2) : False := by
  have hη0 : 0 ≤ η := by grind
  have hK := rp2_pos (KE + 252)
  have hη1 : η ≤ 1 := by
    have h := rp_mono (show (1 : Rat) ≤ 2 by decide) (show 0 ≤ KE + 252 by omega)
    have := Rat.mul_le_mul_of_nonneg_right (show (1 : Rat) ≤ rp 2 (KE + 252) from h) hη0
    grind
  have hX0 : 0 ≤ X := by have := hX.gt; grind
  have a1 : EL (fr m p) (X * (1 + 2 * η)) := (h1.shift hη0 hη1).mono (by grind)
  have a2 : EG (fr m p) (X * (1 - 2 * η)) := (EG.shift hX0 h2 hη0 hη1).mono (by grind)
  obtain ⟨k, z, hk0, hk, hkX⟩ := hX.den
  have hXη : X * η ≤ rp 2 250 * η := Rat.mul_le_mul_of_nonneg_right (Rat.le_trans hX.le (rp_mono (by decide) (by decide))) hη0
  have hsplit : rp 2 (KE + 252) * η = 4 * (rp 2 KE * (rp 2 250 * η)) := by
    rw [rp_add, show 252 = 250 + 2 from rfl, rp_add 2 250 2, show rp 2 2 = 4 by decide +kernel]; grind
  by_cases hm : fr m p = 0
  · rw [hm] at a1 a2
    have b1 := a1.ge EG.of_zero
    have b2 := EL.zero.ge a2
    have hkq := nat_pos hk0
    -- the number is not 1, and not so near it
    have hz : ((k : Nat) : Rat) + 1 ≤ ((k : Nat) : Rat) * X := by
      have : ((k : Nat) : Rat) * 1 < ((k : Nat) : Rat) * X := Rat.mul_lt_mul_of_pos_left hX.gt hkq
      rw [hkX, Rat.mul_one, show ((k : Nat) : Rat) = (((k : Nat) : Int) : Rat) from rfl, Rat.intCast_lt_intCast] at this
      rw [hkX, show ((k : Nat) : Rat) + 1 = ((((k : Nat) : Int) + 1 : Int) : Rat) by rw [Rat.intCast_add]; rfl, Rat.intCast_le_intCast]
      omega
    have hkk : ((k : Nat) : Rat) ≤ rp 2 250 := by rw [rp2_nat, Rat.natCast_le_natCast]; exact hk
    have c1 : ((k : Nat) : Rat) * X * (1 - 2 * η) ≤ ((k : Nat) : Rat) := by
      have := Rat.mul_le_mul_of_nonneg_left b2 (Rat.le_of_lt hkq)
      grind
    have c2 : ((k : Nat) : Rat) * (X * η) ≤ ((k : Nat) : Rat) * (rp 2 250 * η) := Rat.mul_le_mul_of_nonneg_left hXη (Rat.le_of_lt hkq)
    have c3 : ((k : Nat) : Rat) * (rp 2 250 * η) ≤ rp 2 250 * (rp 2 250 * η) := Rat.mul_le_mul_of_nonneg_right hkk (Rat.mul_nonneg (Rat.le_of_lt (rp2_pos _)) hη0)
    have c4 : rp 2 250 ≤ rp 2 KE := rp_mono (by decide) (by decide)
    have c5 : rp 2 250 * (rp 2 250 * η) ≤ rp 2 KE * (rp 2 250 * η) := Rat.mul_le_mul_of_nonneg_right c4 (Rat.mul_nonneg (Rat.le_of_lt (rp2_pos _)) hη0)
    rw [hsplit] at hη2
    exact far_zero hz c1 c2 (Rat.le_trans c3 c5) hη2
  · have hSm : Sm (fr m p) := by
      refine ⟨?_, 2 ^ p, ((m : Nat) : Int), pow_pos2 p, Nat.pow_le_pow_right (by omega) hp, fr_whole m p⟩
      rw [ab_of (fr_nn m p)]
      have := h1.lt127 hX.le
      grind
    have h := E_far' (K := KE) (C := 250) (δ := 2 * (X * η)) hm hSm hk0 hk (by decide) hkX (Nat.le_refl _) (a1.le (by grind)) (a2.le (by grind))
    have c1 := Rat.mul_le_mul_of_nonneg_left hXη (Rat.le_of_lt (rp2_pos KE))
    rw [hsplit] at hη2
    exact far_other h c1 hη2
def lW (p i : Nat) : Nat := (p + 64) * 2 ^ i
theorem lW_le {p i : Nat} (hp : p ≤ 200) (hi : i ≤ 26) : 64 ≤ lW p i ∧ p ≤ lW p i ∧ lW p i < 2 ^ 36 := by
  have h1 := pow_pos2 i
  have h2 : 2 ^ i ≤ 2 ^ 26 := Nat.pow_le_pow_right (by omega) hi
  have h3 : (p + 64) * 2 ^ i ≤ 264 * 2 ^ 26 := Nat.mul_le_mul (by omega) h2
  have h4 : (p + 64) * 1 ≤ (p + 64) * 2 ^ i := Nat.mul_le_mul_left _ h1
  have h5 : 264 * 2 ^ 26 < 2 ^ 36 := by decide
  unfold lW
  omega
def lI (near : Nat → Sp) (p : Nat) : Nat := fst (fun i => decide (okF (near (lW p i)) (lW p i) p)) 26 0
def lF (near : Nat → Sp) (p : Nat) : Nat := (near (lW p (lI near p))).1 / 2 ^ (lW p (lI near p) - p)
/-- a way to reckon X's logarithm as nearly as is asked -/
def LNear (near : Nat → Sp) (X : Rat) : Prop := ∀ w, 64 ≤ w → w < 2 ^ 36 → NearIn (near w) w X ∧ (near w).2 ≤ (near w).1 + 2 ^ 60
theorem NearIn.pos {a : Sp} {w : Nat} {X : Rat} (h : NearIn a w X) (hX : 1 < X) : 0 < a.2 := by
  rcases Nat.eq_zero_or_pos a.2 with e | e
  · have := h.eg
    rw [e, fr_zero] at this
    have := EL.zero.ge this
    grind
  · exact e
theorem NearIn.ok {a : Sp} {w p : Nat} {X : Rat} (h : NearIn a w X) (hX : Xok X) (hp : p ≤ 200) (hpw : p ≤ w) (hd : a.2 ≤ a.1 + 2 ^ 60) (hw : KE + 363 ≤ w) : okF a w p := by
  rcases Decidable.em (okF a w p) with h1 | h1
  · exact h1
  · exfalso
    obtain ⟨m, h3, h4⟩ := not_ok_mid hpw h.sp h1
    have h5 : fr a.2 w ≤ fr a.1 w + fr (2 ^ 60) w := by rw [← fr_add]; exact fr_le hd w
    refine ln_far hX hp h.el h.eg h3 h4 h5 ?_
    have h6 : rp 2 (KE + 252) * fr (2 ^ 60) w * rp 2 w ≤ 1 / 2 * rp 2 w := by
      rw [Rat.mul_assoc, fr_mul, ← rp2_nat, ← rp_add]
      have h7 := rp_mono (show (1 : Rat) ≤ 2 by decide) (show KE + 252 + 60 + 1 ≤ w by omega)
      rw [rp2_succ] at h7
      generalize rp 2 (KE + 252 + 60) = u at *
      generalize rp 2 w = v at *
      grind
    exact Rat.le_of_mul_le_mul_right h6 (rp2_pos w)
theorem l_ends {near : Nat → Sp} {X : Rat} {p : Nat} (h : LNear near X) (hX : Xok X) (hp : p ≤ 200) :
    lI near p ≤ 26 ∧ okF (near (lW p (lI near p))) (lW p (lI near p)) p ∧ (∀ i, i < lI near p → ¬ okF (near (lW p i)) (lW p i) p) ∧ IsL X p (lF near p) := by
  have h26 := lW_le hp (Nat.le_refl 26)
  have hok : okF (near (lW p 26)) (lW p 26) p := by
    obtain ⟨a1, a2⟩ := h _ h26.1 h26.2.2
    refine a1.ok hX hp h26.2.1 a2 ?_
    have h7 : 64 * 2 ^ 26 ≤ lW p 26 := Nat.mul_le_mul_right _ (by omega)
    have h6 : KE + 363 ≤ 64 * 2 ^ 26 := by decide
    exact Nat.le_trans h6 h7
  obtain ⟨b1, b2, b3, _⟩ := fst_spec (fun i => decide (okF (near (lW p i)) (lW p i) p)) 26 0 26 (decide_eq_true hok) (by omega) (by omega)
  have c1 : okF (near (lW p (lI near p))) (lW p (lI near p)) p := of_decide_eq_true b1
  have hI := lW_le hp (show lI near p ≤ 26 from b3)
  obtain ⟨a1, a2⟩ := h _ hI.1 hI.2.2
  obtain ⟨d1, d2⟩ := ok_between hI.2.1 (a1.pos hX.gt) c1
  exact ⟨b3, c1, fun i hi => of_decide_eq_false (b2 i (by omega) hi), a1.el.mono d1, a1.eg.mono d2⟩
/-- what e's power is at most is below what it is at least -/
theorem EL.le_EG {x y c : Rat} (h : EL x c) (k : EG y c) : x ≤ y := by
  rcases rat_lt_or y x with h1 | h1
  · exfalso
    have h2 := EG.one_add (x := x - y) (by grind)
    have hc := h.pos
    have h3 := EG.add (Rat.le_of_lt hc) k h2
    rw [show y + (x - y) = x by grind] at h3
    have h4 := h.ge h3
    have h5 := Rat.mul_pos hc (show 0 < x - y by grind)
    grind
  · exact h1
theorem IsL.le {X : Rat} {p f g : Nat} (h : IsL X p f) (k : IsL X p g) : f ≤ g + 1 := fr_lt_iff (h.1.le_EG k.2)
theorem IsL.uniq {X : Rat} {p f g : Nat} (hX : Xok X) (hp : p ≤ 200) (h : IsL X p f) (k : IsL X p g) : f = g := by
  have key : ∀ {f g : Nat}, IsL X p f → IsL X p g → g ≤ f := by
    intro f g h k
    rcases Nat.lt_or_ge f g with e | e
    · exfalso
      refine ln_far hX hp (lo := fr (f + 1) p) (hi := fr (f + 1) p) (m := f + 1) (η := 0) (k.1.mono (fr_le (by omega) p)) h.2 Rat.le_refl Rat.le_refl (by grind) (by rw [Rat.mul_zero]; decide +kernel)
    · exact e
  exact Nat.le_antisymm (key k h) (key h k)
theorem IsL.small {X : Rat} {p f : Nat} (hX : Xok X) (h : IsL X p f) : f < 2 ^ (p + 7) := by
  have h1 := h.1.lt127 hX.le
  have h2 := Rat.mul_le_mul_of_nonneg_right h1 (Rat.le_of_lt (rp2_pos p))
  rw [fr_mul, rp2_nat, show (127 : Rat) = ((127 : Nat) : Rat) from rfl, ← Rat.natCast_mul, Rat.natCast_le_natCast] at h2
  rw [Nat.pow_add]
  have := pow_pos2 p
  omega
/-- the number of a logarithm: 2 to the power K, times n by d, or the other way -/
theorem lNear_near {neg : Bool} {K n d : Nat} {x : Rat} (hd : 0 < d) (hdn : d ≤ n) (hn : n ≤ 2 * d) (hx : x * ((d : Nat) : Rat) = ((n : Nat) : Rat)) (hK : neg = true → 1 ≤ K) (hK2 : K ≤ 1000) :
    LNear (lNear neg K n d) (lX neg K x) := fun w hw hw2 => by
  obtain ⟨h1, h2⟩ := lNear_in (neg := neg) (K := K) hd hdn hn hw hx hK
  refine ⟨h1, Nat.le_trans h2 (Nat.add_le_add_left ?_ _)⟩
  have a1 : (K + 1) * (12 * (w + 1) + 8) ≤ 1001 * (12 * 2 ^ 36 + 8) := Nat.mul_le_mul (by omega) (by omega)
  have a2 : 1001 * (12 * 2 ^ 36 + 8) ≤ 2 ^ 60 := by decide
  omega
/-- every sum on the way is short -/
theorem l_short {w : Nat} {y : Sp} (hy : Yok y w) (hw : w < 2 ^ 37) {j : Nat} (hj : j ≤ w + 1) : (lP y w j).1 < 2 ^ (w + 1) ∧ (lP y w j).2 < 2 ^ (w + 1) ∧ (lA y w j).1 < 2 ^ (w + 40) ∧ (lA y w j).2 < 2 ^ (w + 40) := by
  have h1 := lP_le hy j
  have h2 := (lP_width hy j).1
  have h3 := lA_le hy j
  have h4 := (lA_width hy j).1
  have h5 : (2 ^ w + 1) * j ≤ (2 ^ w + 1) * 2 ^ 38 := Nat.mul_le_mul_left _ (by omega)
  have h6 := hy.lt
  rw [Nat.pow_add, Nat.pow_add]
  have h7 : (2 ^ w + 1) * 2 ^ 38 = 2 ^ w * 2 ^ 38 + 2 ^ 38 := by rw [Nat.add_mul, Nat.one_mul]
  have h8 : (2 : Nat) ^ 38 = 274877906944 := by decide
  have h9 : (2 : Nat) ^ 40 = 1099511627776 := by decide
  omega
theorem lR_short {w : Nat} {y : Sp} (hy : Yok y w) (hw : w < 2 ^ 37) : (lR y w).1 < 2 ^ (w + 42) ∧ (lR y w).2 < 2 ^ (w + 42) := by
  obtain ⟨_, _, h3, h4⟩ := l_short hy hw (lJ_spec hy).2.2
  have hw2 := pow_pos2 w
  simp only [lR, spAdd, spWider]
  rw [Nat.pow_add] at *
  omega
theorem lNear_short {neg : Bool} {K n d w : Nat} (hd : 0 < d) (hdn : d ≤ n) (hn : n ≤ 2 * d) (hw : 64 ≤ w) (hw2 : w < 2 ^ 37) (hK : K ≤ 1000) : (lNear neg K n d w).1 < 2 ^ (w + 54) ∧ (lNear neg K n d w).2 < 2 ^ (w + 54) := by
  have y1 : Yok (spOf (n - d) (n + d) w) w := Yok.of (by omega) (by omega) hw
  have y2 : Yok (spOf 1 3 w) w := Yok.of (by omega) (by omega) hw
  obtain ⟨a1, a2⟩ := lR_short y1 hw2
  obtain ⟨b1, b2⟩ := lR_short y2 hw2
  have c1 : (lR (spOf 1 3 w) w).1 * K ≤ 2 ^ (w + 42) * 1000 := Nat.mul_le_mul (Nat.le_of_lt b1) hK
  have c2 : (lR (spOf 1 3 w) w).2 * K ≤ 2 ^ (w + 42) * 1000 := Nat.mul_le_mul (Nat.le_of_lt b2) hK
  have hp := pow_pos2 w
  unfold lNear
  rw [show w + 54 = w + 42 + 12 from rfl, Nat.pow_add _ (w + 42)]
  have h12 : (2 : Nat) ^ 12 = 4096 := by decide
  have hp2 := pow_pos2 (w + 42)
  cases neg with
  | true => simp only [if_true, spSub, spTimes, Nat.div_one]; omega
  | false => simp only [Bool.false_eq_true, if_false, spAdd, spTimes, Nat.div_one]; omega
end Go.Proofs.YtjfaefgabaimaaaGreat.P
