/- What roots are, in plain Lean: squares' roots; a number without its sign. No condition. -/
import Derived.Test.YtdojdghhbjjoeaaAw
namespace Go.Proofs.Ytdojdghhbjjoeaa
open Go.RowKit

theorem not_big {r : RR} (h : bigR r = false) : r.sz ≤ 3 := by
  unfold bigR at h
  rw [Bool.or_eq_false_iff] at h
  have h1 := of_decide_eq_false h.1
  have h2 := of_decide_eq_false h.2
  exact RR.sz_le (by omega) (by omega)
theorem any_false {α : Type} {l : List α} {p : α → Bool} (h : l.any p = false) : ∀ x ∈ l, p x = false := by
  rw [List.any_eq_false] at h
  intro x hx
  simpa using h x hx

theorem rt_sq (n : Nat) : rt (n * n) = n := rt_unique (Nat.le_refl _) (by rw [Nat.add_mul, Nat.mul_add]; omega)
theorem sqn_sq (n : Nat) : sqn (n * n) = true := by unfold sqn; rw [rt_sq]; exact decide_eq_true rfl

theorem mul_qv2 (p q : Rat) : p * q = qv (ng p != ng q) (nm p * nm q) (p.den * q.den) := by
  conv => lhs; rw [← qv_self p, ← qv_self q]
  rw [qv_mul]

theorem sq_parts (q : Rat) : nm (q * q) = nm q * nm q ∧ (q * q).den = q.den * q.den ∧ ng (q * q) = false := by
  have h : q * q = qv false (nm q * nm q) (q.den * q.den) := by rw [mul_qv2, bne_self_eq_false]
  by_cases h0 : nm q = 0
  · have := nm_zero.1 h0
    subst this
    decide +kernel
  · have hc : Nat.Coprime (nm q * nm q) (q.den * q.den) := by
      have := q.reduced
      exact (Nat.Coprime.mul_left this this).mul_right (Nat.Coprime.mul_left this this)
    obtain ⟨p1, p2, p3⟩ := nm_qv false (nm q * nm q) (q.den * q.den) (Nat.mul_ne_zero h0 h0) (Nat.mul_ne_zero (den_ne q) (den_ne q))
    rw [h, p1, p2, p3, hc, Nat.div_one, Nat.div_one]
    exact ⟨rfl, rfl, rfl⟩

/-- without its sign -/
def ab (q : Rat) : Rat := qv false (nm q) q.den
theorem ab_nonneg {q : Rat} (h : ng q = false) : ab q = q := by
  unfold ab
  rw [← h]; exact qv_self q
theorem ab_zero {q : Rat} : ab q = 0 ↔ q = 0 := by
  constructor
  · intro h
    by_cases h0 : nm q = 0
    · exact nm_zero.1 h0
    · exfalso
      obtain ⟨p1, _, _⟩ := nm_qv false (nm q) q.den h0 (den_ne q)
      have hr : Nat.gcd (nm q) q.den = 1 := q.reduced
      rw [hr, Nat.div_one] at p1
      unfold ab at h
      rw [h] at p1
      exact h0 p1.symm
  · rintro rfl; decide +kernel
theorem ab_sq (q : Rat) : ab q * ab q = q * q := by
  unfold ab
  rw [qv_mul, mul_qv2 q q, bne_self_eq_false, bne_self_eq_false]
theorem sqB_sq (q : Rat) : sqB (q * q) = true := by
  obtain ⟨h1, h2, h3⟩ := sq_parts q
  unfold sqB
  rw [h1, h2, h3, sqn_sq, sqn_sq]; rfl
theorem sqR_sq (q : Rat) : sqR (q * q) = ab q := by
  obtain ⟨h1, h2, h3⟩ := sq_parts q
  rw [sqR_some (sqB_sq q), h1, h2, rt_sq, rt_sq]; rfl
theorem ng_sq (q : Rat) : ng (q * q) = false := (sq_parts q).2.2
theorem sqLo_sq (q : Rat) (p : Int) : sqLo (q * q) p = ab q := by unfold sqLo; rw [ng_sq, sqB_sq, sqR_sq]; rfl
theorem sqHi_sq (q : Rat) (p : Int) : sqHi (q * q) p = ab q := by unfold sqHi; rw [ng_sq, sqB_sq, sqR_sq]; rfl
theorem rr_ab (a : RR) : (⟨false, (cr a.q).n, (cr a.q).d⟩ : RR).q = ab a.q := by
  show qv false (val (limbs (nm a.q))) (val (limbs a.q.den)) = _
  rw [val_limbs, val_limbs]; rfl
theorem ng_neg_ab (q : Rat) : ((!ng (-ab q)) == decide (ab q = 0)) = true := by
  by_cases h : q = 0
  · subst h; decide +kernel
  · have h0 : nm q ≠ 0 := fun e => h (nm_zero.1 e)
    have e1 : decide (ab q = 0) = false := decide_eq_false fun e => h (ab_zero.1 e)
    have e2 : ng (-ab q) = true := by unfold ab; rw [qv_neg]; exact (nm_qv true _ _ h0 (den_ne q)).2.2
    rw [e1, e2]; rfl
theorem rs_ab {q : Rat} {K : Nat} (h : rs q ≤ K) (hK : 1 ≤ K) : rs (ab q) ≤ K := rs_qv _ _ _ _ (rs_parts h).1 (rs_parts h).2 hK

end Go.Proofs.Ytdojdghhbjjoeaa
