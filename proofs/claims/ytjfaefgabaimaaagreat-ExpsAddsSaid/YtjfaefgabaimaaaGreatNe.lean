/- What the laws ExpsAdds and ExpsRises ask of the balls of e to a power. Condition: powers of at most 200 binary digits. -/
import Derived.Test.YtjfaefgabaimaaaGreatNd
import Derived.Test.YtjfaefgabaimaaaGreatMc
namespace Go.Proofs.YtjfaefgabaimaaaGreat
open Go.RowKit
set_option linter.unusedSimpArgs false
set_option linter.unusedVariables false

theorem den_add (x y : Rat) : (x + y).den ≤ x.den * y.den := by
  rw [Rat.add_def, Rat.normalize_eq]
  exact Nat.div_le_self _ _
theorem den_96 {q : Rat} (h : rs q ≤ 3) : q.den < 2 ^ 96 := by
  have h1 := lt_of_limbs_len (rs_parts h).2
  rw [show (4294967296 : Nat) = 2 ^ 32 from rfl, ← Nat.pow_mul] at h1
  exact h1
theorem den_sum {x y : Rat} (h : rs x ≤ 3) (k : rs y ≤ 3) : (x + y).den ≤ 2 ^ 200 := by
  have h1 := den_96 h
  have h2 := den_96 k
  have h3 := den_add x y
  have h4 : x.den * y.den ≤ 2 ^ 96 * 2 ^ 96 := Nat.mul_le_mul (Nat.le_of_lt h1) (Nat.le_of_lt h2)
  have h5 : (2 : Nat) ^ 96 * 2 ^ 96 ≤ 2 ^ 200 := by decide
  omega
theorem far_ok (q : Rat) : (!farB q) = expOk q := by
  unfold farB expOk
  rw [Bool.not_or]
  congr 1
  · rw [← decide_not]; exact decide_eq_decide.2 Rat.not_lt
  · rw [← decide_not]; exact decide_eq_decide.2 Rat.not_lt
theorem exp_parts {q : Rat} (p : Int) (h : expOk q = true) (h0 : q ≠ 0) : expLo q p = P.fr (expF q p) (hold p) ∧ expHi q p = P.fr (expF q p + 1) (hold p) := by
  unfold expLo expHi
  rw [if_pos h, if_pos h, if_neg h0, if_neg h0, fr_qv, fr_qv]
  exact ⟨rfl, rfl⟩
theorem exp_isE {q : Rat} (p : Int) (h : expOk q = true) (h0 : q ≠ 0) (hd : q.den ≤ 2 ^ 200) : P.Sm q ∧ P.IsE q (hold p) (expF q p) := by
  have hk := h
  unfold expOk at hk
  rw [Bool.and_eq_true, decide_eq_true_eq, decide_eq_true_eq] at hk
  exact (expF_is (p := p) h0 hk.1 hk.2 hd).2
theorem exp_lo_hi {q : Rat} (p : Int) (h : expOk q = true) : expLo q p ≤ expHi q p := by
  by_cases h0 : q = 0
  · unfold expLo expHi
    rw [if_pos h, if_pos h, if_pos h0, if_pos h0]
    exact Rat.le_refl
  · obtain ⟨e1, e2⟩ := exp_parts p h h0
    rw [e1, e2]
    exact P.fr_le (by omega) _
/-- the greater power is not below -/
theorem exp_mono {x y : Rat} (p : Int) (h : expOk x = true) (k : expOk y = true) (hdx : x.den ≤ 2 ^ 200) (hdy : y.den ≤ 2 ^ 200) (hxy : x ≤ y) : expLo x p ≤ expLo y p := by
  by_cases e : x = y
  · rw [e]; exact Rat.le_refl
  have hlt : 0 < y - x := by
    have : x < y := Rat.lt_of_le_of_ne hxy e
    grind
  obtain ⟨a1, a2, a3, a4⟩ := exp_ends p h hdx
  obtain ⟨b1, b2, b3, b4⟩ := exp_ends p k hdy
  have g1 : P.EG y (expLo x p * (1 + (y - x))) := by
    have := P.EG.add a3 a1 (P.EG.one_add (x := y - x) (Rat.le_of_lt hlt))
    rwa [show x + (y - x) = y by grind] at this
  by_cases hy : y = 0
  · have e2 : expLo y p = 1 := by unfold expLo; rw [if_pos k, if_pos hy]
    rw [e2]
    subst hy
    exact P.EL.zero.ge (a1.mono hxy)
  · obtain ⟨e1, e2⟩ := exp_parts p k hy
    have g2 := b2.ge g1
    rw [e1]
    rw [e2] at g2
    by_cases hx : x = 0
    · have e3 : expLo x p = 1 := by unfold expLo; rw [if_pos h, if_pos hx]
      rw [e3] at g2 ⊢
      have g3 : P.fr (2 ^ hold p) (hold p) = 1 := by
        have := P.fr_up 1 0 (hold p)
        rw [Nat.one_mul, Nat.zero_add] at this
        rw [this]
        decide +kernel
      rw [← g3]
      refine P.fr_le ?_ _
      rcases Nat.lt_or_ge (expF y p) (2 ^ hold p) with h1 | h1
      · exfalso
        have := P.fr_le (show expF y p + 1 ≤ 2 ^ hold p by omega) (hold p)
        rw [g3] at this
        grind
      · exact h1
    · obtain ⟨e3, _⟩ := exp_parts p h hx
      rw [e3] at g2 ⊢
      refine P.fr_le ?_ _
      rcases Nat.lt_or_ge (expF y p) (expF x p) with h1 | h1
      · exfalso
        have h2 := P.fr_le (show expF y p + 1 ≤ expF x p by omega) (hold p)
        have h3 := P.fr_le (show 1 ≤ expF x p by omega) (hold p)
        have h4 : 0 < P.fr 1 (hold p) := by
          have := P.fr_mul 1 (hold p)
          rcases (show 0 < P.fr 1 (hold p) ∨ 0 = P.fr 1 (hold p) by have := P.fr_nn 1 (hold p); grind) with h5 | h5
          · exact h5
          · exfalso
            rw [← h5, Rat.zero_mul] at this
            exact absurd this (by decide +kernel)
        have h6 : 0 < P.fr (expF x p) (hold p) * (y - x) := Rat.mul_pos (by grind) hlt
        grind
      · exact h1
/-- more bits lie within fewer -/
theorem IsE_nest {x : Rat} {p m f g : Nat} (hx0 : x ≠ 0) (hx : P.Sm x) (hp : p ≤ 512) (h : P.IsE x p f) (k : P.IsE x (p + m) g) : P.fr f p ≤ P.fr g (p + m) ∧ P.fr (g + 1) (p + m) ≤ P.fr (f + 1) p := by
  have e : ∀ a, P.fr a p = P.fr (a * 2 ^ m) (p + m) := fun a => (P.fr_up a p m).symm
  constructor
  · rw [e]
    rcases Nat.lt_or_ge g (f * 2 ^ m) with h1 | h1
    · exfalso
      have c1 := P.fr_le (show g + 1 ≤ f * 2 ^ m by omega) (p + m)
      rw [← e] at c1
      exact P.E_ne hx0 hx hp (k.2.le c1) h.1
    · exact P.fr_le h1 _
  · rw [e]
    rcases Nat.lt_or_ge ((f + 1) * 2 ^ m) (g + 1) with h1 | h1
    · exfalso
      have c1 := P.fr_le (show (f + 1) * 2 ^ m ≤ g by omega) (p + m)
      rw [← e] at c1
      exact P.E_ne hx0 hx hp h.2 (k.1.le c1)
    · exact P.fr_le h1 _
theorem exp_nest {q : Rat} {p m : Int} (h : expOk q = true) (hd : q.den ≤ 2 ^ 200) (h0 : 0 ≤ p) (h1 : 0 ≤ m) (h2 : p + m ≤ 512) : expLo q p ≤ expLo q (p + m) ∧ expHi q (p + m) ≤ expHi q p := by
  by_cases hq : q = 0
  · unfold expLo expHi
    rw [if_pos h, if_pos h, if_pos h, if_pos h, if_pos hq, if_pos hq, if_pos hq, if_pos hq]
    exact ⟨Rat.le_refl, Rat.le_refl⟩
  · obtain ⟨e1, e2⟩ := exp_parts p h hq
    obtain ⟨e3, e4⟩ := exp_parts (p + m) h hq
    obtain ⟨s1, s2⟩ := exp_isE p h hq hd
    obtain ⟨_, s3⟩ := exp_isE (p + m) h hq hd
    have hh : hold (p + m) = hold p + m.toNat := by unfold hold; omega
    rw [e1, e2, e3, e4]
    rw [hh] at s3 ⊢
    exact IsE_nest hq s1 (hold_le p) s2 s3
theorem exp_within {q : Rat} {p m : Int} (h : expOk q = true) (hd : q.den ≤ 2 ^ 200) (h0 : 0 ≤ p) (h1 : 0 ≤ m) (h2 : p + m ≤ 512) : hasB (expLo q p) (expHi q p) (expLo q (p + m)) = true ∧ hasB (expLo q p) (expHi q p) (expHi q (p + m)) = true := by
  obtain ⟨a, b⟩ := exp_nest h hd h0 h1 h2
  have c := exp_lo_hi (p + m) h
  unfold hasB
  rw [decide_eq_true a, decide_eq_true (Rat.le_trans c b), decide_eq_true (Rat.le_trans a c), decide_eq_true b]
  exact ⟨rfl, rfl⟩
/-- the product of two powers meets the sum's power -/
theorem exp_meet {x y : Rat} (p : Int) (h : expOk x = true) (k : expOk y = true) (l : expOk (x + y) = true) (hdx : x.den ≤ 2 ^ 200) (hdy : y.den ≤ 2 ^ 200) (hd : (x + y).den ≤ 2 ^ 200) :
    ¬ mulHi (bb (expLo x p) (expHi x p)) (bb (expLo y p) (expHi y p)) < expLo (x + y) p ∧ ¬ expHi (x + y) p < mulLo (bb (expLo x p) (expHi x p)) (bb (expLo y p) (expHi y p)) := by
  obtain ⟨a1, a2, a3, a4⟩ := exp_ends p h hdx
  obtain ⟨b1, b2, b3, b4⟩ := exp_ends p k hdy
  obtain ⟨c1, c2, c3, c4⟩ := exp_ends p l hd
  have h1 := c2.ge (P.EG.add a3 a1 b1)
  have h2 := (a2.add b2).ge c1
  have lo := (mulLo_le (bb (expLo x p) (expHi x p)) (bb (expLo y p) (expHi y p))).1
  have hi := (mulHi_ge (bb (expLo x p) (expHi x p)) (bb (expLo y p) (expHi y p))).2.2.2
  simp only [bb, cr_q] at lo hi ⊢
  exact ⟨Rat.not_lt.2 (Rat.le_trans h2 hi), Rat.not_lt.2 (Rat.le_trans lo h1)⟩

end Go.Proofs.YtjfaefgabaimaaaGreat
