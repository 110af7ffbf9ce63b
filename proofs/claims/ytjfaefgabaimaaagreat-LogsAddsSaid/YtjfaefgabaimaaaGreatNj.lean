/- What the law LogsAdds asks of logarithms. Conditions: at most 200 bits. -/
import Derived.Test.YtjfaefgabaimaaaGreatNi
import Derived.Test.YtjfaefgabaimaaaGreatMe
import Derived.Test.YtjfaefgabaimaaaGreatBd
namespace Go.Proofs.YtjfaefgabaimaaaGreat
open Go.RowKit
set_option linter.unusedSimpArgs false
set_option linter.unusedVariables false
/-- the answer's ends are below and above the logarithm -/
theorem ln_EE {q : Rat} {p : Int} (h : lnOk q = true) (hp : p ≤ 200) : P.EL (lnLo q p) q ∧ P.EG (lnHi q p) q := by
  have hb : hold p ≤ 200 := by have := hold_cast p; omega
  by_cases h0 : q = 1
  · have e1 : lnLo q p = 0 := by unfold lnLo; rw [if_pos h, if_pos h0]
    have e2 : lnHi q p = 0 := by unfold lnHi; rw [if_pos h, if_pos h0]
    rw [e1, e2, h0]
    exact ⟨P.EL.zero, P.EG.of_zero⟩
  · have hi := ln_is (p := p) h h0 hb
    rcases P.rat_lt_or q 1 with h1 | h1
    · obtain ⟨e1, e2⟩ := ln_ends_down (p := p) h h1
      rw [(ln_down h h1).2] at hi
      have hq : 0 < q := (ln_num h).1
      have hpos := P.inv_pos' hq
      have hm := P.one_div_mul hq
      rw [e1, e2]
      exact ⟨hi.2.neg hpos (by rw [hm]; exact Rat.le_refl), hi.1.neg hpos (by rw [hm]; exact Rat.le_refl)⟩
    · obtain ⟨e1, e2⟩ := ln_ends_up (p := p) h (by grind)
      rw [(ln_up h (by grind)).2] at hi
      rw [e1, e2]
      exact hi
theorem lnOk_of {q : Rat} (h0 : 0 < q) (hr : rs q ≤ 4) : lnOk q = true := by
  obtain ⟨a, b⟩ := rs_parts hr
  have hg : ng q = false := by
    unfold ng
    refine decide_eq_false fun h => ?_
    have := Rat.num_nonneg.2 (Rat.le_of_lt h0)
    omega
  unfold lnOk
  rw [hg, decide_eq_false (show ¬ q = 0 by grind), decide_eq_false (show ¬ 4 < (limbs (nm q)).length by omega), decide_eq_false (show ¬ 4 < (limbs q.den).length by omega)]
  rfl
theorem lnOk_mul {x y : Rat} (h : lnOk x = true) (k : lnOk y = true) (hx : rs x ≤ 2) (hy : rs y ≤ 2) : lnOk (x * y) = true :=
  lnOk_of (Rat.mul_pos (ln_num h).1 (ln_num k).1) (rsb_mul hx hy (by omega))
theorem lnOk_div {x y : Rat} (h : lnOk x = true) (k : lnOk y = true) (hx : rs x ≤ 2) (hy : rs y ≤ 2) : lnOk (x / y) = true := by
  refine lnOk_of ?_ (rsb_div hx hy (by omega))
  have h1 := (ln_num h).1
  have h2 := (ln_num k).1
  have h3 : x / y = x * (1 / y) := by grind
  rw [h3]
  exact Rat.mul_pos h1 (P.inv_pos' h2)
theorem ln_add {x y : Rat} {p : Int} (h : lnOk x = true) (k : lnOk y = true) (l : lnOk (x * y) = true) (hp : p ≤ 200) : sideI (bb (lnLo x p + lnLo y p) (lnHi x p + lnHi y p)) (bb (lnLo (x * y) p) (lnHi (x * y) p)) = 0 := by
  obtain ⟨a1, a2⟩ := ln_EE h hp
  obtain ⟨b1, b2⟩ := ln_EE k hp
  obtain ⟨c1, c2⟩ := ln_EE l hp
  refine side_zero.2 ⟨?_, ?_⟩
  · simp only [bb, cr_q]
    exact c1.le_EG (P.EG.add (Rat.le_of_lt (ln_num h).1) a2 b2)
  · simp only [bb, cr_q]
    exact (a1.add b1).le_EG c2
theorem ln_sub {x y : Rat} {p : Int} (h : lnOk x = true) (k : lnOk y = true) (l : lnOk (x / y) = true) (hp : p ≤ 200) : sideI (bb (lnLo x p - lnHi y p) (lnHi x p - lnLo y p)) (bb (lnLo (x / y) p) (lnHi (x / y) p)) = 0 := by
  obtain ⟨a1, a2⟩ := ln_EE h hp
  obtain ⟨b1, b2⟩ := ln_EE k hp
  obtain ⟨c1, c2⟩ := ln_EE l hp
  have hy := (ln_num k).1
  have e : x / y * y = x := Rat.div_mul_cancel (by grind)
  refine side_zero.2 ⟨?_, ?_⟩
  · simp only [bb, cr_q]
    have m := c1.add b1
    rw [e] at m
    have := m.le_EG a2
    grind
  · simp only [bb, cr_q]
    have m := P.EG.add (Rat.le_of_lt (ln_num l).1) c2 b2
    rw [e] at m
    have := a1.le_EG m
    grind
end Go.Proofs.YtjfaefgabaimaaaGreat
