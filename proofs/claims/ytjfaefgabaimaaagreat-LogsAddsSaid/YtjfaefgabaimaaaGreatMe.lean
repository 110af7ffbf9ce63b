/- What chapter 7's laws ask: the logarithm of two; what the balls of logarithms hold. Conditions: at most 200 bits. -/
import Derived.Test.YtjfaefgabaimaaaGreatMd
import Derived.Test.YtjfaefgabaimaaaGreatBc
import Derived.Test.YtjfaefgabaimaaaGreatBb
namespace Go.Proofs.YtjfaefgabaimaaaGreat
open Go.RowKit
set_option linter.unusedSimpArgs false
set_option linter.unusedVariables false
theorem inv_lt_one {q : Rat} (h : 1 < q) : 1 / q < 1 := by
  have hq : 0 < q := by grind
  have i := P.one_div_mul hq
  rcases P.rat_lt_or (1 / q) 1 with h5 | h5
  · exact h5
  · exfalso
    have := Rat.mul_le_mul_of_nonneg_right h5 (Rat.le_of_lt hq)
    rw [i] at this
    grind
/-- above 1: its own logarithm -/
theorem ln_up {q : Rat} (h : lnOk q = true) (h1 : 1 < q) : ¬ pK (nm q) q.den < 0 ∧ kX (lnK q) = q := by
  have hX := ln_X h
  have hg := ln_gt h (by grind)
  by_cases hk : pK (nm q) q.den < 0
  · exfalso
    rw [hX, if_pos hk] at hg
    have := inv_lt_one h1
    grind
  · rw [if_neg hk] at hX
    exact ⟨hk, hX⟩
/-- below 1: that of 1 by it -/
theorem ln_down {q : Rat} (h : lnOk q = true) (h1 : q < 1) : pK (nm q) q.den < 0 ∧ kX (lnK q) = 1 / q := by
  have hX := ln_X h
  have hg := ln_gt h (by grind)
  by_cases hk : pK (nm q) q.den < 0
  · rw [if_pos hk] at hX
    exact ⟨hk, hX⟩
  · exfalso
    rw [hX, if_neg hk] at hg
    grind
theorem ln_ends_up {q : Rat} {p : Int} (h : lnOk q = true) (h1 : 1 < q) : lnLo q p = P.fr (lnF q p) (hold p) ∧ lnHi q p = P.fr (lnF q p + 1) (hold p) := by
  have hk := (ln_up h h1).1
  have hne : q ≠ 1 := by grind
  unfold lnLo lnHi
  rw [if_pos h, if_pos h, if_neg hne, if_neg hne, if_neg hk, if_neg hk, fr_qv, fr_qv]
  exact ⟨rfl, rfl⟩
theorem ln_ends_down {q : Rat} {p : Int} (h : lnOk q = true) (h1 : q < 1) : lnLo q p = -P.fr (lnF q p + 1) (hold p) ∧ lnHi q p = -P.fr (lnF q p) (hold p) := by
  have hk := (ln_down h h1).1
  have hne : q ≠ 1 := by grind
  unfold lnLo lnHi
  rw [if_pos h, if_pos h, if_neg hne, if_neg hne, if_pos hk, if_pos hk, fr_qv, fr_qv]
  exact ⟨rfl, rfl⟩
theorem rs_ln {q : Rat} (p : Int) (hp : p ≤ 200) : rs (lnLo q p) ≤ 30 ∧ rs (lnHi q p) ≤ 30 := by
  have z : rs 0 ≤ 30 := by decide +kernel
  have hb : hold p ≤ 200 := by have := hold_cast p; omega
  by_cases h : lnOk q = true
  · by_cases h0 : q = 1
    · unfold lnLo lnHi
      rw [if_pos h, if_pos h, if_pos h0, if_pos h0]
      exact ⟨z, z⟩
    · have h5 := (ln_is (p := p) h h0 hb).small (ln_Xok h h0)
      have h6 := len_bits h5
      have h7 := limbs_len_add (lnF q p) 1
      have h8 := len_one
      have r1 : rs (P.fr (lnF q p) (hold p)) ≤ 30 := rs_fr (by omega) (by omega)
      have r2 : rs (P.fr (lnF q p + 1) (hold p)) ≤ 30 := rs_fr (by omega) (by omega)
      rcases P.rat_lt_or q 1 with h1 | h1
      · obtain ⟨e1, e2⟩ := ln_ends_down (p := p) h h1
        rw [e1, e2, rs_neg, rs_neg]
        exact ⟨r2, r1⟩
      · obtain ⟨e1, e2⟩ := ln_ends_up (p := p) h (by grind)
        rw [e1, e2]
        exact ⟨r1, r2⟩
  · unfold lnLo lnHi
    rw [if_neg h, if_neg h]
    exact ⟨z, z⟩
theorem el_sum {x X : Rat} {m : Nat} (hx : 0 ≤ x) (h : x + x ≤ ((m + 1 : Nat) : Rat)) (hX : P.RE x m + (P.rt x m + P.rt x m) ≤ X) : P.EL x X := (P.EL.sum hx h).le hX
theorem eg_sum {x X : Rat} {m : Nat} (hx : 0 ≤ x) (hX : X ≤ P.RE x m) : P.EG x X := (P.EG.sum hx m).le hX
theorem ln_two : lnLo 2 4 = qv false (val [11]) (val [16]) ∧ lnHi 2 4 = qv false (val [3]) (val [4]) := by
  have hk : lnOk 2 = true := by decide +kernel
  have h1 : (1 : Rat) < 2 := by decide
  obtain ⟨e1, e2⟩ := ln_ends_up (p := 4) hk h1
  have hX := (ln_up hk h1).2
  have hb : hold 4 = 4 := by decide
  have hok := ln_Xok hk (by decide)
  have hi := ln_is (p := 4) hk (by decide) (by decide)
  rw [hX, hb] at hi
  rw [hX] at hok
  have h11 : P.IsL 2 4 11 := ⟨el_sum (m := 6) (by decide +kernel) (by decide +kernel) (by decide +kernel), eg_sum (m := 6) (by decide +kernel) (by decide +kernel)⟩
  have hf := hi.uniq hok (by decide) h11
  rw [e1, e2, hb, hf, fr_qv, fr_qv]
  exact ⟨rfl, by decide +kernel⟩
def d_law7_known : Den := den0 (boolV true)
set_option maxRecDepth 100000 in
set_option maxHeartbeats 1000000 in
theorem s_law7_known : Sound Tryz.prog 17 d_law7_known := by
  refine sound0 (fz := nofz) (l := [(56, d_logs_Two), (32, d_ref2_Of), (44, d_ref4_Same)]) TT_ok ⟨s_logs_Two, s_ref2_Of, s_ref4_Same, trivial⟩ mixed Tryz.func17 Tryz.ntmps17 Tryz.results17 Tryz.call17 rfl rfl ?_
  rw [codeK_start]
  simp only [go_sem, d_logs_Two, d_ref2_Of, d_ref4_Same, Nat.reduceBEq, Nat.reduceBNe, Nat.reduceLT, Nat.reduceLeDiff, Nat.reduceAdd, Nat.reduceSub, Nat.reduceMul, Nat.reduceEqDiff, Int.reduceNeg, Int.reduceAdd, Int.reduceLT, Int.reduceLE, Int.reduceToNat, ↓reduceIte]
  obtain ⟨e1, e2⟩ := ln_two
  rw [e1, e2]
  refine ⟨⟨by decide +kernel, by decide +kernel⟩, ?_⟩
  unfold sameB
  simp
end Go.Proofs.YtjfaefgabaimaaaGreat
