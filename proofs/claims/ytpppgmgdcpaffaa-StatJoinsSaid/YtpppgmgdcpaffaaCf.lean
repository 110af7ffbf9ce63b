/- Two rows, one behind the other. No condition. -/
import Derived.Test.YtpppgmgdcpaffaaCe
namespace Go.Proofs.Ytpppgmgdcpaffaa
open Go.RowKit

theorem atQ_app (a b : List RR) (i : Nat) : atQ (a ++ b) i = if i < a.length then atQ a i else atQ b (i - a.length) := by
  unfold atQ
  rw [List.getD_eq_getElem?_getD, List.getElem?_append]
  split <;> rw [List.getD_eq_getElem?_getD]
theorem sum_app (a b : List RR) : sumTo (atQ (a ++ b)) (a ++ b).length = sumTo (atQ a) a.length + sumTo (atQ b) b.length := by
  rw [List.length_append, ← sumTo_join]
  exact sumTo_congr fun i _ => atQ_app a b i
theorem mean_between {m n x p q : Rat} (hp : 0 < p) (hq : 0 < q) (h : x * (p + q) = m * p + n * q) : (m ≤ x ∧ x ≤ n) ∨ (n ≤ x ∧ x ≤ m) := by
  have h1 : (x - m) * p = (n - x) * q := by grind
  rcases Rat.le_total (a := m) (b := x) with hm | hm
  · refine .inl ⟨hm, ?_⟩
    have h2 : 0 ≤ (n - x) * q := by rw [← h1]; exact Rat.mul_nonneg (by grind) (Rat.le_of_lt hp)
    rcases Classical.em (x ≤ n) with h3 | h3
    · exact h3
    · have h4 := Rat.mul_lt_mul_of_pos_right (show n - x < 0 by grind) hq
      rw [Rat.zero_mul] at h4
      grind
  · refine .inr ⟨?_, hm⟩
    have h2 : 0 ≤ (x - n) * q := by
      have e : (x - n) * q = (m - x) * p := by grind
      rw [e]; exact Rat.mul_nonneg (by grind) (Rat.le_of_lt hp)
    rcases Classical.em (n ≤ x) with h3 | h3
    · exact h3
    · have h4 := Rat.mul_lt_mul_of_pos_right (show x - n < 0 by grind) hq
      rw [Rat.zero_mul] at h4
      grind
theorem cmpQ_tri (x y : Rat) : (x < y ∧ cmpQ x y = -1) ∨ (x = y ∧ cmpQ x y = 0) ∨ (y < x ∧ cmpQ x y = 1) := by
  unfold cmpQ
  by_cases h : x < y
  · exact .inl ⟨h, if_pos h⟩
  · rw [if_neg h]
    by_cases h2 : y < x
    · exact .inr (.inr ⟨h2, if_pos h2⟩)
    · exact .inr (.inl ⟨Rat.le_antisymm (Rat.not_lt.1 h2) (Rat.not_lt.1 h), if_neg h2⟩)
theorem cmp_between {m n x : Rat} (h : (m ≤ x ∧ x ≤ n) ∨ (n ≤ x ∧ x ≤ m)) : 0 ≤ cmpQ m x * cmpQ x n ∧ cmpQ m x * cmpQ x n ≤ 1 := by
  rcases cmpQ_tri m x with ⟨h1, e1⟩ | ⟨h1, e1⟩ | ⟨h1, e1⟩ <;> rcases cmpQ_tri x n with ⟨h2, e2⟩ | ⟨h2, e2⟩ | ⟨h2, e2⟩ <;> rw [e1, e2] <;> first | decide | (exfalso; grind)
theorem mean_app {a b : List RR} (ha : 0 < a.length) (hb : 0 < b.length) : 0 ≤ cmpQ (meanQ a) (meanQ (a ++ b)) * cmpQ (meanQ (a ++ b)) (meanQ b) ∧ cmpQ (meanQ a) (meanQ (a ++ b)) * cmpQ (meanQ (a ++ b)) (meanQ b) ≤ 1 := by
  refine cmp_between (mean_between (natCast_pos' ha) (natCast_pos' hb) ?_)
  have hl : 0 < (a ++ b).length := by rw [List.length_append]; omega
  have e : (((a.length : Nat) : Int) : Rat) + (((b.length : Nat) : Int) : Rat) = ((((a ++ b).length : Nat) : Int) : Rat) := by rw [List.length_append, ← Rat.intCast_add]; rfl
  rw [e, meanQ_eq ha, meanQ_eq hb, meanQ_eq hl, mean_mul hl, mean_mul ha, mean_mul hb, sum_app]

end Go.Proofs.Ytpppgmgdcpaffaa
