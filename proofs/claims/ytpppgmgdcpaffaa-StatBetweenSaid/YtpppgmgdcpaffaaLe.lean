/- the plain laws of rows in order: turned round, between the ends -/
import Derived.Test.YtpppgmgdcpaffaaLd
import Derived.Test.YtpppgmgdcpaffaaDc
import Derived.Test.YtpppgmgdcpaffaaCe
namespace Go.Proofs.Ytpppgmgdcpaffaa
open Go.RowKit
set_option linter.unusedSimpArgs false
set_option linter.unusedVariables false

/-- the last k of a row, the other way round -/
def bk (a : List RR) (k : Nat) : List RR := (List.range k).map fun j => a.getD (a.length - 1 - j) rr0
theorem bk_len (a : List RR) (k : Nat) : (bk a k).length = k := by unfold bk; simp
theorem bk_zero (a : List RR) : bk a 0 = [] := rfl
theorem bk_next (a : List RR) (k : Nat) : bk a (k + 1) = bk a k ++ [a.getD (a.length - 1 - k) rr0] := by unfold bk; rw [List.range_succ, List.map_append]; rfl
theorem bk_cells (a : List RR) (k : Nat) : (bk a k).map ratCells ++ [ratCells (a.getD (a.length - 1 - k) rr0)] = (bk a (k + 1)).map ratCells := by rw [bk_next, List.map_append]; rfl
theorem bk_at (a : List RR) {n i : Nat} (h : i < n) : atQ (bk a n) i = atQ a (a.length - 1 - i) := by
  unfold atQ bk
  rw [List.getD_eq_getElem?_getD, List.getElem?_map, List.getElem?_range h]
  rfl
theorem bk_mem {a : List RR} {n : Nat} (h : n ≤ a.length) {r : RR} (hr : r ∈ bk a n) : r ∈ a := by
  unfold bk at hr
  obtain ⟨i, hi, rfl⟩ := List.mem_map.1 hr
  rw [List.mem_range] at hi
  exact getD_mem (by omega)
theorem bk_sum (a : List RR) (F : Rat → Rat) : sumTo (fun i => F (atQ (bk a a.length) i)) a.length = sumTo (fun i => F (atQ a i)) a.length := by
  rw [← sumTo_rev (fun i => F (atQ a i)) a.length]
  exact sumTo_congr fun i hi => by rw [bk_at a hi]
theorem bk_mean {a : List RR} : meanQ (bk a a.length) = meanQ a := by
  unfold meanQ meanTo
  rw [bk_len]
  have h := bk_sum a (fun x => x)
  rw [show sumTo (atQ (bk a a.length)) a.length = sumTo (atQ a) a.length from h]
theorem bk_cov {a : List RR} : covQ (bk a a.length) (bk a a.length) = covQ a a := by
  unfold covQ
  rw [bk_len, bk_mean]
  have h := bk_sum a (fun x => (x - meanQ a) * (x - meanQ a))
  rw [h]
theorem mkL_map (a : List RR) : mkL (atQ a) a.length = a.map fun r => cr r.q := by
  apply List.ext_getElem
  · rw [mkL_len, List.length_map]
  · intro i h1 h2
    have hi : i < a.length := by rw [mkL_len] at h1; exact h1
    have h3 := mkL_get (atQ a) hi
    rw [List.getD_eq_getElem?_getD, List.getElem?_eq_getElem h1] at h3
    rw [List.getElem_map]
    refine Eq.trans h3 ?_
    unfold atQ
    rw [List.getD_eq_getElem?_getD, List.getElem?_eq_getElem hi]
    rfl
theorem bk_rev (a : List RR) : bk a a.length = a.reverse := by
  apply List.ext_getElem
  · rw [bk_len, List.length_reverse]
  · intro i h1 h2
    have hi : i < a.length := by rw [bk_len] at h1; exact h1
    have h3 : (bk a a.length)[i]? = some (a.getD (a.length - 1 - i) rr0) := by
      unfold bk
      rw [List.getElem?_map, List.getElem?_range hi]
      rfl
    rw [List.getElem?_eq_getElem h1, Option.some.injEq] at h3
    rw [h3, List.getElem_reverse, List.getD_eq_getElem?_getD, List.getElem?_eq_getElem (by omega)]
    rfl
/-- are two rows one another's, in any order: then they are one in order -/
theorem isort_one {x y : List RR} (hx : ∀ r ∈ x, r = cr r.q) (h : y.Perm x) : isort y = isort x := by
  have hy : ∀ r ∈ y, r = cr r.q := fun r hr => hx r (h.mem_iff.1 hr)
  have up : ∀ z : List RR, (isort z).Pairwise fun a b => a.q ≤ b.q := fun z => by
    rw [List.pairwise_iff_getElem]
    intro i j hi hj hij
    have h := isort_up z i j hij (by rw [isort_len] at hj; exact hj)
    unfold atQ at h
    rw [List.getD_eq_getElem?_getD, List.getD_eq_getElem?_getD, List.getElem?_eq_getElem hi, List.getElem?_eq_getElem hj] at h
    exact h
  refine List.Perm.eq_of_pairwise (le := fun a b : RR => a.q ≤ b.q) ?_ (up y) (up x) ((isort_perm y).trans (h.trans (isort_perm x).symm))
  intro a b ha hb h1 h2
  rw [hy a ((isort_perm y).mem_iff.1 ha), hx b ((isort_perm x).mem_iff.1 hb), Rat.le_antisymm h1 h2]
theorem mkL_cr {f : Nat → Rat} {n : Nat} : ∀ r ∈ mkL f n, r = cr r.q := by
  intro r hr
  unfold mkL at hr
  obtain ⟨i, _, rfl⟩ := List.mem_map.1 hr
  rw [cr_q]
theorem sortR_bk (a : List RR) : sortR (bk a a.length) = sortR a := by
  refine isort_one mkL_cr ?_
  rw [mkL_map, mkL_map, bk_rev]
  exact (List.reverse_perm a).map _
theorem sortR_len (a : List RR) : (sortR a).length = a.length := by unfold sortR; rw [isort_len, mkL_len]
theorem sortR_sz {a : List RR} {K : Nat} (h : ∀ i, rs (atQ a i) ≤ K) : ∀ r ∈ sortR a, r.sz ≤ K := fun r hr => mkL_sz (fun i _ => h i) r ((isort_perm _).mem_iff.1 hr)
theorem cov_self0 {a : List RR} (h : 2 ≤ a.length) : 0 ≤ covQ a a := (cov_cauchy rfl h).2.1

end Go.Proofs.Ytpppgmgdcpaffaa
