/- stat.Sorted by the abstract walk. Condition: rows of fewer than 20 numbers of at most 1000 limbs. the plain laws of rows in order: turned round, between the ends -/
import Derived.Test.YtifnpelkoklcnaaLb
import Derived.Test.YtifnpelkoklcnaaDa
import Derived.Test.YtifnpelkoklcnaaDc
import Derived.Test.YtifnpelkoklcnaaCe
namespace Go.Proofs.Ytifnpelkoklcnaa
open Go.RowKit
set_option linter.unusedSimpArgs false
set_option linter.unusedVariables false

def fz_stat_Sorted : Nat → List Nat
  | 16 => [1003]
  | 1000011 => [1]
  | _ => []
def sortR (a : List RR) : List RR := isort (mkL (atQ a) a.length)

def d_stat_Sorted : Den := den1 aRats (fun a => a.length < 20 ∧ ∀ r ∈ a, r.sz ≤ 1000) fun a => ratsV (sortR a)
set_option maxRecDepth 100000 in
set_option maxHeartbeats 4000000 in
theorem s_stat_Sorted : Sound Try.prog 58 d_stat_Sorted := by
  refine sound1 (fz := fz_stat_Sorted) (l := [(64, d_rat_Norm), (2000000 + 106, denSort srtPre)]) TT_ok ⟨s_rat_Norm, sm_slices_SortStable, trivial⟩ mixed Try.func58 Try.ntmps58 Try.results58 Try.call58 rfl (by omega) (fun _ => rfl) ?_
  intro a hp ha
  rw [codeK_start]
  have hq := rs_atQ ha hp.2 (by omega)
  simp only [go_sem, d_rat_Norm, fz_stat_Sorted, chgOut, chgAV, chgEff, valEff, chgB, chgK, rowOf, cvRow, denSort, srtPre, rowsRats_map, Nat.reduceBEq, Nat.reduceBNe, Nat.reduceLT, Nat.reduceLeDiff, Nat.reduceAdd, Nat.reduceSub, Nat.reduceMul, Nat.reduceEqDiff, Int.reduceNeg, Int.reduceAdd, Int.reduceLT, Int.reduceLE, Int.reduceToNat, ↓reduceIte]
  refine codeK_loop (fun i : { i : Nat // i ≤ a.length } => [(8, 0, .av (intV ((i.1 : Nat)))), (7, 0, .av (intV ((a.length : Nat)))), (6, 0, .av (ratsV a)), (3, 0, .av (.one (.cel (.rf 1003 i.1)))), (1003, 1, .row (.gen 3 ((mkL (atQ a) i.1).map ratCells)))]) (fun i => a.length - i.1) ⟨0, by omega⟩ ?_ ?_
  · refine le_nil 3 1003 (.gen 3 []) (by rfl) (by kernel_rfl) ⟨by omega, trivial⟩ rfl (le_of ?_)
    simp only [go_sem, leL, Nat.reduceBEq, Nat.reduceBNe, Nat.reduceLT, Nat.reduceLeDiff, Nat.reduceAdd, Nat.reduceSub, Nat.reduceMul, Nat.reduceEqDiff, Int.reduceNeg, Int.reduceAdd, Int.reduceLT, Int.reduceLE, Int.reduceToNat, ↓reduceIte, mkL_zero, Int.ofNat_zero, Int.natCast_zero, Int.cast_ofNat_Int]
  · rintro ⟨i, hi0⟩
    have hi0 : i ≤ a.length := hi0
    by_cases hi : i < a.length
    · have hm := hp.2 _ (getD_mem (d := rr0) hi)
      have hln := mkL_len (atQ a) i
      have hrow : (mkL (atQ a) i).map ratCells ++ [[.bool (cr (a.getD i rr0).q).s, .lim none (cr (a.getD i rr0).q).n, .lim none (cr (a.getD i rr0).q).d]] = (mkL (atQ a) (i + 1)).map ratCells := mkL_cells (atQ a) i
      have hln2 := mkL_len (atQ a) (i + 1)
      simp only [go_sem, d_rat_Norm, fz_stat_Sorted, chgOut, chgAV, chgEff, valEff, chgB, chgK, rowOf, cvRow, denSort, srtPre, rowsRats_map, getD_rats hi, getD_ratsI hi, Int.ofNat_lt, hi, Nat.reduceBEq, Nat.reduceBNe, Nat.reduceLT, Nat.reduceLeDiff, Nat.reduceAdd, Nat.reduceSub, Nat.reduceMul, Nat.reduceEqDiff, Int.reduceNeg, Int.reduceAdd, Int.reduceLT, Int.reduceLE, Int.reduceToNat, ↓reduceIte]
      and_intros
      all_goals try (first | exact trivial | omega | rfl | assumption | (simp only [RC.len, RC.t, List.length_map, List.length_set]; omega) | (simp only [RC.len, RC.t, List.length_map, List.length_set]) | (show okDraw _ _ = true; kernel_rfl))
      refine ⟨⟨i + 1, by omega⟩, by show a.length - (i + 1) < a.length - i; omega, ?_⟩
      refine Le.trans (b := [(8, 0, .av (intV (((i + 1) : Nat)))), (7, 0, .av (intV ((a.length : Nat)))), (6, 0, .av (ratsV a)), (3, 0, .av (.one (.cel (.rf 16 (i + 1))))), (16, 1, .row (.gen 3 ((mkL (atQ a) (i + 1)).map ratCells)))]) (le_of ?_) (le_ren 16 1003 (c := .gen 3 ((mkL (atQ a) (i + 1)).map ratCells)) (by rfl) (by kernel_rfl) (le_of ?_))
      · simp only [go_sem, leL, hrow, hln2, Nat.reduceBEq, Nat.reduceBNe, Nat.reduceLT, Nat.reduceLeDiff, Nat.reduceAdd, Nat.reduceSub, Nat.reduceMul, Nat.reduceEqDiff, Int.reduceNeg, Int.reduceAdd, Int.reduceLT, Int.reduceLE, Int.reduceToNat, ↓reduceIte]
        omega
      · simp only [go_sem, leL, Nat.reduceBEq, Nat.reduceBNe, Nat.reduceLT, Nat.reduceLeDiff, Nat.reduceAdd, Nat.reduceSub, Nat.reduceMul, Nat.reduceEqDiff, Int.reduceNeg, Int.reduceAdd, Int.reduceLT, Int.reduceLE, Int.reduceToNat, ↓reduceIte]
    · simp only [go_sem, d_rat_Norm, fz_stat_Sorted, chgOut, chgAV, chgEff, valEff, chgB, chgK, rowOf, cvRow, denSort, srtPre, rowsRats_map, Int.ofNat_lt, hi, Nat.reduceBEq, Nat.reduceBNe, Nat.reduceLT, Nat.reduceLeDiff, Nat.reduceAdd, Nat.reduceSub, Nat.reduceMul, Nat.reduceEqDiff, Int.reduceNeg, Int.reduceAdd, Int.reduceLT, Int.reduceLE, Int.reduceToNat, ↓reduceIte]
      have e : i = a.length := by omega
      subst e
      have hln := mkL_len (atQ a) a.length
      have hil := isort_len (mkL (atQ a) a.length)
      exact ⟨⟨hln.symm, by omega, mkL_sz (fun i _ => hq i)⟩, by omega, by rw [List.take_of_length_le (by rw [List.length_map]; omega)]; rfl⟩


end Go.Proofs.Ytifnpelkoklcnaa

namespace Go.Proofs.Ytifnpelkoklcnaa
open Go.RowKit
set_option linter.unusedSimpArgs false
set_option linter.unusedVariables false

/-- the last k of a row, the other way round -/
def bk (a : List RR) (k : Nat) : List RR := (List.range k).map fun j => a.getD (a.length - 1 - j) rr0
theorem bk_len (a : List RR) (k : Nat) : (bk a k).length = k := by unfold bk; simp
theorem bk_zero (a : List RR) : bk a 0 = [] := rfl
theorem bk_next (a : List RR) (k : Nat) : bk a (k + 1) = bk a k ++ [a.getD (a.length - 1 - k) rr0] := by unfold bk; rw [List.range_succ, List.map_append]; rfl
theorem bk_cells (a : List RR) (k : Nat) : (bk a k).map ratCells ++ [ratCells (a.getD (a.length - 1 - k) rr0)] = (bk a (k + 1)).map ratCells := by rw [bk_next, List.map_append]; rfl
theorem bk_at (a : List RR) {n i : Nat} (h : i < n) : atQ (bk a n) i = atQ a (a.length - 1 - i) := by
  unfold atQ bk
  rw [List.getD_eq_getElem?_getD, List.getElem?_map, List.getElem?_range h]
  rfl
theorem bk_mem {a : List RR} {n : Nat} (h : n ≤ a.length) {r : RR} (hr : r ∈ bk a n) : r ∈ a := by
  unfold bk at hr
  obtain ⟨i, hi, rfl⟩ := List.mem_map.1 hr
  rw [List.mem_range] at hi
  exact getD_mem (by omega)
theorem bk_sum (a : List RR) (F : Rat → Rat) : sumTo (fun i => F (atQ (bk a a.length) i)) a.length = sumTo (fun i => F (atQ a i)) a.length := by
  rw [← sumTo_rev (fun i => F (atQ a i)) a.length]
  exact sumTo_congr fun i hi => by rw [bk_at a hi]
theorem bk_mean {a : List RR} : meanQ (bk a a.length) = meanQ a := by
  unfold meanQ meanTo
  rw [bk_len]
  have h := bk_sum a (fun x => x)
  rw [show sumTo (atQ (bk a a.length)) a.length = sumTo (atQ a) a.length from h]
theorem bk_cov {a : List RR} : covQ (bk a a.length) (bk a a.length) = covQ a a := by
  unfold covQ
  rw [bk_len, bk_mean]
  have h := bk_sum a (fun x => (x - meanQ a) * (x - meanQ a))
  rw [h]
theorem mkL_map (a : List RR) : mkL (atQ a) a.length = a.map fun r => cr r.q := by
  apply List.ext_getElem
  · rw [mkL_len, List.length_map]
  · intro i h1 h2
    have hi : i < a.length := by rw [mkL_len] at h1; exact h1
    have h3 := mkL_get (atQ a) hi
    rw [List.getD_eq_getElem?_getD, List.getElem?_eq_getElem h1] at h3
    rw [List.getElem_map]
    refine Eq.trans h3 ?_
    unfold atQ
    rw [List.getD_eq_getElem?_getD, List.getElem?_eq_getElem hi]
    rfl
theorem bk_rev (a : List RR) : bk a a.length = a.reverse := by
  apply List.ext_getElem
  · rw [bk_len, List.length_reverse]
  · intro i h1 h2
    have hi : i < a.length := by rw [bk_len] at h1; exact h1
    have h3 : (bk a a.length)[i]? = some (a.getD (a.length - 1 - i) rr0) := by
      unfold bk
      rw [List.getElem?_map, List.getElem?_range hi]
      rfl
    rw [List.getElem?_eq_getElem h1, Option.some.injEq] at h3
    rw [h3, List.getElem_reverse, List.getD_eq_getElem?_getD, List.getElem?_eq_getElem (by omega)]
    rfl
/-- are two rows one another's, in any order: then they are one in order -/
theorem isort_one {x y : List RR} (hx : ∀ r ∈ x, r = cr r.q) (h : y.Perm x) : isort y = isort x := by
  have hy : ∀ r ∈ y, r = cr r.q := fun r hr => hx r (h.mem_iff.1 hr)
  have up : ∀ z : List RR, (isort z).Pairwise fun a b => a.q ≤ b.q := fun z => by
    rw [List.pairwise_iff_getElem]
    intro i j hi hj hij
    have h := isort_up z i j hij (by rw [isort_len] at hj; exact hj)
    unfold atQ at h
    rw [List.getD_eq_getElem?_getD, List.getD_eq_getElem?_getD, List.getElem?_eq_getElem hi, List.getElem?_eq_getElem hj] at h
    exact h
  refine List.Perm.eq_of_pairwise (le := fun a b : RR => a.q ≤ b.q) ?_ (up y) (up x) ((isort_perm y).trans (h.trans (isort_perm x).symm))
  intro a b ha hb h1 h2
  rw [hy a ((isort_perm y).mem_iff.1 ha), hx b ((isort_perm x).mem_iff.1 hb), Rat.le_antisymm h1 h2]
theorem mkL_cr {f : Nat → Rat} {n : Nat} : ∀ r ∈ mkL f n, r = cr r.q := by
  intro r hr
  unfold mkL at hr
  obtain ⟨i, _, rfl⟩ := List.mem_map.1 hr
  rw [cr_q]
theorem sortR_bk (a : List RR) : sortR (bk a a.length) = sortR a := by
  refine isort_one mkL_cr ?_
  rw [mkL_map, mkL_map, bk_rev]
  exact (List.reverse_perm a).map _
theorem sortR_len (a : List RR) : (sortR a).length = a.length := by unfold sortR; rw [isort_len, mkL_len]
theorem sortR_sz {a : List RR} {K : Nat} (h : ∀ i, rs (atQ a i) ≤ K) : ∀ r ∈ sortR a, r.sz ≤ K := fun r hr => mkL_sz (fun i _ => h i) r ((isort_perm _).mem_iff.1 hr)
theorem cov_self0 {a : List RR} (h : 2 ≤ a.length) : 0 ≤ covQ a a := (cov_cauchy rfl h).2.1

end Go.Proofs.Ytifnpelkoklcnaa
