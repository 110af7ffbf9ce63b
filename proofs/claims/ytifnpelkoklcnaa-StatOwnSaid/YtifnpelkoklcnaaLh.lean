/- the plain laws of rows in order: ways along and the mean lie between the ends stat.Median by the abstract walk. Condition: rows of fewer than 20 numbers of at most 1000 limbs. the plain laws of rows in order: moved rows -/
import Derived.Test.YtifnpelkoklcnaaLg
namespace Go.Proofs.Ytifnpelkoklcnaa
open Go.RowKit
set_option linter.unusedSimpArgs false
set_option linter.unusedVariables false

theorem sortR_up (l : List RR) {i j : Nat} (h : i ≤ j) (hj : j < l.length) : atQ (sortR l) i ≤ atQ (sortR l) j := by
  rcases Nat.eq_or_lt_of_le h with e | e
  · rw [e]; exact Rat.le_refl
  · exact isort_up _ i j e (by rw [mkL_len]; exact hj)
theorem sortR_has (l : List RR) {i : Nat} (h : i < l.length) : ∃ j, j < l.length ∧ atQ l i = atQ (sortR l) j := by
  have h1 : cr (atQ l i) ∈ mkL (atQ l) l.length := by
    unfold mkL
    exact List.mem_map.2 ⟨i, List.mem_range.2 h, rfl⟩
  have h2 : cr (atQ l i) ∈ sortR l := (isort_perm _).mem_iff.2 h1
  obtain ⟨j, hj, e⟩ := List.getElem_of_mem h2
  refine ⟨j, by rw [sortR_len] at hj; exact hj, ?_⟩
  unfold atQ
  rw [List.getD_eq_getElem?_getD (l := sortR l), List.getElem?_eq_getElem hj, e]
  exact (cr_q _).symm
theorem way_between {l : List RR} {q : Rat} (h0 : 0 ≤ q) (h1 : q ≤ 1) (hn : 0 < l.length) : atQ (sortR l) 0 ≤ wayQ (atQ (sortR l)) q l.length ∧ wayQ (atQ (sortR l)) q l.length ≤ atQ (sortR l) (l.length - 1) := by
  obtain ⟨f0, f1⟩ := place_facts h0 h1 hn
  unfold wayQ
  split
  · rename_i h
    have hab := sortR_up l (i := (placeQ q l.length).floor.toNat) (j := (placeQ q l.length).floor.toNat + 1) (by omega) h
    have ha := sortR_up l (i := 0) (j := (placeQ q l.length).floor.toNat) (by omega) (by omega)
    have hb := sortR_up l (i := (placeQ q l.length).floor.toNat + 1) (j := l.length - 1) (by omega) (by omega)
    have t0 : 0 ≤ placeQ q l.length - (((placeQ q l.length).floor : Int) : Rat) := by
      have := Rat.floor_le (placeQ q l.length)
      grind
    have t1 : placeQ q l.length - (((placeQ q l.length).floor : Int) : Rat) ≤ 1 := by
      have := Rat.lt_floor_add_one (placeQ q l.length)
      grind
    generalize placeQ q l.length - (((placeQ q l.length).floor : Int) : Rat) = t at t0 t1 ⊢
    generalize atQ (sortR l) (placeQ q l.length).floor.toNat = a at *
    generalize atQ (sortR l) ((placeQ q l.length).floor.toNat + 1) = b at *
    have hd : 0 ≤ b - a := by grind
    have m0 := Rat.mul_nonneg t0 hd
    have m1 := Rat.mul_le_mul_of_nonneg_right t1 hd
    constructor <;> grind
  · exact ⟨sortR_up l (by omega) (by omega), sortR_up l (by omega) (by omega)⟩
theorem quant_between {l : List RR} {q : Rat} (h0 : ¬ q < 0) (h1 : ¬ 1 < q) (hn : 0 < l.length) : atQ (sortR l) 0 ≤ quantQ q l ∧ quantQ q l ≤ atQ (sortR l) (l.length - 1) := by
  unfold quantQ
  rw [if_neg (by rintro (h | h) <;> contradiction), if_neg (by omega)]
  exact way_between (Rat.not_lt.1 h0) (Rat.not_lt.1 h1) hn
theorem mean_between {l : List RR} (hn : 0 < l.length) : atQ (sortR l) 0 ≤ meanQ l ∧ meanQ l ≤ atQ (sortR l) (l.length - 1) := by
  rw [meanQ_eq hn]
  have hm := mean_mul (f := atQ l) hn
  have hp : (0 : Rat) < (((l.length : Nat) : Int) : Rat) := by
    rw [show (0 : Rat) = ((0 : Int) : Rat) from rfl, Rat.intCast_lt_intCast]; omega
  have lo : sumTo (fun _ => atQ (sortR l) 0) l.length ≤ sumTo (atQ l) l.length := sumTo_le fun i hi => by
    obtain ⟨j, hj, e⟩ := sortR_has l hi
    rw [e]
    exact sortR_up l (by omega) hj
  have hi : sumTo (atQ l) l.length ≤ sumTo (fun _ => atQ (sortR l) (l.length - 1)) l.length := sumTo_le fun i hi => by
    obtain ⟨j, hj, e⟩ := sortR_has l hi
    rw [e]
    exact sortR_up l (by omega) (by omega)
  rw [sumTo_const, ← hm, Rat.mul_comm] at lo
  rw [sumTo_const, ← hm, Rat.mul_comm ((l.length : Nat) : Rat)] at hi
  rw [show ((l.length : Nat) : Rat) = (((l.length : Nat) : Int) : Rat) from rfl] at lo hi
  exact ⟨Rat.le_of_mul_le_mul_right lo hp, Rat.le_of_mul_le_mul_right hi hp⟩
theorem errQ_ok {q : Rat} {l : List RR} (h0 : ¬ q < 0) (h1 : ¬ 1 < q) (hn : 0 < l.length) : errQ q l = 0 := by
  unfold errQ
  rw [if_neg (by rintro (h | h) <;> contradiction), if_neg (by omega)]
theorem quant_size {l : List RR} {q : Rat} (h : ∀ i, rs (atQ l i) ≤ 1000) (hq : rs q ≤ 1) (hn : 0 < l.length) (hl : l.length < 20) : rs (quantQ q l) ≤ 1000000 := by
  have ha : ∀ i, rs (atQ (sortR l) i) ≤ 1000 := fun i => by
    unfold atQ
    rcases Nat.lt_or_ge i (sortR l).length with hi | hi
    · have h2 := sortR_sz h _ (getD_mem (d := rr0) hi)
      rw [sortR_cr l (by rw [sortR_len] at hi; exact hi), cr_sz] at h2
      exact h2
    · rw [List.getD_eq_getElem?_getD, List.getElem?_eq_none hi]
      show rs rr0.q ≤ 1000
      rw [rr0_q]; exact rs0 (by omega)
  unfold quantQ
  split
  · exact rs0 (by omega)
  rw [if_neg (by omega)]
  have rql : rs ((((l.length : Nat) : Int) - 1 : Int) : Rat) ≤ 2 := rsb_int (by omega) (by omega) (by omega)
  have rp : rs (placeQ q l.length) ≤ 3 := rsb_mul hq rql (by omega)
  unfold wayQ
  split
  · have rf : rs (((placeQ q l.length).floor : Int) : Rat) ≤ 10 := rsb_floor rp (by omega)
    have ra := rsb_sub rp rf (Nat.le_refl _)
    have rd := rsb_sub (ha ((placeQ q l.length).floor.toNat + 1)) (ha (placeQ q l.length).floor.toNat) (Nat.le_refl _)
    have rm := rsb_mul ra rd (Nat.le_refl _)
    exact rsb_add (ha _) rm (by omega)
  · exact Nat.le_trans (ha _) (by omega)

end Go.Proofs.Ytifnpelkoklcnaa

namespace Go.Proofs.Ytifnpelkoklcnaa
open Go.RowKit
set_option linter.unusedSimpArgs false
set_option linter.unusedVariables false

def halfQ : Rat := ((1 : Int) : Rat) / ((2 : Int) : Rat)
theorem rs_half : rs halfQ ≤ 1 := by decide +kernel

def d_stat_Median : Den := den1 aRats (fun l => l.length < 20 ∧ ∀ r ∈ l, r.sz ≤ 1000) fun l => ratIntV (cr (quantQ halfQ l)) (errQ halfQ l)
set_option maxRecDepth 100000 in
set_option maxHeartbeats 1000000 in
theorem s_stat_Median : Sound Try.prog 56 d_stat_Median := by
  refine sound1 (fz := nofz) (l := [(84, d_rat_Int), (105, d_stat_by), (54, d_stat_Quantile)]) TT_ok ⟨s_rat_Int, s_stat_by, s_stat_Quantile, trivial⟩ mixed Try.func56 Try.ntmps56 Try.results56 Try.call56 rfl (by omega) (fun _ => rfl) ?_
  intro l hp hl
  rw [codeK_start]
  have hh : ((1 : Int) : Rat) / ((2 : Int) : Rat) = halfQ := rfl
  have h1 := rs_half
  have h2 : rs ((1 : Int) : Rat) ≤ 2 := rsb_int (by omega) (by omega) (by omega)
  have h3 := hp.1
  have h4 := hp.2
  simp only [go_sem, d_rat_Int, d_stat_by, d_stat_Quantile, hh, Nat.reduceBEq, Nat.reduceBNe, Nat.reduceLT, Nat.reduceLeDiff, Nat.reduceAdd, Nat.reduceSub, Nat.reduceMul, Nat.reduceEqDiff, Int.reduceNeg, Int.reduceAdd, Int.reduceLT, Int.reduceLE, Int.reduceToNat, ↓reduceIte]

  and_intros
  all_goals first | assumption | omega | exact trivial | rfl | (show okDraw _ _ = true; kernel_rfl)


end Go.Proofs.Ytifnpelkoklcnaa

namespace Go.Proofs.Ytifnpelkoklcnaa
open Go.RowKit
set_option linter.unusedSimpArgs false
set_option linter.unusedVariables false

theorem isort_is {x z : List RR} (hx : ∀ r ∈ x, r = cr r.q) (h : z.Perm x) (up : z.Pairwise fun a b => a.q ≤ b.q) : isort x = z := by
  have hz : ∀ r ∈ z, r = cr r.q := fun r hr => hx r (h.mem_iff.1 hr)
  have ux : (isort x).Pairwise fun a b => a.q ≤ b.q := by
    rw [List.pairwise_iff_getElem]
    intro i j hi hj hij
    have h := isort_up x i j hij (by rw [isort_len] at hj; exact hj)
    unfold atQ at h
    rw [List.getD_eq_getElem?_getD, List.getD_eq_getElem?_getD, List.getElem?_eq_getElem hi, List.getElem?_eq_getElem hj] at h
    exact h
  refine List.Perm.eq_of_pairwise (le := fun a b : RR => a.q ≤ b.q) ?_ ux up ((isort_perm x).trans h.symm)
  intro a b ha hb h1 h2
  rw [hx a ((isort_perm x).mem_iff.1 ha), hz b hb, Rat.le_antisymm h1 h2]
theorem isort_pw (x : List RR) : (isort x).Pairwise fun a b => a.q ≤ b.q := by
  rw [List.pairwise_iff_getElem]
  intro i j hi hj hij
  have h := isort_up x i j hij (by rw [isort_len] at hj; exact hj)
  unfold atQ at h
  rw [List.getD_eq_getElem?_getD, List.getD_eq_getElem?_getD, List.getElem?_eq_getElem hi, List.getElem?_eq_getElem hj] at h
  exact h
/-- a number moved -/
def mv (a b : Rat) (r : RR) : RR := cr (r.q * a + b)
theorem mv_q (a b : Rat) (r : RR) : (mv a b r).q = r.q * a + b := cr_q _
theorem mkL_mv (l : List RR) (a b : Rat) : mkL (fun i => atQ l i * a + b) l.length = (mkL (atQ l) l.length).map (mv a b) := by
  unfold mkL
  rw [List.map_map]
  refine List.map_congr_left fun i _ => ?_
  show cr (atQ l i * a + b) = cr ((cr (atQ l i)).q * a + b)
  rw [cr_q]
theorem mv_cr {a b : Rat} {x : List RR} : ∀ r ∈ x.map (mv a b), r = cr r.q := by
  intro r hr
  obtain ⟨s, _, rfl⟩ := List.mem_map.1 hr
  rw [mv_q]; rfl
/-- so many times as much, not below 0: the row in order is moved -/
theorem sort_up {l : List RR} {a b : Rat} (ha : 0 ≤ a) : isort (mkL (fun i => atQ l i * a + b) l.length) = (sortR l).map (mv a b) := by
  rw [mkL_mv]
  refine isort_is mv_cr ((isort_perm _).map _) ?_
  rw [List.pairwise_map]
  refine (isort_pw (mkL (atQ l) l.length)).imp fun {x y} h => ?_
  rw [mv_q, mv_q]
  have := Rat.mul_le_mul_of_nonneg_right h ha
  grind
/-- below 0: it is turned round as well -/
theorem sort_down {l : List RR} {a b : Rat} (ha : a ≤ 0) : isort (mkL (fun i => atQ l i * a + b) l.length) = ((sortR l).map (mv a b)).reverse := by
  rw [mkL_mv]
  refine isort_is mv_cr ((List.reverse_perm _).trans ((isort_perm _).map _)) ?_
  rw [List.pairwise_reverse, List.pairwise_map]
  refine (isort_pw (mkL (atQ l) l.length)).imp fun {x y} h => ?_
  rw [mv_q, mv_q]
  have := Rat.mul_le_mul_of_nonneg_right h (show (0 : Rat) ≤ -a by grind)
  grind
theorem floor_is {p : Rat} {z : Int} (h1 : ((z : Int) : Rat) ≤ p) (h2 : p < ((z : Int) : Rat) + 1) : p.floor = z := by
  have a1 := Rat.le_floor_iff.2 h1
  have a2 : ((p.floor : Int) : Rat) < ((z + 1 : Int) : Rat) := by
    have h := Rat.floor_le p
    rw [Rat.intCast_add, show ((1 : Int) : Rat) = 1 from rfl]
    grind
  rw [Rat.intCast_lt_intCast] at a2
  omega
theorem half_two (x : Rat) : halfQ * (x + x) = x := by
  have h : halfQ + halfQ = 1 := by decide +kernel
  grind
/-- half way along -/
theorem way_half (f : Nat → Rat) {n : Nat} (hn : 0 < n) : wayQ f halfQ n = halfQ * (f ((n - 1) / 2) + f (n / 2)) := by
  have hh : halfQ + halfQ = 1 := by decide +kernel
  rcases Nat.mod_two_eq_zero_or_one n with e | e
  · obtain ⟨m, rfl⟩ : ∃ m, n = 2 * (m + 1) := ⟨n / 2 - 1, by omega⟩
    have hp : placeQ halfQ (2 * (m + 1)) = ((m : Int) : Rat) + halfQ := by
      unfold placeQ
      rw [show (((2 * (m + 1) : Nat) : Int) - 1 : Int) = (m : Int) + m + 1 by omega, Rat.intCast_add, Rat.intCast_add, show ((1 : Int) : Rat) = 1 from rfl]
      grind
    have h0 : 0 ≤ halfQ := by decide +kernel
    have h1 : halfQ < 1 := by decide +kernel
    have hf : (placeQ halfQ (2 * (m + 1))).floor = (m : Int) := floor_is (by rw [hp]; grind) (by rw [hp]; grind)
    unfold wayQ
    rw [hf, Int.toNat_natCast, if_pos (by omega), hp, show (2 * (m + 1) - 1) / 2 = m by omega, show 2 * (m + 1) / 2 = m + 1 by omega]
    grind
  · obtain ⟨m, rfl⟩ : ∃ m, n = 2 * m + 1 := ⟨n / 2, by omega⟩
    have hp : placeQ halfQ (2 * m + 1) = ((m : Int) : Rat) := by
      unfold placeQ
      rw [show (((2 * m + 1 : Nat) : Int) - 1 : Int) = (m : Int) + m by omega, Rat.intCast_add]
      exact half_two _
    have hf : (placeQ halfQ (2 * m + 1)).floor = (m : Int) := floor_is (by rw [hp]; exact Rat.le_refl) (by rw [hp]; grind)
    unfold wayQ
    rw [hf, Int.toNat_natCast, hp, show (2 * m + 1 - 1) / 2 = m by omega, show (2 * m + 1) / 2 = m by omega, half_two]
    split
    · grind
    · rfl

/-! mean, variance, median of a row of which all are so many times as much, and so much more -/

def movL (l : List RR) (a b : Rat) (n : Nat) : List RR := mkL (fun i => atQ l i * a + b) n
theorem movL_len (l : List RR) (a b : Rat) (n : Nat) : (movL l a b n).length = n := mkL_len _ _
theorem sum_mov (l : List RR) (a b : Rat) (n : Nat) : sumTo (atQ (movL l a b n)) n = sumTo (atQ l) n * a + ((n : Nat) : Rat) * b := by
  rw [sumTo_congr (g := fun i => atQ l i * a + b) fun i hi => mkL_at _ hi, sumTo_add (fun i => atQ l i * a) (fun _ => b), sumTo_mul, sumTo_const]
theorem mean_mov {l : List RR} {a b : Rat} (h : 0 < l.length) : meanQ (movL l a b l.length) = meanQ l * a + b := by
  rw [meanQ_eq h, meanQ_eq (by rw [movL_len]; exact h), movL_len]
  have h1 := mean_mul (f := atQ l) h
  have h2 := mean_mul (f := atQ (movL l a b l.length)) h
  have h3 := natCast_ne h
  rw [sum_mov, show ((l.length : Nat) : Rat) = (((l.length : Nat) : Int) : Rat) from rfl] at h2
  have e : ∀ x y : Rat, x * (((l.length : Nat) : Int) : Rat) = y * (((l.length : Nat) : Int) : Rat) → x = y := fun x y h => by
    rw [← Rat.mul_one x, ← Rat.mul_one y, ← Rat.mul_inv_cancel _ h3, ← Rat.mul_assoc, ← Rat.mul_assoc, h]
  refine e _ _ ?_
  rw [h2]
  grind
theorem cov_mov {l : List RR} {a b : Rat} (h : 0 < l.length) : covQ (movL l a b l.length) (movL l a b l.length) = covQ l l * (a * a) := by
  unfold covQ
  rw [if_pos rfl, if_pos rfl, movL_len]
  split
  · rw [Rat.zero_mul]
  · rw [mean_mov h, sumTo_congr (g := fun i => (atQ l i - meanQ l) * (atQ l i - meanQ l) * (a * a)) fun i hi => by
      show (atQ (movL l a b l.length) i - (meanQ l * a + b)) * (atQ (movL l a b l.length) i - (meanQ l * a + b)) = _
      rw [show atQ (movL l a b l.length) i = atQ l i * a + b from mkL_at _ hi]
      grind]
    rw [sumTo_mul, Rat.div_def, Rat.div_def]
    grind
theorem sort_mov (l : List RR) (a b : Rat) : sortR (movL l a b l.length) = isort (mkL (fun i => atQ l i * a + b) l.length) := by
  unfold sortR
  rw [movL_len]
  congr 1
  exact mkL_congr fun i hi => mkL_at _ hi
theorem atQ_map_mv (x : List RR) (a b : Rat) {i : Nat} (h : i < x.length) : atQ (x.map (mv a b)) i = atQ x i * a + b := by
  unfold atQ
  rw [List.getD_eq_getElem?_getD, List.getElem?_map, List.getD_eq_getElem?_getD, List.getElem?_eq_getElem h]
  exact mv_q _ _ _
theorem atQ_rev (x : List RR) {i : Nat} (h : i < x.length) : atQ x.reverse i = atQ x (x.length - 1 - i) := by
  unfold atQ
  rw [List.getD_eq_getElem?_getD, List.getElem?_reverse h, List.getD_eq_getElem?_getD]
theorem med_mov {l : List RR} {a b : Rat} (h : 0 < l.length) : quantQ halfQ (movL l a b l.length) = quantQ halfQ l * a + b := by
  have h0 : ¬ (halfQ < 0 ∨ 1 < halfQ) := by decide +kernel
  have hh : halfQ + halfQ = 1 := by decide +kernel
  have hs := sortR_len l
  unfold quantQ
  rw [if_neg h0, if_neg h0, movL_len, if_neg (by omega), if_neg (by omega), way_half _ h, way_half _ h, sort_mov]
  rcases Rat.le_total (a := 0) (b := a) with ha | ha
  · rw [sort_up ha, atQ_map_mv _ _ _ (by omega), atQ_map_mv _ _ _ (by omega)]
    grind
  · have hl : ((sortR l).map (mv a b)).length = l.length := by rw [List.length_map, hs]
    rw [sort_down ha, atQ_rev _ (by omega), atQ_rev _ (by omega), hl, atQ_map_mv _ _ _ (by omega), atQ_map_mv _ _ _ (by omega), show l.length - 1 - (l.length - 1) / 2 = l.length / 2 by omega, show l.length - 1 - l.length / 2 = (l.length - 1) / 2 by omega]
    grind

end Go.Proofs.Ytifnpelkoklcnaa
