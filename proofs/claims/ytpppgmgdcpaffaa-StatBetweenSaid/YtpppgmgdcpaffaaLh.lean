/- the plain laws of rows in order: ways along and the mean lie between the ends -/
import Derived.Test.YtpppgmgdcpaffaaLg
namespace Go.Proofs.Ytpppgmgdcpaffaa
open Go.RowKit
set_option linter.unusedSimpArgs false
set_option linter.unusedVariables false

theorem sortR_up (l : List RR) {i j : Nat} (h : i ≤ j) (hj : j < l.length) : atQ (sortR l) i ≤ atQ (sortR l) j := by
  rcases Nat.eq_or_lt_of_le h with e | e
  · rw [e]; exact Rat.le_refl
  · exact isort_up _ i j e (by rw [mkL_len]; exact hj)
theorem sortR_has (l : List RR) {i : Nat} (h : i < l.length) : ∃ j, j < l.length ∧ atQ l i = atQ (sortR l) j := by
  have h1 : cr (atQ l i) ∈ mkL (atQ l) l.length := by
    unfold mkL
    exact List.mem_map.2 ⟨i, List.mem_range.2 h, rfl⟩
  have h2 : cr (atQ l i) ∈ sortR l := (isort_perm _).mem_iff.2 h1
  obtain ⟨j, hj, e⟩ := List.getElem_of_mem h2
  refine ⟨j, by rw [sortR_len] at hj; exact hj, ?_⟩
  unfold atQ
  rw [List.getD_eq_getElem?_getD (l := sortR l), List.getElem?_eq_getElem hj, e]
  exact (cr_q _).symm
theorem way_between {l : List RR} {q : Rat} (h0 : 0 ≤ q) (h1 : q ≤ 1) (hn : 0 < l.length) : atQ (sortR l) 0 ≤ wayQ (atQ (sortR l)) q l.length ∧ wayQ (atQ (sortR l)) q l.length ≤ atQ (sortR l) (l.length - 1) := by
  obtain ⟨f0, f1⟩ := place_facts h0 h1 hn
  unfold wayQ
  split
  · rename_i h
    have hab := sortR_up l (i := (placeQ q l.length).floor.toNat) (j := (placeQ q l.length).floor.toNat + 1) (by omega) h
    have ha := sortR_up l (i := 0) (j := (placeQ q l.length).floor.toNat) (by omega) (by omega)
    have hb := sortR_up l (i := (placeQ q l.length).floor.toNat + 1) (j := l.length - 1) (by omega) (by omega)
    have t0 : 0 ≤ placeQ q l.length - (((placeQ q l.length).floor : Int) : Rat) := by
      have := Rat.floor_le (placeQ q l.length)
      grind
    have t1 : placeQ q l.length - (((placeQ q l.length).floor : Int) : Rat) ≤ 1 := by
      have := Rat.lt_floor_add_one (placeQ q l.length)
      grind
    generalize placeQ q l.length - (((placeQ q l.length).floor : Int) : Rat) = t at t0 t1 ⊢
    generalize atQ (sortR l) (placeQ q l.length).floor.toNat = a at *
    generalize atQ (sortR l) ((placeQ q l.length).floor.toNat + 1) = b at *
    have hd : 0 ≤ b - a := by grind
    have m0 := Rat.mul_nonneg t0 hd
    have m1 := Rat.mul_le_mul_of_nonneg_right t1 hd
    constructor <;> grind
  · exact ⟨sortR_up l (by omega) (by omega), sortR_up l (by omega) (by omega)⟩
theorem quant_between {l : List RR} {q : Rat} (h0 : ¬ q < 0) (h1 : ¬ 1 < q) (hn : 0 < l.length) : atQ (sortR l) 0 ≤ quantQ q l ∧ quantQ q l ≤ atQ (sortR l) (l.length - 1) := by
  unfold quantQ
  rw [if_neg (by rintro (h | h) <;> contradiction), if_neg (by omega)]
  exact way_between (Rat.not_lt.1 h0) (Rat.not_lt.1 h1) hn
theorem mean_between {l : List RR} (hn : 0 < l.length) : atQ (sortR l) 0 ≤ meanQ l ∧ meanQ l ≤ atQ (sortR l) (l.length - 1) := by
  rw [meanQ_eq hn]
  have hm := mean_mul (f := atQ l) hn
  have hp : (0 : Rat) < (((l.length : Nat) : Int) : Rat) := by
    rw [show (0 : Rat) = ((0 : Int) : Rat) from rfl, Rat.intCast_lt_intCast]; omega
  have lo : sumTo (fun _ => atQ (sortR l) 0) l.length ≤ sumTo (atQ l) l.length := sumTo_le fun i hi => by
    obtain ⟨j, hj, e⟩ := sortR_has l hi
    rw [e]
    exact sortR_up l (by omega) hj
  have hi : sumTo (atQ l) l.length ≤ sumTo (fun _ => atQ (sortR l) (l.length - 1)) l.length := sumTo_le fun i hi => by
    obtain ⟨j, hj, e⟩ := sortR_has l hi
    rw [e]
    exact sortR_up l (by omega) (by omega)
  rw [sumTo_const, ← hm, Rat.mul_comm] at lo
  rw [sumTo_const, ← hm, Rat.mul_comm ((l.length : Nat) : Rat)] at hi
  rw [show ((l.length : Nat) : Rat) = (((l.length : Nat) : Int) : Rat) from rfl] at lo hi
  exact ⟨Rat.le_of_mul_le_mul_right lo hp, Rat.le_of_mul_le_mul_right hi hp⟩
theorem errQ_ok {q : Rat} {l : List RR} (h0 : ¬ q < 0) (h1 : ¬ 1 < q) (hn : 0 < l.length) : errQ q l = 0 := by
  unfold errQ
  rw [if_neg (by rintro (h | h) <;> contradiction), if_neg (by omega)]
theorem quant_size {l : List RR} {q : Rat} (h : ∀ i, rs (atQ l i) ≤ 1000) (hq : rs q ≤ 1) (hn : 0 < l.length) (hl : l.length < 20) : rs (quantQ q l) ≤ 1000000 := by
  have ha : ∀ i, rs (atQ (sortR l) i) ≤ 1000 := fun i => by
    unfold atQ
    rcases Nat.lt_or_ge i (sortR l).length with hi | hi
    · have h2 := sortR_sz h _ (getD_mem (d := rr0) hi)
      rw [sortR_cr l (by rw [sortR_len] at hi; exact hi), cr_sz] at h2
      exact h2
    · rw [List.getD_eq_getElem?_getD, List.getElem?_eq_none hi]
      show rs rr0.q ≤ 1000
      rw [rr0_q]; exact rs0 (by omega)
  unfold quantQ
  split
  · exact rs0 (by omega)
  rw [if_neg (by omega)]
  have rql : rs ((((l.length : Nat) : Int) - 1 : Int) : Rat) ≤ 2 := rsb_int (by omega) (by omega) (by omega)
  have rp : rs (placeQ q l.length) ≤ 3 := rsb_mul hq rql (by omega)
  unfold wayQ
  split
  · have rf : rs (((placeQ q l.length).floor : Int) : Rat) ≤ 10 := rsb_floor rp (by omega)
    have ra := rsb_sub rp rf (Nat.le_refl _)
    have rd := rsb_sub (ha ((placeQ q l.length).floor.toNat + 1)) (ha (placeQ q l.length).floor.toNat) (Nat.le_refl _)
    have rm := rsb_mul ra rd (Nat.le_refl _)
    exact rsb_add (ha _) rm (by omega)
  · exact Nat.le_trans (ha _) (by omega)

end Go.Proofs.Ytpppgmgdcpaffaa
