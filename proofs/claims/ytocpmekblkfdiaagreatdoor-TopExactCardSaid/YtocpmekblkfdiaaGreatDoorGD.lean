/- Rationals as sign, numerator, denominator: the plain arithmetic, over the core's Rat. No program. The words of the contracts on api.Rat: in memory, normal or not. No condition. Contracts of rat.Of, rat.Norm. Conditions: at most 10^11 limbs. Contracts of rat.Norm, rat.signed, rat.Neg, rat.Zero, rat.Int. Conditions: at most 10^12 limbs. Words of the walks over two boxed rationals. No condition. Blocks that a call lays one behind another, and what they hold later. No condition. -/
import Derived.Test.YtocpmekblkfdiaaGreatDoorGA
import Derived.Test.YtocpmekblkfdiaaGreatDoorGC
import Derived.Test.YtocpmekblkfdiaaGreatDoorGB
import Derived.Test.YtocpmekblkfdiaaGreatDoorNatAdd
import Derived.Test.YtocpmekblkfdiaaGreatDoorGK
import Derived.Deep.RegionWith
import Derived.Deep.RegionHeld3
import Derived.Deep.DeepCutAuto
import Derived.Deep.DeepMust
namespace Go.Proofs.YtocpmekblkfdiaaGreatDoor
open Go.RowKit
/-- a number with a sign -/
def sg (neg : Bool) (n : Nat) : Int := if neg then -(n : Int) else n
/-- the rational that a sign, a numerator and a denominator say (0 if the denominator is 0) -/
def qv (neg : Bool) (n d : Nat) : Rat := mkRat (sg neg n) d
/-- has a rational the other sign? -/
def ng (q : Rat) : Bool := decide (q.num < 0)
/-- a rational's numerator, without its sign -/
def nm (q : Rat) : Nat := q.num.natAbs
theorem sg_natAbs (neg : Bool) (n : Nat) : (sg neg n).natAbs = n := by cases neg <;> simp [sg]
theorem sg_zero (neg : Bool) : sg neg 0 = 0 := by cases neg <;> simp [sg]
theorem sg_neg (neg : Bool) (n : Nat) : - sg neg n = sg (!neg) n := by cases neg <;> simp [sg]
theorem sg_mul (s t : Bool) (a b : Nat) : sg s a * sg t b = sg (s != t) (a * b) := by
  cases s <;> cases t <;> simp [sg, Int.mul_neg, Int.neg_mul]
theorem sg_mulN (s : Bool) (a b : Nat) : sg s a * (b : Int) = sg s (a * b) := by
  cases s <;> simp [sg, Int.neg_mul]
theorem sg_add (s : Bool) (a b : Nat) : sg s a + sg s b = sg s (a + b) := by
  cases s <;> simp [sg]; omega
theorem sg_sub (s t : Bool) (a b : Nat) (h : s ≠ t) : sg s a + sg t b = if b ≤ a then sg s (a - b) else sg t (b - a) := by
  by_cases hle : b ≤ a
  · rw [if_pos hle]
    cases s <;> cases t
    · exact absurd rfl h
    · simp [sg]; omega
    · simp [sg]; omega
    · exact absurd rfl h
  · rw [if_neg hle]
    cases s <;> cases t
    · exact absurd rfl h
    · simp [sg]; omega
    · simp [sg]; omega
    · exact absurd rfl h
theorem sg_div (s : Bool) (a g : Nat) (h : g ∣ a) : sg s a / (g : Int) = sg s (a / g) := by
  obtain ⟨k, rfl⟩ := h
  by_cases hg : g = 0
  · subst hg; simp [sg_zero]
  · rw [Nat.mul_div_cancel_left _ (by omega), Nat.mul_comm, ← sg_mulN, Int.mul_ediv_cancel _ (by omega)]
theorem sg_neg_iff (s : Bool) (n : Nat) (h : n ≠ 0) : decide (sg s n < 0) = s := by
  cases s
  · simp [sg]
  · simp [sg]; omega
theorem qv_zero_num (s : Bool) (d : Nat) : qv s 0 d = 0 := by unfold qv; rw [sg_zero]; exact Rat.zero_mkRat d
theorem qv_zero_den (s : Bool) (n : Nat) : qv s n 0 = 0 := by unfold qv; exact Rat.mkRat_zero _
theorem qv_parts (s : Bool) (n d : Nat) (hd : d ≠ 0) : (qv s n d).num = sg s (n / Nat.gcd n d) ∧ (qv s n d).den = d / Nat.gcd n d := by
  unfold qv
  rw [Rat.num_mkRat, Rat.den_mkRat, if_neg hd, if_neg hd, sg_natAbs, Nat.gcd_comm d n]
  exact ⟨sg_div s n _ (Nat.gcd_dvd_left n d), rfl⟩
theorem nm_qv (s : Bool) (n d : Nat) (hn : n ≠ 0) (hd : d ≠ 0) : nm (qv s n d) = n / Nat.gcd n d ∧ (qv s n d).den = d / Nat.gcd n d ∧ ng (qv s n d) = s := by
  obtain ⟨h1, h2⟩ := qv_parts s n d hd
  refine ⟨by unfold nm; rw [h1, sg_natAbs], h2, ?_⟩
  unfold ng
  rw [h1]
  refine sg_neg_iff s _ ?_
  have hg := Nat.div_pos (Nat.le_of_dvd (Nat.pos_of_ne_zero hn) (Nat.gcd_dvd_left n d)) (Nat.gcd_pos_of_pos_left d (Nat.pos_of_ne_zero hn))
  omega
theorem parts_zero : nm 0 = 0 ∧ (0 : Rat).den = 1 ∧ ng 0 = false := ⟨rfl, rfl, rfl⟩
theorem qv_self (q : Rat) : qv (ng q) (nm q) q.den = q := by
  have h : sg (ng q) (nm q) = q.num := by
    unfold sg ng nm
    by_cases h : q.num < 0
    · simp [h]; omega
    · simp [h]; omega
  unfold qv
  rw [h]
  exact Rat.mkRat_self q
theorem nm_zero {q : Rat} : nm q = 0 ↔ q = 0 := by
  unfold nm
  rw [Int.natAbs_eq_zero, Rat.num_eq_zero]
theorem den_ne (q : Rat) : q.den ≠ 0 := q.den_nz
theorem qv_mul (s t : Bool) (a b c d : Nat) : qv s a b * qv t c d = qv (s != t) (a * c) (b * d) := by
  unfold qv
  rw [Rat.mkRat_mul_mkRat, sg_mul]
theorem qv_neg (s : Bool) (a b : Nat) : - qv s a b = qv (!s) a b := by
  unfold qv
  rw [Rat.neg_mkRat, sg_neg]
theorem qv_add (s : Bool) (a b c d : Nat) (hb : b ≠ 0) (hd : d ≠ 0) : qv s a b + qv s c d = qv s (a * d + c * b) (b * d) := by
  unfold qv
  rw [Rat.mkRat_add_mkRat _ _ hb hd, sg_mulN, sg_mulN, sg_add]
theorem qv_sub (s t : Bool) (a b c d : Nat) (hst : s ≠ t) (hb : b ≠ 0) (hd : d ≠ 0) :
    qv s a b + qv t c d = if c * b ≤ a * d then qv s (a * d - c * b) (b * d) else qv t (c * b - a * d) (b * d) := by
  unfold qv
  rw [Rat.mkRat_add_mkRat _ _ hb hd, sg_mulN, sg_mulN, sg_sub s t _ _ hst]
  split <;> rfl
theorem qv_inv (s : Bool) (a b : Nat) : (qv s a b)⁻¹ = qv s b a := by
  unfold qv
  rw [← Rat.divInt_ofNat, ← Rat.divInt_ofNat, Rat.inv_divInt]
  cases s
  · rfl
  · simp only [sg, if_true]
    rw [Rat.divInt_neg']
/-- how many limbs a number's longer part takes -/
def rs (q : Rat) : Nat := max (limbs (nm q)).length (limbs q.den).length
theorem rs_qv (s : Bool) (n d K : Nat) (hn : (limbs n).length ≤ K) (hd : (limbs d).length ≤ K) (hK : 1 ≤ K) : rs (qv s n d) ≤ K := by
  unfold rs
  by_cases h1 : n = 0
  · subst h1; rw [qv_zero_num]; exact Nat.max_le.2 ⟨by rw [parts_zero.1]; simp [limbs_zero], by rw [parts_zero.2.1]; exact hK⟩
  · by_cases h2 : d = 0
    · subst h2; rw [qv_zero_den]; exact Nat.max_le.2 ⟨by rw [parts_zero.1]; simp [limbs_zero], by rw [parts_zero.2.1]; exact hK⟩
    · obtain ⟨e1, e2, _⟩ := nm_qv s n d h1 h2
      rw [e1, e2]
      exact Nat.max_le.2 ⟨Nat.le_trans (limbs_len_mono (Nat.div_le_self _ _)) hn, Nat.le_trans (limbs_len_mono (Nat.div_le_self _ _)) hd⟩
theorem limbs_len_mul (a b : Nat) : (limbs (a * b)).length ≤ (limbs a).length + (limbs b).length := by
  refine limbs_len_le ?_
  rw [Nat.pow_add]
  have h1 := lt_of_limbs_len (Nat.le_refl (limbs a).length)
  have h2 := lt_of_limbs_len (Nat.le_refl (limbs b).length)
  exact Nat.mul_lt_mul'' h1 h2
theorem limbs_len_add (a b : Nat) : (limbs (a + b)).length ≤ max (limbs a).length (limbs b).length + 1 := by
  refine limbs_len_le ?_
  have h1 := lt_of_limbs_len (Nat.le_max_left (limbs a).length (limbs b).length)
  have h2 := lt_of_limbs_len (Nat.le_max_right (limbs a).length (limbs b).length)
  rw [Nat.pow_succ]
  omega
theorem rs_pos (q : Rat) : 1 ≤ rs q := by
  unfold rs
  have : 0 < (limbs q.den).length := Nat.pos_of_ne_zero fun h => q.den_nz (limbs_len_zero.1 h)
  exact Nat.le_trans this (Nat.le_max_right _ _)
theorem rs_nm (q : Rat) : (limbs (nm q)).length ≤ rs q := Nat.le_max_left _ _
theorem rs_den (q : Rat) : (limbs q.den).length ≤ rs q := Nat.le_max_right _ _
theorem rs_mul (p q : Rat) : rs (p * q) ≤ rs p + rs q := by
  have h : p * q = qv (ng p != ng q) (nm p * nm q) (p.den * q.den) := by rw [← qv_mul, qv_self, qv_self]
  rw [h]
  exact rs_qv _ _ _ _ (Nat.le_trans (limbs_len_mul _ _) (Nat.add_le_add (rs_nm p) (rs_nm q))) (Nat.le_trans (limbs_len_mul _ _) (Nat.add_le_add (rs_den p) (rs_den q))) (Nat.le_trans (rs_pos p) (Nat.le_add_right _ _))
theorem rs_neg (q : Rat) : rs (-q) = rs q := by
  unfold rs nm
  rw [Rat.neg_num, Rat.neg_den, Int.natAbs_neg]
theorem rs_add (p q : Rat) : rs (p + q) ≤ rs p + rs q + 1 := by
  have hd : (limbs (p.den * q.den)).length ≤ rs p + rs q + 1 := Nat.le_trans (limbs_len_mul _ _) (by have := rs_den p; have := rs_den q; omega)
  have h1 : (limbs (nm p * q.den)).length ≤ rs p + rs q := Nat.le_trans (limbs_len_mul _ _) (Nat.add_le_add (rs_nm p) (rs_den q))
  have h2 : (limbs (nm q * p.den)).length ≤ rs p + rs q := Nat.le_trans (limbs_len_mul _ _) (by have := rs_nm q; have := rs_den p; omega)
  have hp := qv_self p
  have hq := qv_self q
  by_cases hs : ng p = ng q
  · rw [← hp, ← hq, hs, qv_add _ _ _ _ _ p.den_nz q.den_nz, ← hs, hp, hs, hq]
    refine rs_qv _ _ _ _ (Nat.le_trans (limbs_len_add _ _) ?_) hd (by omega)
    have := Nat.max_le.2 ⟨h1, h2⟩
    omega
  · rw [← hp, ← hq, qv_sub _ _ _ _ _ _ hs p.den_nz q.den_nz, hp, hq]
    split
    · exact rs_qv _ _ _ _ (Nat.le_trans (limbs_len_mono (Nat.sub_le _ _)) (by omega)) hd (by omega)
    · exact rs_qv _ _ _ _ (Nat.le_trans (limbs_len_mono (Nat.sub_le _ _)) (by omega)) hd (by omega)
theorem rs_inv (q : Rat) : rs q⁻¹ ≤ rs q := by
  have h : q⁻¹ = qv (ng q) q.den (nm q) := by rw [← qv_inv, qv_self]
  rw [h]
  exact rs_qv _ _ _ _ (rs_den q) (rs_nm q) (rs_pos q)
end Go.Proofs.YtocpmekblkfdiaaGreatDoor
namespace Go.Proofs.YtocpmekblkfdiaaGreatDoor
open Go.RowKit
/-- the struct value v is the rational q, normal; its limbs lie in blocks from base on -/
def RatC (base : Nat) (w : World) (v : Value) (q : Rat) : Prop :=
  ∃ v1 v2, v = .agg #[.bool (ng q), v1, v2] ∧ Nt base w v1 (limbs (nm q)) ∧ Nt base w v2 (limbs q.den)
/-- the struct value v says the rational q, normal or not, in rows of at most K limbs -/
def RatR (K : Nat) (w : World) (v : Value) (q : Rat) : Prop :=
  ∃ s v1 v2 xs ys, v = .agg #[.bool s, v1, v2] ∧ Nt 0 w v1 xs ∧ Nt 0 w v2 ys ∧ q = qv s (val xs) (val ys) ∧ xs.length ≤ K ∧ ys.length ≤ K
theorem RatC.raw {base : Nat} {w : World} {v : Value} {q : Rat} (h : RatC base w v q) : RatR (rs q) w v q := by
  obtain ⟨v1, v2, rfl, h1, h2⟩ := h
  exact ⟨_, v1, v2, _, _, rfl, h1.mono (Nat.zero_le _), h2.mono (Nat.zero_le _), by rw [val_limbs, val_limbs, qv_self], rs_nm q, rs_den q⟩
theorem RatR.more {K K' : Nat} {w : World} {v : Value} {q : Rat} (h : RatR K w v q) (hK : K ≤ K') : RatR K' w v q := by
  obtain ⟨s, v1, v2, xs, ys, h0, h1, h2, h3, h4, h5⟩ := h
  exact ⟨s, v1, v2, xs, ys, h0, h1, h2, h3, by omega, by omega⟩
theorem RatC.rawK {base K : Nat} {w : World} {v : Value} {q : Rat} (h : RatC base w v q) (hK : rs q ≤ K) : RatR K w v q := h.raw.more hK
theorem RatC.below {base K : Nat} {w w' : World} {v : Value} {q : Rat} (h : RatC base w v q) (hb : Below K w w') (hK : w.heap.size ≤ K) : RatC base w' v q := by
  obtain ⟨v1, v2, rfl, h1, h2⟩ := h
  exact ⟨v1, v2, rfl, h1.below hb hK, h2.below hb hK⟩
theorem RatC.mono {base base' : Nat} {w : World} {v : Value} {q : Rat} (h : RatC base w v q) (hb : base' ≤ base) : RatC base' w v q := by
  obtain ⟨v1, v2, rfl, h1, h2⟩ := h
  exact ⟨v1, v2, rfl, h1.mono hb, h2.mono hb⟩
theorem RatR.below {K L : Nat} {w w' : World} {v : Value} {q : Rat} (h : RatR L w v q) (hb : Below K w w') (hK : w.heap.size ≤ K) : RatR L w' v q := by
  obtain ⟨s, v1, v2, xs, ys, h0, h1, h2, h3, h4, h5⟩ := h
  exact ⟨s, v1, v2, xs, ys, h0, h1.below hb hK, h2.below hb hK, h3, h4, h5⟩
theorem Nt.set {base g i : Nat} {w : World} {v u : Value} {xs : List Nat} (h : Nt base w v xs) (hg : g < base) : Nt base (w.setCell ⟨g, i, none⟩ u) v xs := by
  obtain ⟨ao, cap, h1, h2, h3, h4, h5⟩ := h
  refine ⟨ao, cap, h1, h2, h3, h4, fun hp => ?_⟩
  obtain ⟨b, off, e, hc⟩ := h5 hp
  refine ⟨b, off, e, fun j hj => ?_⟩
  have hb := h4.1 _ e
  rw [World.cell?_setCell_other]
  · exact hc j hj
  · intro he
    have : g = b := congrArg Addr.block he
    have hb' : base ≤ b := hb
    omega
theorem Nt.set3 {base g : Nat} {w : World} {v x y z : Value} {xs : List Nat} (h : Nt base w v xs) (hg : g < base) :
    Nt base (((w.setCell ⟨g, 0, none⟩ x).setCell ⟨g, 1, none⟩ y).setCell ⟨g, 2, none⟩ z) v xs := ((h.set hg).set hg).set hg
theorem RatC.set3 {base g : Nat} {w : World} {v x y z : Value} {q : Rat} (h : RatC base w v q) (hg : g < base) :
    RatC base (((w.setCell ⟨g, 0, none⟩ x).setCell ⟨g, 1, none⟩ y).setCell ⟨g, 2, none⟩ z) v q := by
  obtain ⟨v1, v2, rfl, h1, h2⟩ := h
  exact ⟨v1, v2, rfl, h1.set3 hg, h2.set3 hg⟩
theorem below_set3 {B g : Nat} {w0 w : World} {x y z : Value} (h : Below B w0 w) (hg : B ≤ g) : Below B w0 (((w.setCell ⟨g, 0, none⟩ x).setCell ⟨g, 1, none⟩ y).setCell ⟨g, 2, none⟩ z) :=
  ((h.setCell (by exact hg) _).setCell (by exact hg) _).setCell (by exact hg) _
/-- What a function answers that hands back a rational, normal, in new memory. -/
def RetRat (q : Rat) (w : World) (e : Ending) (w' : World) : Prop :=
  ∃ v, e = .returned v ∧ RatC w.heap.size w' v q ∧ Below w.heap.size w w'
theorem RatC.open {base : Nat} {w : World} {v : Value} {q : Rat} (h : RatC base w v q) :
    ∃ s ao1 n1 c1 ao2 n2 c2, v = .agg #[.bool s, .slice ao1 n1 c1, .slice ao2 n2 c2] := by
  obtain ⟨v1, v2, rfl, h1, h2⟩ := h
  obtain ⟨ao1, c1, rfl, _⟩ := h1.open
  obtain ⟨ao2, c2, rfl, _⟩ := h2.open
  exact ⟨_, _, _, _, _, _, _, rfl⟩
theorem RatR.open {K : Nat} {w : World} {v : Value} {q : Rat} (h : RatR K w v q) :
    ∃ s ao1 n1 c1 ao2 n2 c2, v = .agg #[.bool s, .slice ao1 n1 c1, .slice ao2 n2 c2] := by
  obtain ⟨s, v1, v2, xs, ys, rfl, h1, h2, _⟩ := h
  obtain ⟨ao1, c1, rfl, _⟩ := h1.open
  obtain ⟨ao2, c2, rfl, _⟩ := h2.open
  exact ⟨_, _, _, _, _, _, _, rfl⟩
/-- block g holds three cells (t: the type's number) -/
def Box3 (t : Nat) (w : World) (g : Nat) (a b c : Value) : Prop := w.heap[g]? = some (.cells #[a, b, c] t (0, 0))
theorem Box3.below {t K : Nat} {w w' : World} {g : Nat} {a b c : Value} (h : Box3 t w g a b c) (hb : Below K w w') (hK : g < K) : Box3 t w' g a b c := by
  unfold Box3 at *
  rw [hb.block g hK]
  exact h
theorem Box3.cells {t : Nat} {w : World} {g : Nat} {a b c : Value} (h : Box3 t w g a b c) :
    w.cell? ⟨g, 0, none⟩ = some a ∧ w.cell? ⟨g, 1, none⟩ = some b ∧ w.cell? ⟨g, 2, none⟩ = some c ∧ w.frozen? ⟨g, 0, none⟩ = false ∧ w.frozen? ⟨g, 1, none⟩ = false ∧ w.frozen? ⟨g, 2, none⟩ = false ∧ g < w.heap.size := by
  unfold Box3 at h
  refine ⟨?_, ?_, ?_, frozen_of_row w g 0 _ t h, frozen_of_row w g 1 _ t h, frozen_of_row w g 2 _ t h, (Array.getElem?_eq_some_iff.1 h).1⟩
  · rw [cell_of_row w g 0 _ t (0, 0) h]; rfl
  · rw [cell_of_row w g 1 _ t (0, 0) h]; rfl
  · rw [cell_of_row w g 2 _ t (0, 0) h]; rfl
theorem Box3.new (t : Nat) (w : World) (a b c : Value) : Box3 t (w.alloc (.cells #[a, b, c] t)) w.heap.size a b c := heap_alloc_new w _
theorem Box3.stored {t : Nat} {w : World} {g : Nat} {a b c : Value} (h : Box3 t w g a b c) (x y z : Value) : Box3 t (((w.setCell ⟨g, 0, none⟩ x).setCell ⟨g, 1, none⟩ y).setCell ⟨g, 2, none⟩ z) g x y z := by
  unfold Box3 at *
  have h1 := heap_setCell_same w g 0 _ t x h
  have h2 := heap_setCell_same _ g 1 _ t y h1
  have h3 := heap_setCell_same _ g 2 _ t z h2
  rw [h3]
  rfl
end Go.Proofs.YtocpmekblkfdiaaGreatDoor
namespace Go.Proofs.YtocpmekblkfdiaaGreatDoor
open Go.RowKit
set_option maxRecDepth 100000 in
set_option maxHeartbeats 1000000 in
theorem ratOf (w : World) (s : Bool) (v1 v2 : Value) (xs ys : List Nat) (b1 b2 : Nat) (h1 : Nt b1 w v1 xs) (h2 : Nt b2 w v2 ys) (hL1 : xs.length ≤ 1000000000000) (hL2 : ys.length ≤ 1000000000000) :
    Calls Tryz.prog 63 #[.bool s, v1, v2] w (RetRat (qv s (val xs) (val ys)) w) := by
  have l1 := limbs_len_val h1.lt
  have l2 := limbs_len_val h2.lt
  have G1 := Lib.hid (fun w1 (hb : Below w.heap.size w w1) => natTrimC w1 v1 xs b1 (h1.below hb (Nat.le_refl _)) (by omega))
  have G2 := Lib.hid (fun w1 (hb : Below w.heap.size w w1) => natTrimC w1 v2 ys b2 (h2.below hb (Nat.le_refl _)) (by omega))
  clear h1 h2
  generalize val xs = m at *
  generalize val ys = n at *
  generalize xs.length = n1 at *
  generalize ys.length = n2 at *
  have hm : (limbs m).length ≤ 1000000000000 := by omega
  have hn : (limbs n).length ≤ 1000000000000 := by omega
  clear hL1 hL2 l1 l2
  by_cases hz : m = 0 ∨ n = 0
  · have hq : qv s m n = 0 := by
      rcases hz with h | h
      · subst h; exact qv_zero_num _ _
      · subst h; exact qv_zero_den _ _
    rw [hq]
    clear hq
    have C1 := Lib.hid (fun w1 => natOf w1 1 (by omega))
    have hT : ((((limbs m).length : Int) == 0) = true) ∨ (((((limbs m).length : Int) == 0) = false) ∧ ((((limbs n).length : Int) == 0) = true)) := by
      by_cases h : m = 0
      · subst h; left; rfl
      · right
        rcases hz with h' | h'
        · exact absurd h' h
        · subst h'
          exact ⟨beq_eq_false_iff_ne.2 fun hc => h (limbs_len_zero.1 (by omega)), rfl⟩
    clear hz
    unfold RetNat at G1 G2
    generalize limbs m = A at *
    generalize limbs n = C at *
    rcases hT with hT | ⟨hT, hT2⟩
    all_goals
      go_enter Tryz.func63, Tryz.ntmps63
      go_wp2_with fail
      have hb0 : Below w.heap.size w (w.alloc (.cells #[.bool false, .slice none 0 0, .slice none 0 0] 24)) := (Below.refl _ _).alloc (Nat.le_refl _) _
      have hB0 := Box3.new 24 w (.bool false) (.slice none 0 0) (.slice none 0 0)
      generalize (w.alloc (.cells #[.bool false, .slice none 0 0, .slice none 0 0] 24)) = w0 at *
      have hg0 : w.heap.size < w0.heap.size := hB0.cells.2.2.2.2.2.2
      refine (G1.out w0 hb0).mono ?_
      rintro e w1 ⟨u1, rfl, t1, hb1⟩
      obtain ⟨ao1, c1, rfl, hc1⟩ := t1.open
      go_wp2_with fail
      have hb01 := bthen hb0 hb1
      have hB1 := hB0.below hb1 hg0
      refine (G2.out w1 hb01).mono ?_
      rintro e w2 ⟨u2, rfl, t2, hb2⟩
      obtain ⟨ao2, c2, rfl, hc2⟩ := t2.open
      have hg1 : w.heap.size < w1.heap.size := Nat.lt_of_lt_of_le hg0 hb1.size
      have hB2 := hB1.below hb2 hg1
      have hb02 := bthen hb01 hb2
      have hg2 : w.heap.size < w2.heap.size := Nat.lt_of_lt_of_le hg1 hb2.size
      clear G1 G2 t1 t2 hB0 hB1 hb0 hb01 hb1 hb2
      go_wp2_with fail
      refine (C1.out w2).mono ?_
      rintro e w3 ⟨u3, rfl, t3, hb3⟩
      obtain ⟨ao3, c3, rfl, hc3⟩ := t3.open
      have hB3 := hB2.below hb3 hg2
      have hb03 := bthen hb02 hb3
      obtain ⟨k0, k1, k2, f0, f1, f2, _⟩ := hB3.cells
      clear hB2 hb02 C1
      go_wp2
      obtain ⟨r0, r1, r2, _⟩ := (hB3.stored (.bool false) (.slice none 0 0) (.slice ao3 (limbs 1).length c3)).cells
      exact bodyPost_ret (v := .agg #[.bool false, .slice none 0 0, .slice ao3 (limbs 1).length c3]) (by simp [results, Tryz.results63, go_sem, r0, r1, r2]) rfl
        ⟨_, rfl, ⟨_, _, rfl, Nt.nil _ _, (t3.set3 hg2).mono (Nat.le_of_lt hg2)⟩, below_set3 hb03 (Nat.le_refl _)⟩
  · have hm0 : m ≠ 0 := fun h => hz (.inl h)
    have hn0 : n ≠ 0 := fun h => hz (.inr h)
    obtain ⟨e1, e2, e3⟩ := nm_qv s m n hm0 hn0
    have hT1 : (((limbs m).length : Int) == 0) = false := beq_eq_false_iff_ne.2 fun hc => hm0 (limbs_len_zero.1 (by omega))
    have hT2 : (((limbs n).length : Int) == 0) = false := beq_eq_false_iff_ne.2 fun hc => hn0 (limbs_len_zero.1 (by omega))
    have CG := Lib.hid (fun w1 v1 v2 b1 b2 h1 h2 => natGcd w1 v1 v2 (limbs m) (limbs n) b1 b2 h1 h2 hm hn)
    have hgl : (limbs (Nat.gcd m n)).length ≤ 1000000000000 := Nat.le_trans (limbs_len_mono (Nat.le_of_dvd (Nat.pos_of_ne_zero hm0) (Nat.gcd_dvd_left m n))) hm
    have CM := Lib.hid (fun w1 v1 v2 b1 b2 h1 h2 => natDivMod w1 v1 v2 (limbs m) (limbs (Nat.gcd m n)) b1 b2 h1 h2 hm hgl)
    have CN := Lib.hid (fun w1 v1 v2 b1 b2 h1 h2 => natDivMod w1 v1 v2 (limbs n) (limbs (Nat.gcd m n)) b1 b2 h1 h2 hn hgl)
    rw [val_limbs, val_limbs] at CG CM CN
    have HRet : ∀ w' v1 v2, Nt w.heap.size w' v1 (limbs (m / Nat.gcd m n)) → Nt w.heap.size w' v2 (limbs (n / Nat.gcd m n)) → RatC w.heap.size w' (.agg #[.bool s, v1, v2]) (qv s m n) := by
      intro w' v1 v2 h1 h2
      exact ⟨v1, v2, by rw [e3], by rw [e1]; exact h1, by rw [e2]; exact h2⟩
    have HR := Lib.hid HRet
    unfold RetNat at G1 G2 CG
    unfold RetDivMod at CM CN
    clear hz e1 e2 e3 HRet hgl hm hn
    generalize limbs (m / Nat.gcd m n) = QM at *
    generalize limbs (n / Nat.gcd m n) = QN at *
    generalize limbs (Nat.gcd m n) = GG at *
    generalize limbs m = A at *
    generalize limbs n = C at *
    go_enter Tryz.func63, Tryz.ntmps63
    go_wp2_with fail
    have hb0 : Below w.heap.size w (w.alloc (.cells #[.bool false, .slice none 0 0, .slice none 0 0] 24)) := (Below.refl _ _).alloc (Nat.le_refl _) _
    have hB0 := Box3.new 24 w (.bool false) (.slice none 0 0) (.slice none 0 0)
    generalize (w.alloc (.cells #[.bool false, .slice none 0 0, .slice none 0 0] 24)) = w0 at *
    have hg0 : w.heap.size < w0.heap.size := hB0.cells.2.2.2.2.2.2
    refine (G1.out w0 hb0).mono ?_
    rintro e w1 ⟨u1, rfl, t1, hb1⟩
    obtain ⟨ao1, c1, rfl, hc1⟩ := t1.open
    go_wp2_with fail
    have hb01 := bthen hb0 hb1
    have hB1 := hB0.below hb1 hg0
    refine (G2.out w1 hb01).mono ?_
    rintro e w2 ⟨u2, rfl, t2, hb2⟩
    obtain ⟨ao2, c2, rfl, hc2⟩ := t2.open
    have hg1 : w.heap.size < w1.heap.size := Nat.lt_of_lt_of_le hg0 hb1.size
    have hB2 := hB1.below hb2 hg1
    have hb02 := bthen hb01 hb2
    have hg2 : w.heap.size < w2.heap.size := Nat.lt_of_lt_of_le hg1 hb2.size
    replace t1 := (t1.below hb2 (Nat.le_refl _)).mono hg0
    replace t2 := t2.mono hg1
    clear G1 G2 hB0 hB1 hb0 hb01 hb1 hb2
    go_wp2_with fail
    refine (CG.out w2 _ _ _ _ t1 t2).mono ?_
    rintro e w3 ⟨u3, rfl, t3, hb3⟩
    obtain ⟨ao3, c3, rfl, hc3⟩ := t3.open
    have hB3 := hB2.below hb3 hg2
    have hb03 := bthen hb02 hb3
    have hg3 : w.heap.size < w3.heap.size := Nat.lt_of_lt_of_le hg2 hb3.size
    replace t1 := t1.below hb3 (Nat.le_refl _)
    replace t2 := t2.below hb3 (Nat.le_refl _)
    replace t3 := t3.mono hg2
    clear hB2 hb02 hb3
    go_wp2_with fail
    refine (CM.out w3 _ _ _ _ t1 t3).mono ?_
    rintro e w4 ⟨u4, u4', rfl, t4, _, hb4⟩
    obtain ⟨ao4, c4, rfl, hc4⟩ := t4.open
    have hB4 := hB3.below hb4 hg3
    have hb04 := bthen hb03 hb4
    have hg4 : w.heap.size < w4.heap.size := Nat.lt_of_lt_of_le hg3 hb4.size
    replace t2 := t2.below hb4 (Nat.le_refl _)
    replace t3 := t3.below hb4 (Nat.le_refl _)
    replace t4 := t4.mono hg3
    clear hB3 hb03 hb4
    go_wp2_with fail
    refine (CN.out w4 _ _ _ _ t2 t3).mono ?_
    rintro e w5 ⟨u5, u5', rfl, t5, _, hb5⟩
    obtain ⟨ao5, c5, rfl, hc5⟩ := t5.open
    have hB5 := hB4.below hb5 hg4
    have hb05 := bthen hb04 hb5
    replace t4 := t4.below hb5 (Nat.le_refl _)
    replace t5 := t5.mono hg4
    obtain ⟨k0, k1, k2, f0, f1, f2, _⟩ := hB5.cells
    clear hB4 hb04 hb5
    go_wp2
    obtain ⟨r0, r1, r2, _⟩ := (hB5.stored (.bool s) (.slice ao4 QM.length c4) (.slice ao5 QN.length c5)).cells
    exact bodyPost_ret (v := .agg #[.bool s, .slice ao4 QM.length c4, .slice ao5 QN.length c5]) (by simp [results, Tryz.results63, go_sem, r0, r1, r2]) rfl
      ⟨_, rfl, HR.out _ _ _ ((t4.set3 (Nat.lt_succ_self _)).mono (Nat.le_succ _)) ((t5.set3 (Nat.lt_succ_self _)).mono (Nat.le_succ _)), below_set3 hb05 (Nat.le_refl _)⟩
end Go.Proofs.YtocpmekblkfdiaaGreatDoor
namespace Go.Proofs.YtocpmekblkfdiaaGreatDoor
open Go.RowKit
set_option maxRecDepth 100000 in
set_option maxHeartbeats 1000000 in
theorem ratNorm (w : World) (v : Value) (q : Rat) (h : RatR 1000000000000 w v q) :
    Calls Tryz.prog 66 #[v] w (RetRat q w) := by
  obtain ⟨s, v1, v2, xs, ys, rfl, h1, h2, rfl, hL1, hL2⟩ := h
  have CO := Lib.hid (fun w1 (hb : Below w.heap.size w w1) => ratOf w1 s v1 v2 xs ys 0 0 (h1.below hb (Nat.le_refl _)) (h2.below hb (Nat.le_refl _)) hL1 hL2)
  obtain ⟨ao1, c1, rfl, hc1⟩ := h1.open
  obtain ⟨ao2, c2, rfl, hc2⟩ := h2.open
  generalize xs.length = n1 at *
  generalize ys.length = n2 at *
  generalize qv s (val xs) (val ys) = q at *
  clear h1 h2
  go_enter Tryz.func66, Tryz.ntmps66
  go_wp2_with fail
  have hb0 : Below w.heap.size w (w.alloc (.cells #[.bool s, .slice ao1 n1 c1, .slice ao2 n2 c2] 24)) := (Below.refl _ _).alloc (Nat.le_refl _) _
  have hb1 := hb0.alloc (by simp) (.cells #[.bool false, .slice none 0 0, .slice none 0 0] 24)
  have hB1 := Box3.new 24 (w.alloc (.cells #[.bool s, .slice ao1 n1 c1, .slice ao2 n2 c2] 24)) (.bool false) (.slice none 0 0) (.slice none 0 0)
  rw [World.size_alloc] at hB1
  generalize ((w.alloc (.cells #[.bool s, .slice ao1 n1 c1, .slice ao2 n2 c2] 24)).alloc (.cells #[.bool false, .slice none 0 0, .slice none 0 0] 24)) = w1 at *
  have hg1 : w.heap.size + 1 < w1.heap.size := hB1.cells.2.2.2.2.2.2
  refine (CO.out w1 hb1).mono ?_
  rintro e w2 ⟨v, rfl, hC, hb2⟩
  obtain ⟨s3, ao3, n3, c3, ao4, n4, c4, rfl⟩ := hC.open
  have hB2 := hB1.below hb2 hg1
  have hb02 := bthen hb1 hb2
  obtain ⟨k0, k1, k2, f0, f1, f2, _⟩ := hB2.cells
  clear hb0 hb1 hb2 hB1
  go_wp2
  obtain ⟨r0, r1, r2, _⟩ := (hB2.stored (.bool s3) (.slice ao3 n3 c3) (.slice ao4 n4 c4)).cells
  exact bodyPost_ret (v := .agg #[.bool s3, .slice ao3 n3 c3, .slice ao4 n4 c4]) (by simp [results, Tryz.results66, go_sem, r0, r1, r2]) rfl
    ⟨_, rfl, (hC.set3 hg1).mono (by omega), below_set3 hb02 (by omega)⟩
end Go.Proofs.YtocpmekblkfdiaaGreatDoor
namespace Go.Proofs.YtocpmekblkfdiaaGreatDoor
open Go.RowKit
theorem RatR.size {K : Nat} {w : World} {v : Value} {q : Rat} (h : RatR K w v q) (hK : 1 ≤ K) : rs q ≤ K := by
  obtain ⟨s, v1, v2, xs, ys, h0, h1, h2, rfl, h4, h5⟩ := h
  exact rs_qv _ _ _ _ (Nat.le_trans (limbs_len_val h1.lt) h4) (Nat.le_trans (limbs_len_val h2.lt) h5) hK
/-- box g holds the rational q, normal -/
def BoxQ (base : Nat) (w : World) (g : Nat) (q : Rat) : Prop :=
  ∃ v1 v2, Box3 24 w g (.bool (ng q)) v1 v2 ∧ Nt base w v1 (limbs (nm q)) ∧ Nt base w v2 (limbs q.den)
/-- two boxes hold rationals, normal; a third is new -/
def Boxes (w : World) (K : Nat) (a b : Rat) (wx : World) : Prop :=
  Below K w wx ∧ BoxQ K wx K a ∧ BoxQ K wx (K + 1) b ∧ Box3 24 wx (K + 1 + 1) (.bool false) (.slice none 0 0) (.slice none 0 0)
/-- three cells written -/
abbrev S3 (w : World) (g : Nat) (x y z : Value) : World := ((w.setCell ⟨g, 0, none⟩ x).setCell ⟨g, 1, none⟩ y).setCell ⟨g, 2, none⟩ z
theorem Box3.other {t g' : Nat} {w : World} {g : Nat} {a b c x y z : Value} (h : Box3 t w g a b c) (hne : g ≠ g') : Box3 t (S3 w g' x y z) g a b c := by
  unfold Box3 S3 at *
  rw [heap_setCell_other _ _ _ _ hne, heap_setCell_other _ _ _ _ hne, heap_setCell_other _ _ _ _ hne]
  exact h
theorem cS3 {w : World} {g g' i : Nat} {x y z : Value} (hne : g ≠ g') : (S3 w g' x y z).cell? ⟨g, i, none⟩ = w.cell? ⟨g, i, none⟩ := by
  have h : ∀ k, (⟨g', k, none⟩ : Addr) ≠ ⟨g, i, none⟩ := fun k e => hne (congrArg Addr.block e).symm
  unfold S3
  rw [World.cell?_setCell_other _ _ _ _ (h 2), World.cell?_setCell_other _ _ _ _ (h 1), World.cell?_setCell_other _ _ _ _ (h 0)]
theorem boxes_end {w w2 w3 : World} {K L M : Nat} {a b : Rat} {s5 s7 : Bool} {x5 x6 x7 x8 y0 y1 y2 z0 z1 z2 : Value}
    (hC1 : RatC L w2 (.agg #[.bool s5, x5, x6]) a) (hL : K + 1 + 1 < L) (hM : K + 1 + 1 < M) (hb3 : Below w2.heap.size w2 w3) (hC2 : RatC M w3 (.agg #[.bool s7, x7, x8]) b)
    (hb : Below K w w3) (h1 : Box3 24 w3 K y0 y1 y2) (h2 : Box3 24 w3 (K + 1) z0 z1 z2) (h3 : Box3 24 w3 (K + 1 + 1) (.bool false) (.slice none 0 0) (.slice none 0 0)) :
    Boxes w K a b (S3 (S3 w3 K (.bool s5) x5 x6) (K + 1) (.bool s7) x7 x8) := by
  obtain ⟨v1, v2, e1, n1, n2⟩ := hC1
  obtain ⟨v3, v4, e2, n3, n4⟩ := hC2
  simp only [Value.agg.injEq, Array.mk.injEq, List.cons.injEq, Value.bool.injEq, and_true] at e1 e2
  obtain ⟨rfl, rfl, rfl⟩ := e1
  obtain ⟨rfl, rfl, rfl⟩ := e2
  replace n1 := (n1.below hb3 (Nat.le_refl _))
  replace n2 := (n2.below hb3 (Nat.le_refl _))
  refine ⟨below_set3 (below_set3 hb (Nat.le_refl _)) (by omega), ⟨_, _, (h1.stored _ _ _).other (by omega), ?_, ?_⟩, ⟨_, _, (h2.other (by omega)).stored _ _ _, ?_, ?_⟩, (h3.other (by omega)).other (by omega)⟩
  · exact ((n1.set3 (by omega)).set3 (by omega)).mono (by omega)
  · exact ((n2.set3 (by omega)).set3 (by omega)).mono (by omega)
  · exact ((n3.set3 (by omega)).set3 (by omega)).mono (by omega)
  · exact ((n4.set3 (by omega)).set3 (by omega)).mono (by omega)
theorem boxes3 (w : World) (a b c d e f : Value) : ∃ K, K = w.heap.size ∧
    Below K w (((w.alloc (.cells #[a, b, c] 24)).alloc (.cells #[d, e, f] 24)).alloc (.cells #[.bool false, .slice none 0 0, .slice none 0 0] 24)) ∧
    Box3 24 (((w.alloc (.cells #[a, b, c] 24)).alloc (.cells #[d, e, f] 24)).alloc (.cells #[.bool false, .slice none 0 0, .slice none 0 0] 24)) K a b c ∧
    Box3 24 (((w.alloc (.cells #[a, b, c] 24)).alloc (.cells #[d, e, f] 24)).alloc (.cells #[.bool false, .slice none 0 0, .slice none 0 0] 24)) (K + 1) d e f ∧
    Box3 24 (((w.alloc (.cells #[a, b, c] 24)).alloc (.cells #[d, e, f] 24)).alloc (.cells #[.bool false, .slice none 0 0, .slice none 0 0] 24)) (K + 1 + 1) (.bool false) (.slice none 0 0) (.slice none 0 0) := by
  refine ⟨_, rfl, (((Below.refl _ _).alloc (Nat.le_refl _) _).alloc (by simp) _).alloc (by simp; omega) _, ?_, ?_, ?_⟩
  · have h := ((Box3.new 24 w a b c).below ((Below.refl _ _).alloc (Nat.le_refl _) (.cells #[d, e, f] 24)) (by simp)).below ((Below.refl _ _).alloc (Nat.le_refl _) (.cells #[.bool false, .slice none 0 0, .slice none 0 0] 24)) (by simp; omega)
    exact h
  · have h := Box3.new 24 (w.alloc (.cells #[a, b, c] 24)) d e f
    rw [World.size_alloc] at h
    exact h.below ((Below.refl _ _).alloc (Nat.le_refl _) (.cells #[.bool false, .slice none 0 0, .slice none 0 0] 24)) (by simp)
  · have h := Box3.new 24 ((w.alloc (.cells #[a, b, c] 24)).alloc (.cells #[d, e, f] 24)) (.bool false) (.slice none 0 0) (.slice none 0 0)
    rw [World.size_alloc, World.size_alloc] at h
    exact h
end Go.Proofs.YtocpmekblkfdiaaGreatDoor
namespace Go.Proofs.YtocpmekblkfdiaaGreatDoor
open Go.RowKit
/-- block g holds the cells l (t: the type's number), not frozen -/
def Bx (t : Nat) (w : World) (g : Nat) (l : List Value) : Prop := w.heap[g]? = some (.cells l.toArray t (0, 0))
theorem Bx.lt {t : Nat} {w : World} {g : Nat} {l : List Value} (h : Bx t w g l) : g < w.heap.size := (Array.getElem?_eq_some_iff.1 h).1
theorem Bx.at {t : Nat} {w : World} {g : Nat} {l : List Value} (h : Bx t w g l) (i : Nat) {v : Value} (hv : l[i]? = some v) : w.cell? ⟨g, i, none⟩ = some v := by
  rw [cell_of_row w g i _ t (0, 0) h]
  simpa using hv
theorem Bx.fr {t : Nat} {w : World} {g : Nat} {l : List Value} (h : Bx t w g l) (i : Nat) : w.frozen? ⟨g, i, none⟩ = false := frozen_of_row w g i _ t h
theorem Bx.below {t K : Nat} {w w' : World} {g : Nat} {l : List Value} (h : Bx t w g l) (hb : Below K w w') (hK : w.heap.size ≤ K) : Bx t w' g l := by
  have hlt := h.lt
  unfold Bx at *
  rw [hb.block g (by omega)]
  exact h
theorem Box3.bx {t : Nat} {w : World} {g : Nat} {a b c : Value} (h : Box3 t w g a b c) : Bx t w g [a, b, c] := h
theorem alloc_old (w : World) (o : Obj) (g : Nat) (h : g < w.heap.size) : (w.alloc o).heap[g]? = w.heap[g]? := by
  have hb : Below w.heap.size w (w.alloc o) := (Below.refl _ _).alloc (Nat.le_refl _) _
  exact hb.block g h
/-- what the i-th block behind w holds -/
theorem allocs_at : ∀ (os : List Obj) (w : World) (i : Nat) (o : Obj), os[i]? = some o → (os.foldl World.alloc w).heap[w.heap.size + i]? = some o
  | [], _, _, _, h => by simp at h
  | o' :: os, w, 0, o, h => by
    simp at h
    subst h
    have h1 : ∀ (os : List Obj) (w : World) (g : Nat), g < w.heap.size → (os.foldl World.alloc w).heap[g]? = w.heap[g]? := by
      intro os
      induction os with
      | nil => intro w g _; rfl
      | cons o os ih =>
        intro w g hg
        rw [List.foldl_cons, ih _ _ (by rw [World.size_alloc]; omega), alloc_old _ _ _ hg]
    rw [List.foldl_cons, h1 _ _ _ (by rw [World.size_alloc]; omega)]
    exact heap_alloc_new w _
  | o' :: os, w, i + 1, o, h => by
    have := allocs_at os (w.alloc o') i o (by simpa using h)
    rw [World.size_alloc] at this
    rw [List.foldl_cons, show w.heap.size + (i + 1) = w.heap.size + 1 + i by omega]
    exact this
theorem allocs_below : ∀ (os : List Obj) (w : World), Below w.heap.size w (os.foldl World.alloc w)
  | [], w => Below.refl _ _
  | o :: os, w => by
    have h1 : Below w.heap.size w (w.alloc o) := (Below.refl _ _).alloc (Nat.le_refl _) _
    exact bthen h1 (allocs_below os (w.alloc o))
theorem Below.al {w w' : World} {o : Obj} (h : Below w.heap.size w w') : Below w.heap.size w (w'.alloc o) := h.alloc h.size _
theorem Below.st {w w' : World} {g i : Nat} {v : Value} (h : Below w.heap.size w w') (hg : w.heap.size ≤ g) : Below w.heap.size w (w'.setCell ⟨g, i, none⟩ v) := h.setCell hg _
theorem Below.thru {w w' w'' : World} (hb : Below w'.heap.size w' w'') (h : Below w.heap.size w w') : Below w.heap.size w w'' := bthen h hb
theorem Bx.al {t : Nat} {w : World} {g : Nat} {l : List Value} {o : Obj} (h : Bx t w g l) : Bx t (w.alloc o) g l :=
  h.below ((Below.refl _ _).alloc (Nat.le_refl _) _) (Nat.le_refl _)
theorem Bx.new (t : Nat) (w : World) (l : List Value) : Bx t (w.alloc (.cells l.toArray t)) w.heap.size l := heap_alloc_new w _
theorem Bx.thru {t : Nat} {w w' : World} {g : Nat} {l : List Value} (hb : Below w.heap.size w w') (h : Bx t w g l) : Bx t w' g l := h.below hb (Nat.le_refl _)
theorem Bx.st {t : Nat} {w : World} {g i : Nat} {l : List Value} {v : Value} (h : Bx t w g l) : Bx t (w.setCell ⟨g, i, none⟩ v) g (l.set i v) := by
  unfold Bx at *
  rw [heap_setCell_same w g i _ t _ h]
  simp
theorem Bx.stored3 {t : Nat} {w : World} {g : Nat} {a b c x y z : Value} (h : Bx t w g [a, b, c]) : Bx t (S3 w g x y z) g [x, y, z] := h.st.st.st
/-- the blocks from lo on, below hi, hold what they held -/
def Keeps (lo hi : Nat) (w w' : World) : Prop := ∀ b, lo ≤ b → b < hi → ∀ o, w'.cell? ⟨b, o, none⟩ = w.cell? ⟨b, o, none⟩
theorem Keeps.refl (lo hi : Nat) (w : World) : Keeps lo hi w w := fun _ _ _ _ => rfl
theorem Keeps.thru {lo hi : Nat} {w w' w'' : World} (hb : Below w'.heap.size w' w'') (h : Keeps lo hi w w') (hh : hi ≤ w'.heap.size) : Keeps lo hi w w'' :=
  fun b h1 h2 o => (hb.cell (p := ⟨b, o, none⟩) (Nat.lt_of_lt_of_le h2 hh)).trans (h b h1 h2 o)
theorem Keeps.al {lo hi : Nat} {w w' : World} {o : Obj} (h : Keeps lo hi w w') (hh : hi ≤ w'.heap.size) : Keeps lo hi w (w'.alloc o) :=
  h.thru ((Below.refl _ _).alloc (Nat.le_refl _) _) hh
theorem Keeps.st {lo hi g i : Nat} {w w' : World} {v : Value} (h : Keeps lo hi w w') (hg : g < lo ∨ hi ≤ g) : Keeps lo hi w (w'.setCell ⟨g, i, none⟩ v) := by
  intro b h1 h2 o
  rw [World.cell?_setCell_other]
  · exact h b h1 h2 o
  · intro he
    have : g = b := congrArg Addr.block he
    omega
end Go.Proofs.YtocpmekblkfdiaaGreatDoor
