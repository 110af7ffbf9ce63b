/- The abstract walk, fourteenth part: comparisons, sizes, rows of rationals. No condition. -/
import Derived.Test.YtdojdghhbjjoeaaAm
namespace Go.Proofs.Ytdojdghhbjjoeaa
open Go.RowKit

theorem cmpQ_lt0 (a b : Rat) : (cmpQ a b < 0) = (a < b) := by
  unfold cmpQ
  by_cases h : a < b
  · rw [if_pos h]; simp [h]
  · rw [if_neg h]; split <;> simp [h]
theorem cmpQ_gt0 (a b : Rat) : (0 < cmpQ a b) = (b < a) := by
  unfold cmpQ
  by_cases h : a < b
  · rw [if_pos h]; simp [Rat.not_lt.2 (Rat.le_of_lt h)]
  · rw [if_neg h]; split <;> simp [*]
theorem cmpQ_le0 (a b : Rat) : (cmpQ a b ≤ 0) = (a ≤ b) := by
  have := cmpQ_gt0 a b
  rw [← Int.not_lt, this, Rat.not_lt]
theorem cmpQ_ge0 (a b : Rat) : (0 ≤ cmpQ a b) = (b ≤ a) := by
  have := cmpQ_lt0 a b
  rw [← Int.not_lt, this, Rat.not_lt]
theorem cmpQ_eq0 (a b : Rat) : (cmpQ a b = 0) = (a = b) := propext (cmpQ_zero a b)
theorem cmpI_lt0 (a b : Nat) : (cmpI a b < 0) = (a < b) := propext cmpI_lt_zero
theorem cmpI_eq0 (a b : Nat) : (cmpI a b = 0) = (a = b) := propext cmpI_zero
theorem cmpI_gt0 (a b : Nat) : (0 < cmpI a b) = (b < a) := by
  unfold cmpI
  by_cases h : a < b
  · rw [if_pos h]; simp; omega
  · rw [if_neg h]; split <;> simp [*]
theorem cmpI_le0 (a b : Nat) : (cmpI a b ≤ 0) = (a ≤ b) := by
  have := cmpI_gt0 a b
  rw [← Int.not_lt, this, Nat.not_lt]
theorem cmpI_ge0 (a b : Nat) : (0 ≤ cmpI a b) = (b ≤ a) := by
  have := cmpI_lt0 a b
  rw [← Int.not_lt, this, Nat.not_lt]

theorem cr_s (q : Rat) : (cr q).s = ng q := rfl
theorem cr_n (q : Rat) : (cr q).n = limbs (nm q) := rfl
theorem cr_d (q : Rat) : (cr q).d = limbs q.den := rfl
theorem cr_ok (q : Rat) : (cr q).ok := ⟨fun x hx => limbs_lt _ x hx, fun x hx => limbs_lt _ x hx⟩

attribute [go_sem] cmpQ_lt0 cmpQ_gt0 cmpQ_le0 cmpQ_ge0 cmpQ_eq0 cmpI_lt0 cmpI_gt0 cmpI_le0 cmpI_ge0 cmpI_eq0 cr_q cr_sz val_limbs
attribute [go_sem] AV.one.injEq A1.cel.injEq CV.bool.injEq CV.int.injEq A1.agg.injEq List.cons.injEq CV.lim.injEq AV.tup.injEq ne_eq reduceCtorEq not_false_eq_true Option.some.injEq RV.av.injEq RV.cv.injEq eq_self or_false or_true true_or false_or

/-! sizes -/

theorem rsb_add {p q : Rat} {i j K : Nat} (hi : rs p ≤ i) (hj : rs q ≤ j) (h : i + j + 1 ≤ K) : rs (p + q) ≤ K := by have := rs_add p q; omega
theorem rsb_neg {p : Rat} {K : Nat} (hi : rs p ≤ K) : rs (-p) ≤ K := by rw [rs_neg]; exact hi
theorem rsb_sub {p q : Rat} {i j K : Nat} (hi : rs p ≤ i) (hj : rs q ≤ j) (h : i + j + 1 ≤ K) : rs (p - q) ≤ K := by
  rw [Rat.sub_eq_add_neg]; exact rsb_add hi (rsb_neg hj) h
theorem rsb_mul {p q : Rat} {i j K : Nat} (hi : rs p ≤ i) (hj : rs q ≤ j) (h : i + j ≤ K) : rs (p * q) ≤ K := by have := rs_mul p q; omega
theorem rsb_int {n : Int} {K : Nat} (h1 : -9223372036854775808 ≤ n) (h2 : n ≤ 9223372036854775808) (hK : 2 ≤ K) : rs (n : Rat) ≤ K := by
  refine Nat.le_trans ?_ hK
  unfold rs
  rw [(int_parts n).1, (int_parts n).2.1]
  exact Nat.max_le.2 ⟨limbs_len_le (by omega), by decide⟩
theorem rsb_floor {q : Rat} {i K : Nat} (hi : rs q ≤ i) (h : i + 1 ≤ K) : rs ((q.floor : Int) : Rat) ≤ K := by
  have h1 := rs_nm q
  refine Nat.le_trans ?_ h
  unfold rs
  rw [(fl_parts q).1, (int_parts _).2.1]
  refine Nat.max_le.2 ⟨?_, by have : (limbs 1).length = 1 := rfl; omega⟩
  have h2 : flN q ≤ nm q + 1 := by
    have := Nat.div_le_self (nm q) q.den
    unfold flN
    split <;> omega
  refine Nat.le_trans (limbs_len_mono h2) (Nat.le_trans (limbs_len_le (k := (limbs (nm q)).length + 1) ?_) (by omega))
  have h3 := lt_of_limbs_len (n := nm q) (Nat.le_refl _)
  rw [Nat.pow_succ]
  omega
theorem rr_q (r : RR) : qv r.s (val r.n) (val r.d) = r.q := rfl
attribute [go_sem] rr_q
theorem rsb_div {p q : Rat} {i j K : Nat} (hi : rs p ≤ i) (hj : rs q ≤ j) (h : i + j ≤ K) : rs (p / q) ≤ K := by have := rs_div p q; omega

/-! rows of rationals -/

theorem cellsRat_cells {X : Nat → Nat → Prop} {w : World} {b off : Nat} {l : List CV} {r : RR} (h : cellsRat l = some r) (hp : cellsP X w b off l) : cellsP X w b off (ratCells r) := by
  unfold cellsRat at h
  split at h
  · rename_i s x y
    split at h
    · rename_i n d hx hy
      cases h
      simp only [cellsP] at hp
      obtain ⟨h1, ⟨v2, g2, h2⟩, ⟨v3, g3, h3⟩, _⟩ := hp
      simp only [ratCells, cellsP]
      refine ⟨h1, ⟨v2, g2, ?_⟩, ⟨v3, g3, ?_⟩, trivial⟩
      · simp only [CV.P]; exact CV.lims_P hx h2
      · simp only [CV.P]; exact CV.lims_P hy h3
    · cases h
  · cases h

theorem cellsRat_ok {X : Nat → Nat → Prop} {w : World} {b off : Nat} {r : RR} (hp : cellsP X w b off (ratCells r)) : r.ok := by
  simp only [ratCells, cellsP, CV.P] at hp
  obtain ⟨_, ⟨v2, _, h2⟩, ⟨v3, _, h3⟩, _⟩ := hp
  obtain ⟨_, _, _, _, _, k2, _⟩ := h2
  obtain ⟨_, _, _, _, _, k3, _⟩ := h3
  exact ⟨k2, k3⟩

def rowsRats : List (List CV) → Option (List RR)
  | [] => some []
  | r :: rs => match cellsRat r, rowsRats rs with
    | some x, some xs => some (x :: xs)
    | _, _ => none

theorem rowsRats_map : ∀ (l : List RR), rowsRats (l.map ratCells) = some l
  | [] => rfl
  | r :: l => by simp only [List.map_cons, rowsRats, rowsRats_map l]; rfl

theorem rowsRats_P {X : Nat → Nat → Prop} {w : World} {b t : Nat} : ∀ (rows : List (List CV)) (l : List RR) (off : Nat), rowsRats rows = some l → rowsP X w b off t rows → rowsP X w b off t (l.map ratCells)
  | [], l, off, h, _ => by simp only [rowsRats, Option.some.injEq] at h; subst h; simp only [List.map_nil, rowsP]
  | r :: rows, l, off, h, hp => by
    simp only [rowsRats] at h
    split at h
    · rename_i x xs hx hxs
      cases h
      simp only [rowsP] at hp
      simp only [List.map_cons, rowsP]
      have hl : (ratCells x).length = r.length := by
        unfold cellsRat at hx
        split at hx
        · rfl
        · cases hx
      exact ⟨hl.trans hp.1, cellsRat_cells hx hp.2.1, rowsRats_P rows xs (off + t) hxs hp.2.2⟩
    · cases h

theorem rowsRats_len : ∀ (rows : List (List CV)) (l : List RR), rowsRats rows = some l → rows.length = l.length
  | [], l, h => by simp only [rowsRats, Option.some.injEq] at h; subst h; rfl
  | r :: rows, l, h => by
    simp only [rowsRats] at h
    split at h
    · rename_i x xs hx hxs; cases h; simp [rowsRats_len rows xs hxs]
    · cases h

theorem rowsRats_ok {X : Nat → Nat → Prop} {w : World} {b t : Nat} : ∀ (l : List RR) (off : Nat), rowsP X w b off t (l.map ratCells) → ∀ r ∈ l, r.ok
  | x :: l, off, h, r, hr => by
    simp only [List.map_cons, rowsP] at h
    rcases List.mem_cons.1 hr with rfl | hr
    · exact cellsRat_ok h.2.1
    · exact rowsRats_ok l (off + t) h.2.2 r hr

def ratsV (l : List RR) : AV := .one (.cel (.sl none 3 (l.map ratCells)))
def paRats : AV → Option (List RR)
  | .one (.cel .nil) => some []
  | .one (.cel (.sl _ t rows)) => if (t == 3) = true then rowsRats rows else none
  | _ => none

theorem slP_rats {X : Nat → Nat → Prop} {w : World} {u : Value} {own : Option Nat} {rows : List (List CV)} {l : List RR} (h : rowsRats rows = some l) (hu : (CV.sl own 3 rows).P X w u) : (CV.sl none 3 (l.map ratCells)).P X w u := by
  simp only [CV.P] at hu ⊢
  obtain ⟨ao, cap, h1, h2, h3, h4⟩ := hu
  have hl := rowsRats_len rows l h
  refine ⟨ao, cap, by rw [h1, hl, List.length_map], by rw [List.length_map, ← hl]; exact h2, h3, fun hp => ?_⟩
  obtain ⟨b, off, e, hr⟩ := h4 (by rw [hl]; simpa using hp)
  exact ⟨b, off, e, rowsRats_P rows l off h hr⟩

def aRats : Arg (List RR) where
  pa := paRats
  un := ratsV
  va := fun l => ∀ r ∈ l, r.ok
  ok := by
    intro v x h X w u hu
    unfold paRats at h
    split at h
    · cases h
      have e : u = .slice none 0 0 := hu
      subst e
      show (CV.sl none 3 []).P X w _
      simp only [CV.P]
      exact ⟨none, 0, rfl, by simp, by simp, by simp⟩
    · rename_i own t rows
      split at h
      · rename_i ht
        rw [beq_iff_eq] at ht
        subst ht
        exact slP_rats (own := own) h hu
      · cases h
    · cases h
  st := fun _ => rfl
  vd := fun l X w u hu => by
    have h : (CV.sl none 3 (l.map ratCells)).P X w u := hu
    simp only [CV.P] at h
    obtain ⟨ao, cap, _, _, _, h4⟩ := h
    intro r hr
    have hp : 0 < (l.map ratCells).length := by rw [List.length_map]; exact List.length_pos_of_mem hr
    obtain ⟨b, off, _, h5⟩ := h4 hp
    exact rowsRats_ok l off h5 r hr

theorem val_one : val [1] = 1 := rfl
attribute [go_sem] val_one
theorem toNat_cast (n : Nat) : Int.toNat (n : Int) = n := rfl
attribute [go_sem] toNat_cast Int.natCast_nonneg
attribute [go_sem] aRats ratsV paRats rowsRats rowsRats_map List.length_map

def rr0 : RR := ⟨false, [], []⟩

theorem getD_rats {l : List RR} {i : Nat} (h : i < l.length) : (l.map ratCells).getD i [] = ratCells (l.getD i rr0) := by
  simp [List.getD_eq_getElem?_getD, List.getElem?_eq_getElem h]

theorem getD_ratsI {l : List RR} {i : Nat} (h : i < l.length) : (l.map ratCells).getD (Int.toNat (i : Int)) [] = ratCells (l.getD i rr0) := getD_rats h

theorem getD_mem {α : Type} {l : List α} {i : Nat} {d : α} (h : i < l.length) : l.getD i d ∈ l := by
  simp [List.getD_eq_getElem?_getD, List.getElem?_eq_getElem h]

theorem RR.lens {r : RR} {K : Nat} (h : r.sz ≤ K) : r.n.length ≤ K ∧ r.d.length ≤ K := ⟨Nat.le_trans (Nat.le_max_left _ _) h, Nat.le_trans (Nat.le_max_right _ _) h⟩
theorem RR.sz_le {r : RR} {K : Nat} (h1 : r.n.length ≤ K) (h2 : r.d.length ≤ K) : r.sz ≤ K := Nat.max_le.2 ⟨h1, h2⟩

/-! a law's end -/

def noX : Nat → Nat → Prop := fun _ _ => False

theorem nt_P {w : World} {v : Value} {xs : List Nat} {b : Nat} (h : Nt b w v xs) : (limV xs).P noX w v := by
  have h1 : limG noX w v xs := by
    obtain ⟨ao, cap, h1, h2, h3, h4, h5⟩ := h
    refine ⟨ao, cap, h1, h2, h4.2, h3, fun hp => ?_⟩
    obtain ⟨b, off, hb, hc⟩ := h5 hp
    refine ⟨b, off, hb, fun i hi => ⟨?_, fun hx => hx.elim, hc i hi⟩⟩
    have := hc i hi
    unfold World.cell? at this
    split at this
    · rename_i e; exact (Array.getElem?_eq_some_iff.1 e).1
    · cases this
  simpa only [limV, AV.P, A1.P, CV.P] using h1

theorem rat_P {w : World} {s : Bool} {x y : Value} {A B : List Nat} {b c : Nat} (h : Nt b w x A) (k : Nt c w y B) : (ratV ⟨s, A, B⟩).P noX w (.agg #[.bool s, x, y]) :=
  ⟨[.bool s, x, y], rfl, .cons rfl (.cons (nt_P h) (.cons (nt_P k) .nil))⟩

theorem int_P {w : World} {n : Int} : (intV n).P noX w (.int .i64 n) := rfl
theorem u32_P {w : World} {n : Int} : AV.P noX w (.one (.cel (.int .u32 n))) (.int .u32 n) := rfl

theorem law_run {P : Program} {f : Nat} {d : Den} (h : Sound P f d) {avs : List AV} {vs : List Value} {w : World} (hp : (d avs).1) (hr : (d avs).2 = boolV true) (hv : All2 (fun a v => AV.P noX w a v) avs vs) :
    Calls P f vs.toArray w fun e w' => e = .returned (.bool true) ∧ Below w.heap.size w w' :=
  (h.runs avs noX w vs hp (fun _ _ hx => hx.elim) hv).mono fun e w' ⟨v, he, h1, h2⟩ => by
    rw [hr] at h1
    have : v = .bool true := h1
    exact ⟨by rw [he, this], h2⟩

theorem add_sub_self (a b : Rat) : a + b - b = a := by rw [Rat.sub_eq_add_neg, Rat.add_assoc, Rat.add_neg_cancel, Rat.add_zero]

end Go.Proofs.Ytdojdghhbjjoeaa
