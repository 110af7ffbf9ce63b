/- The walk of the law RatFloors. Conditions: rows shorter than 10^14. -/
import Derived.Test.YtdojdghhbjjoeaaLawFrame
namespace Go.Proofs.Ytdojdghhbjjoeaa
open Go.RowKit

theorem floors_math (q : Rat) : cmpQ ((q.floor : Int) : Rat) q ≤ 0 ∧ 0 < cmpQ (((q.floor : Int) : Rat) + ((1 : Int) : Rat)) q := by
  have h1 := Rat.floor_le q
  have h2 := Rat.lt_floor_add_one q
  rw [Rat.intCast_add] at h2
  unfold cmpQ
  constructor
  · by_cases h : ((q.floor : Int) : Rat) < q
    · rw [if_pos h]; decide
    · rw [if_neg h, if_neg (Rat.not_lt.2 h1)]; decide
  · rw [if_neg (Rat.not_lt.2 (Rat.le_of_lt h2)), if_pos h2]; decide

theorem rs_floor {q : Rat} {K : Nat} (h : rs q ≤ K) (hK : K ≤ 50 := by omega) : rs ((q.floor : Int) : Rat) ≤ 100 := by
  unfold rs
  have h1 : (limbs (nm ((q.floor : Int) : Rat))).length ≤ 100 := by
    rw [(fl_parts q).1]
    have h2 : flN q ≤ nm q + 1 := by
      have := Nat.div_le_self (nm q) q.den
      unfold flN
      split <;> omega
    have h3 := limbs_len_mono h2
    have h4 := limbs_len_add (nm q) 1
    have h5 := rs_nm q
    rw [limbs_small (n := 1) (by omega) (by omega)] at h4
    simp at h4
    omega
  have h2 : (limbs ((q.floor : Int) : Rat).den).length ≤ 100 := by
    rw [show ((q.floor : Int) : Rat).den = 1 from rfl, limbs_small (by omega) (by omega)]
    simp
  exact Nat.max_le.2 ⟨h1, h2⟩

set_option maxRecDepth 100000 in
set_option maxHeartbeats 2000000 in
theorem walkFloors (w : World) (s : Bool) (v1 v2 : Value) (xs ys : List Nat) (h1 : Nt 0 w v1 xs) (h2 : Nt 0 w v2 ys) (l1 : xs.length ≤ 100000000000000) (l2 : ys.length ≤ 100000000000000) :
    Calls Try.prog 12 #[.agg #[.bool s, v1, v2]] w fun e w' => e = .returned (.bool true) ∧ Below w.heap.size w w' := by
  have hraw : RatR (max (xs.length) (ys.length)) w (.agg #[.bool s, v1, v2]) (qv s (val xs) (val ys)) := ⟨s, v1, v2, xs, ys, rfl, h1, h2, rfl, Nat.le_max_left _ _, Nat.le_max_right _ _⟩
  generalize qv s (val xs) (val ys) = q at *
  obtain ⟨ao1, c1, rfl, _⟩ := h1.open
  obtain ⟨ao2, c2, rfl, _⟩ := h2.open
  clear h1 h2
  generalize xs.length = n1 at *
  generalize ys.length = n2 at *
  go_enter Try.func12, Try.ntmps12
  go_wp2_with fail
  obtain ⟨K, rfl, hb0, hB1, hB2⟩ := boxesAB w (.bool s) (.slice ao1 n1 c1) (.slice ao2 n2 c2) (.bool s) (.slice ao1 n1 c1) (.slice ao2 n2 c2)
  generalize ((w.alloc (.cells #[.bool s, .slice ao1 n1 c1, .slice ao2 n2 c2] 24)).alloc (.cells #[.bool s, .slice ao1 n1 c1, .slice ao2 n2 c2] 24)) = w0 at *
  have hLen : Lens w0 (w.heap.size + 1) [n1 + n2] := by
    intro i hi
    obtain rfl : i = 0 := by simp at hi; exact hi
    exact ⟨_, _, _, _, _, _, hB2.cells.2.1, hB2.cells.2.2.1, rfl, l1, l2⟩
  obtain ⟨k0, k1, k2, f0, f1, f2, hg1⟩ := hB1.cells
  have hg2 := hB2.cells.2.2.2.2.2.2
  have CB := Lib.hid (lawBig w0 (w.heap.size + 1) 1 [n1 + n2] hLen hg2 (by simp))
  refine CB.out.mono ?_
  rintro e w1 ⟨rfl, hb1⟩
  have hb01 := bthen hb0 hb1
  by_cases hbig : 16 < n1 + n2
  · have hd : decide (16 < ([n1 + n2] : List Nat).sum) = true := decide_eq_true (by simpa using hbig)
    rw [hd]
    go_wp2
    go_ret
    exact ⟨rfl, hb01⟩
  · have hd : decide (16 < ([n1 + n2] : List Nat).sum) = false := decide_eq_false (by simpa using hbig)
    rw [hd]
    have hB1' := hB1.below hb1 hg1
    obtain ⟨i0, i1, i2, _, _, _, hg3⟩ := hB1'.cells
    have hR : RatR 16 w1 (.agg #[.bool s, .slice ao1 n1 c1, .slice ao2 n2 c2]) q := (hraw.below hb01 (Nat.le_refl _)).more (by omega)
    have CF := Lib.hid (ratFloor w1 _ q (hR.more (by omega)))
    clear CB hd k0 k1 k2 f0 f1 f2
    go_wp2_with fail
    refine CF.out.mono ?_
    rintro e w2 ⟨u, rfl, hC, hb2⟩
    have hfd : ((q.floor : Int) : Rat).den = 1 := rfl
    have hfs : rs ((q.floor : Int) : Rat) ≤ 100 := rs_floor (hR.size (by omega))
    obtain ⟨hk1, hk2⟩ := floors_math q
    have hCk := hC
    obtain ⟨x1, x2, rfl, m1, m2⟩ := hC
    rw [hfd] at m2
    obtain ⟨ao3, c3, rfl, _⟩ := m1.open
    rw [show limbs 1 = [1] from limbs_small (by omega) (by omega)] at m2
    obtain ⟨ao4, c4, hx2, _⟩ := m2.open
    have hx2' : x2 = .slice ao4 1 c4 := hx2
    subst hx2'
    clear hx2
    obtain ⟨b4, o4, rfl, _, hb4, hc4⟩ := m2.at_some (k := 0) (by decide)
    have hc40 := hc4 0 (by decide)
    generalize limbs (nm ((q.floor : Int) : Rat)) = A at *
    generalize ng ((q.floor : Int) : Rat) = sf at *
    generalize hf : ((q.floor : Int) : Rat) = f at *
    have hB1'' := hB1'.below hb2 hg3
    have hb02 := bthen hb01 hb2
    go_wp2_with fail
    have hB3 := Box3.new 24 w2 (.bool sf) (.slice ao3 A.length c3) (.slice (some ⟨b4, o4, none⟩) 1 c4)
    have hb3 : Below w2.heap.size w2 (w2.alloc (.cells #[.bool sf, .slice ao3 A.length c3, .slice (some ⟨b4, o4, none⟩) 1 c4] 24)) := (Below.refl _ _).alloc (Nat.le_refl _) _
    generalize w2.alloc (.cells #[.bool sf, .slice ao3 A.length c3, .slice (some ⟨b4, o4, none⟩) 1 c4] 24) = w3 at *
    have hb03 : Below w.heap.size w w3 := bthen hb02 hb3
    have hB1z := hB1''.below hb3 (Nat.lt_of_lt_of_le hg3 hb2.size)
    have RF : RatR 100 w3 (.agg #[.bool sf, .slice ao3 A.length c3, .slice (some ⟨b4, o4, none⟩) 1 c4]) f := (hCk.below hb3 (Nat.le_refl _)).rawK hfs
    have RQ : RatR 16 w3 (.agg #[.bool s, .slice ao1 n1 c1, .slice ao2 n2 c2]) q := (hR.below hb2 (Nat.le_refl _)).below hb3 (Nat.le_refl _)
    have CC1 := Lib.hid (fun w' (hb : Below w3.heap.size w3 w') => ratCmp w' _ _ f q ((RF.below hb (Nat.le_refl _)).more (by omega)) ((RQ.below hb (Nat.le_refl _)).more (by omega)))
    have CI := Lib.hid (fun w' => ratInt w' 1 (by omega) (by omega))
    have CA := Lib.hid (fun w' u b (hb : Below w3.heap.size w3 w') (hu : RatC b w' u ((1 : Int) : Rat)) => ratAdd w' _ u f ((1 : Int) : Rat) ((RF.below hb (Nat.le_refl _)).more (by omega)) (hu.rawK (by decide +kernel)))
    have hsum : rs (f + ((1 : Int) : Rat)) ≤ 100000000000 := by
      have h1 := rs_add f ((1 : Int) : Rat)
      have h2 : rs ((1 : Int) : Rat) ≤ 1 := by decide +kernel
      omega
    have CC2 := Lib.hid (fun w' u b (hb : Below w3.heap.size w3 w') (hu : RatC b w' u (f + ((1 : Int) : Rat))) => ratCmp w' u _ (f + ((1 : Int) : Rat)) q (hu.rawK hsum) ((RQ.below hb (Nat.le_refl _)).more (by omega)))
    have CK := Lib.hid lawKnown
    generalize cmpQ f q = e1 at *
    generalize cmpQ (f + ((1 : Int) : Rat)) q = e2 at *
    have hL4 : w3.cell? ⟨b4, o4, none⟩ = some (.int .u32 1) := by rw [hb3.cell hb4]; exact hc40
    have hg4 : w.heap.size < w3.heap.size := Nat.lt_of_lt_of_le (Nat.lt_of_lt_of_le hg3 hb2.size) hb3.size
    have hg5 := hB3.cells.2.2.2.2.2.2
    have hb4' : b4 < w3.heap.size := Nat.lt_of_lt_of_le hb4 hb3.size
    generalize hT : w2.heap.size = T at *
    have hS : Hid (∀ w', Below w3.heap.size w3 w' → w'.cell? ⟨w.heap.size, 0, none⟩ = some (.bool s) ∧ w'.cell? ⟨w.heap.size, 1, none⟩ = some (.slice ao1 n1 c1) ∧ w'.cell? ⟨w.heap.size, 2, none⟩ = some (.slice ao2 n2 c2) ∧ w'.cell? ⟨T, 0, none⟩ = some (.bool sf) ∧ w'.cell? ⟨T, 1, none⟩ = some (.slice ao3 A.length c3) ∧ w'.cell? ⟨T, 2, none⟩ = some (.slice (some ⟨b4, o4, none⟩) 1 c4) ∧ w'.cell? ⟨b4, o4, none⟩ = some (.int .u32 1)) := Lib.hid (fun w' hb => by
      obtain ⟨a0, a1, a2, _⟩ := (hB1z.below hb hg4).cells
      obtain ⟨a3, a4, a5, _⟩ := (hB3.below hb hg5).cells
      exact ⟨a0, a1, a2, a3, a4, a5, by rw [hb.cell hb4']; exact hL4⟩)
    clear CF hCk m1 m2 hc4 hc40 hL4 hB1 hB2 hB1' hB1'' hB1z hB3 RF RQ hR hraw hLen i0 i1 i2 hsum hfs hfd l1 l2 hbig
    have b00 : Below w3.heap.size w3 w3.drew := (Below.refl _ _).drew
    go_region_held3 (fun w' => w'.cell? ⟨w.heap.size, 0, none⟩ = some (.bool s) ∧ w'.cell? ⟨w.heap.size, 1, none⟩ = some (.slice ao1 n1 c1) ∧ w'.cell? ⟨w.heap.size, 2, none⟩ = some (.slice ao2 n2 c2) ∧ w'.cell? ⟨T, 0, none⟩ = some (.bool sf) ∧ w'.cell? ⟨T, 1, none⟩ = some (.slice ao3 A.length c3) ∧ w'.cell? ⟨T, 2, none⟩ = some (.slice (some ⟨b4, o4, none⟩) 1 c4) ∧ w'.cell? ⟨b4, o4, none⟩ = some (.int .u32 1)) (first | exact hS.out _ b00 | exact hS.out _ b04 | exact hS.out _ b05 | exact hS.out _ b06 | exact hS.out _ b07 | exact hS.out _ b08)
      (first
        | ((go_simp; go_at_call 28; (with_reducible refine (CC1.out _ b00).mono ?_); rintro e w4 ⟨rfl, hb4⟩; have b04 := bthen b00 hb4))
        | ((go_simp; go_at_call 27; (with_reducible refine (CI.out w4).mono ?_); rintro e w5 ⟨u5, rfl, t5, hb5⟩; have b05 := bthen b04 hb5))
        | ((go_simp; go_at_call 19; (with_reducible refine (CA.out w5 _ _ b05 t5).mono ?_); rintro e w6 ⟨u6, rfl, t6, hb6⟩; have b06 := bthen b05 hb6))
        | ((go_simp; go_at_call 28; (with_reducible refine (CC2.out w6 _ _ b06 t6).mono ?_); rintro e w7 ⟨rfl, hb7⟩; have b07 := bthen b06 hb7))
        | ((go_simp; go_at_call 21; (with_reducible refine (CK.out w7).mono ?_); rintro e w8 ⟨rfl, hb8⟩; have b08 := bthen b07 hb8)))
    go_wp2
    go_ret
    exact ⟨by simp, bthen hb03 b08⟩

end Go.Proofs.Ytdojdghhbjjoeaa
