/- Contract of vernierlaw2.one. Conditions: at most 8*10^12 limbs. -/
import Derived.Test.YtdojdghhbjjoeaaRatSame
import Derived.Test.YtdojdghhbjjoeaaRatDiv
import Derived.Test.YtdojdghhbjjoeaaRatFloor
namespace Go.Proofs.Ytdojdghhbjjoeaa
open Go.RowKit

set_option maxRecDepth 100000 in
set_option maxHeartbeats 1000000 in
theorem lawOneRaw (w : World) (sa sb : Bool) (x1 x2 y1 y2 : Value) (A B C D : List Nat) (b1 b2 b3 b4 : Nat)
    (h1 : Nt b1 w x1 A) (h2 : Nt b2 w x2 B) (h3 : Nt b3 w y1 C) (h4 : Nt b4 w y2 D) (hL1 : A.length ≤ 8000000000000) (hL2 : B.length ≤ 8000000000000) :
    Calls Try.prog 18 #[.agg #[.bool sa, x1, x2], .agg #[.bool sb, y1, y2]] w
      fun e w' => e = .returned (.bool (sa == sb && (decide (A = C) && decide (B = D)))) ∧ Below w.heap.size w w' := by
  have CE1 := Lib.hid (fun w1 (hb : Below w.heap.size w w1) => lawLimbs w1 x1 y1 _ _ _ _ (h1.below hb (Nat.le_refl _)) (h3.below hb (Nat.le_refl _)) hL1)
  have CE2 := Lib.hid (fun w1 (hb : Below w.heap.size w w1) => lawLimbs w1 x2 y2 _ _ _ _ (h2.below hb (Nat.le_refl _)) (h4.below hb (Nat.le_refl _)) hL2)
  obtain ⟨ao1, c1, rfl, _⟩ := h1.open
  obtain ⟨ao2, c2, rfl, _⟩ := h2.open
  obtain ⟨ao3, c3, rfl, _⟩ := h3.open
  obtain ⟨ao4, c4, rfl, _⟩ := h4.open
  clear h1 h2 h3 h4
  generalize decide (A = C) = p at *
  generalize decide (B = D) = q at *
  generalize A.length = n1 at *
  generalize B.length = n2 at *
  generalize C.length = n3 at *
  generalize D.length = n4 at *
  cases hs : (sa == sb)
  · go_enter Try.func18, Try.ntmps18
    go_upto_region 1 with fail
    obtain ⟨K, rfl, hb0, hB1, hB2⟩ := boxesAB w (.bool sa) (.slice ao1 n1 c1) (.slice ao2 n2 c2) (.bool sb) (.slice ao3 n3 c3) (.slice ao4 n4 c4)
    generalize ((w.alloc (.cells #[.bool sa, .slice ao1 n1 c1, .slice ao2 n2 c2] 24)).alloc (.cells #[.bool sb, .slice ao3 n3 c3, .slice ao4 n4 c4] 24)) = w0 at *
    obtain ⟨k0, k1, k2, f0, f1, f2, hg1⟩ := hB1.cells
    obtain ⟨l0, l1, l2, g0, g1, g2, hg2⟩ := hB2.cells
    go_wp2
    exact bodyPost_ret (v := .bool false) (by simp [results, Try.results18, go_sem]) rfl ⟨rfl, hb0⟩
  · cases p
    · go_enter Try.func18, Try.ntmps18
      go_upto_region 1 with fail
      obtain ⟨K, rfl, hb0, hB1, hB2⟩ := boxesAB w (.bool sa) (.slice ao1 n1 c1) (.slice ao2 n2 c2) (.bool sb) (.slice ao3 n3 c3) (.slice ao4 n4 c4)
      generalize ((w.alloc (.cells #[.bool sa, .slice ao1 n1 c1, .slice ao2 n2 c2] 24)).alloc (.cells #[.bool sb, .slice ao3 n3 c3, .slice ao4 n4 c4] 24)) = w0 at *
      obtain ⟨k0, k1, k2, f0, f1, f2, hg1⟩ := hB1.cells
      obtain ⟨l0, l1, l2, g0, g1, g2, hg2⟩ := hB2.cells
      go_wp2_with fail
      refine (CE1.out w0 hb0).mono ?_
      rintro e w2 ⟨rfl, hb2⟩
      go_wp2
      exact bodyPost_ret (v := .bool false) (by simp [results, Try.results18, go_sem]) rfl ⟨rfl, bthen hb0 hb2⟩
    · go_enter Try.func18, Try.ntmps18
      go_upto_region 1 with fail
      obtain ⟨K, rfl, hb0, hB1, hB2⟩ := boxesAB w (.bool sa) (.slice ao1 n1 c1) (.slice ao2 n2 c2) (.bool sb) (.slice ao3 n3 c3) (.slice ao4 n4 c4)
      generalize ((w.alloc (.cells #[.bool sa, .slice ao1 n1 c1, .slice ao2 n2 c2] 24)).alloc (.cells #[.bool sb, .slice ao3 n3 c3, .slice ao4 n4 c4] 24)) = w0 at *
      obtain ⟨k0, k1, k2, f0, f1, f2, hg1⟩ := hB1.cells
      obtain ⟨l0, l1, l2, g0, g1, g2, hg2⟩ := hB2.cells
      go_wp2_with fail
      refine (CE1.out w0 hb0).mono ?_
      rintro e w2 ⟨rfl, hb2⟩
      obtain ⟨i0, i1, i2, _, _, _, hg3⟩ := (hB1.below hb2 hg1).cells
      obtain ⟨j0, j1, j2, _, _, _, hg4⟩ := (hB2.below hb2 hg2).cells
      have hb02 := bthen hb0 hb2
      go_wp2_with fail
      refine (CE2.out w2 hb02).mono ?_
      rintro e w3 ⟨rfl, hb3⟩
      go_wp2
      exact bodyPost_ret (v := .bool q) (by simp [results, Try.results18, go_sem]) rfl ⟨by simp, bthen hb02 hb3⟩

/-- two normal rationals are one -/
theorem lawOne (w : World) (v1 v2 : Value) (a b : Rat) (b1 b2 : Nat) (h1 : RatC b1 w v1 a) (h2 : RatC b2 w v2 b) (hL : rs a ≤ 8000000000000) :
    Calls Try.prog 18 #[v1, v2] w fun e w' => e = .returned (.bool (decide (a = b))) ∧ Below w.heap.size w w' := by
  obtain ⟨x1, x2, rfl, n1, n2⟩ := h1
  obtain ⟨y1, y2, rfl, n3, n4⟩ := h2
  have h := lawOneRaw w (ng a) (ng b) x1 x2 y1 y2 _ _ _ _ _ _ _ _ n1 n2 n3 n4 (Nat.le_trans (rs_nm a) hL) (Nat.le_trans (rs_den a) hL)
  have e : (ng a == ng b && (decide (limbs (nm a) = limbs (nm b)) && decide (limbs a.den = limbs b.den))) = decide (a = b) := by
    rw [Bool.eq_iff_iff]
    simp only [Bool.and_eq_true, beq_iff_eq, decide_eq_true_eq, limbs_inj]
    exact ⟨fun h => rat_parts h.1 h.2.1 h.2.2, fun h => by subst h; exact ⟨rfl, rfl, rfl⟩⟩
  rw [e] at h
  exact h

end Go.Proofs.Ytdojdghhbjjoeaa
