/- Contract of rat.Mul. Conditions: at most 10^11 limbs. -/
import Derived.Test.YtdojdghhbjjoeaaRatBoxes
namespace Go.Proofs.Ytdojdghhbjjoeaa
open Go.RowKit

set_option maxRecDepth 100000 in
set_option maxHeartbeats 1000000 in
theorem ratMul (w : World) (v1 v2 : Value) (a b : Rat) (h1 : RatR 100000000000 w v1 a) (h2 : RatR 100000000000 w v2 b) :
    Calls Try.prog 20 #[v1, v2] w (RetRat (a * b) w) := by
  have N1 := Lib.hid (fun w1 (hb : Below w.heap.size w w1) => ratNorm w1 v1 a ((h1.below hb (Nat.le_refl _)).more (by omega)))
  have N2 := Lib.hid (fun w1 (hb : Below w.heap.size w w1) => ratNorm w1 v2 b ((h2.below hb (Nat.le_refl _)).more (by omega)))
  have z1 := h1.size (by omega)
  have z2 := h2.size (by omega)
  obtain ⟨s1, ao1, n1, c1, ao2, n2, c2, rfl⟩ := h1.open
  obtain ⟨s2, ao3, n3, c3, ao4, n4, c4, rfl⟩ := h2.open
  clear h1 h2
  go_enter Try.func20, Try.ntmps20
  go_upto_region 1 with fail
  obtain ⟨K, rfl, hb0, hB1, hB2, hB3⟩ := boxes3 w (.bool s1) (.slice ao1 n1 c1) (.slice ao2 n2 c2) (.bool s2) (.slice ao3 n3 c3) (.slice ao4 n4 c4)
  generalize (((w.alloc (.cells #[.bool s1, .slice ao1 n1 c1, .slice ao2 n2 c2] 24)).alloc (.cells #[.bool s2, .slice ao3 n3 c3, .slice ao4 n4 c4] 24)).alloc (.cells #[.bool false, .slice none 0 0, .slice none 0 0] 24)) = w0 at *
  go_cut [] (fun wx => Boxes w w.heap.size a b wx)
  case first =>
    obtain ⟨k0, k1, k2, f0, f1, f2, hg1⟩ := hB1.cells
    obtain ⟨l0, l1, l2, g0, g1, g2, hg2⟩ := hB2.cells
    have hg3 := hB3.cells.2.2.2.2.2.2
    go_region_with (first
      | (go_at_call 48; ((with_reducible refine (N1.out w0.drew hb0.drew).mono ?_); rintro e w2 ⟨u, rfl, hC1, hb2⟩; have hb2' : Below w0.heap.size w0 w2 := (Below.refl _ _).drew.trans hb2; have hB1' := hB1.below hb2' hg1; have hB2' := hB2.below hb2' hg2; have hB3' := hB3.below hb2' hg3; have hb02 := bthen hb0 hb2'; obtain ⟨s5, ao5, n5, c5, ao6, n6, c6, rfl⟩ := hC1.open; obtain ⟨m0, m1, m2, e0, e1, e2, hg4⟩ := hB2'.cells))
      | (go_at_call 48; (with_reducible refine (N2.out w2 hb02).mono ?_); rintro e w3 ⟨u, rfl, hC2, hb3⟩; have hB1'' := hB1'.below hb3 (Nat.lt_of_lt_of_le hg1 hb2'.size); have hB2'' := hB2'.below hb3 hg4; have hB3'' := hB3'.below hb3 (Nat.lt_of_lt_of_le hg3 hb2'.size); have hb03 := bthen hb02 hb3; obtain ⟨s7, ao7, n7, c7, ao8, n8, c8, rfl⟩ := hC2.open; obtain ⟨o0, o1, o2, i0, i1, i2, hg5⟩ := hB1''.cells; obtain ⟨p0, p1, p2, q0, q1, q2, hg6⟩ := hB2''.cells))
    all_goals
      go_wp2_with fail
      go_meet
      exact boxes_end hC1 hg3 (Nat.lt_of_lt_of_le hg3 hb2'.size) hb3 hC2 hb03 hB1'' hB2'' hB3''
  case rest =>
    obtain ⟨hb1, ⟨x1, x2, hB1', n1, n2⟩, ⟨y1, y2, hB2', n3, n4⟩, hB3'⟩ := hcut
    have hla := rs_nm a
    have hlb := rs_nm b
    have hda := rs_den a
    have hdb := rs_den b
    have hlm := limbs_len_mul (nm a) (nm b)
    have hdm := limbs_len_mul a.den b.den
    have CM1 := Lib.hid (fun w1 (hb : Below wc.heap.size wc w1) => natMul w1 x1 y1 _ _ _ _ (n1.below hb (Nat.le_refl _)) (n3.below hb (Nat.le_refl _)) (by omega) (by omega))
    have CM2 := Lib.hid (fun w1 (hb : Below wc.heap.size wc w1) => natMul w1 x2 y2 _ _ _ _ (n2.below hb (Nat.le_refl _)) (n4.below hb (Nat.le_refl _)) (by omega) (by omega))
    have CO : Hid (∀ w1 u1 u2 b1 b2, Nt b1 w1 u1 (limbs (nm a * nm b)) → Nt b2 w1 u2 (limbs (a.den * b.den)) → Calls Try.prog 59 #[.bool (!(ng a == ng b)), u1, u2] w1 (RetRat (a * b) w1)) :=
      Lib.hid (fun w1 u1 u2 b1 b2 t1 t2 => by
        have h := ratOf w1 (ng a != ng b) u1 u2 _ _ b1 b2 t1 t2 (by omega) (by omega)
        rw [val_limbs, val_limbs, ← qv_mul, qv_self, qv_self] at h
        exact h)
    simp only [val_limbs] at CM1 CM2
    clear N1 N2 hla hlb hda hdb hlm hdm z1 z2 n1 n2 n3 n4
    generalize nm a * nm b = N at *
    generalize a.den * b.den = D at *
    generalize a * b = q at *
    generalize ng a = sa at *
    generalize ng b = sb at *
    obtain ⟨k0, k1, k2, f0, f1, f2, hg1⟩ := hB1'.cells
    obtain ⟨l0, l1, l2, g0, g1, g2, hg2⟩ := hB2'.cells
    obtain ⟨m0, m1, m2, h0, h1, h2, hg3⟩ := hB3'.cells
    go_wp2_with fail
    generalize hK : w.heap.size = K at *
    go_region_held3 (fun w' => w'.cell? ⟨K, 0, none⟩ = some (.bool sa) ∧ w'.cell? ⟨K, 1, none⟩ = some x1 ∧ w'.cell? ⟨K, 2, none⟩ = some x2 ∧ w'.cell? ⟨K + 1, 0, none⟩ = some (.bool sb) ∧ w'.cell? ⟨K + 1, 1, none⟩ = some y1 ∧ w'.cell? ⟨K + 1, 2, none⟩ = some y2)
      (first | exact ⟨k0, k1, k2, l0, l1, l2⟩ | exact ⟨i0, i1, i2, j0, j1, j2⟩ | exact ⟨o0, o1, o2, p0, p1, p2⟩ | exact ⟨r0, r1, r2, v0, v1, v2⟩ | exact ⟨(cS3 (by omega)).trans r0, (cS3 (by omega)).trans r1, (cS3 (by omega)).trans r2, (cS3 (by omega)).trans v0, (cS3 (by omega)).trans v1, (cS3 (by omega)).trans v2⟩ | go_keep)
      (first
        | ((go_simp; go_at_call 69; (with_reducible refine (CM1.out _ (Below.refl _ _).drew).mono ?_); rintro e w2 ⟨u1, rfl, t1, hb2⟩; have hb2' := bthen (Below.refl wc.heap.size wc).drew hb2; obtain ⟨i0, i1, i2, _, _, _, hg4⟩ := (hB1'.below hb2' hg1).cells; obtain ⟨j0, j1, j2, _, _, _, hg4⟩ := (hB2'.below hb2' hg2).cells))
        | ((go_simp; go_at_call 69; ((with_reducible refine (CM2.out w2 hb2').mono ?_); rintro e w3 ⟨u2, rfl, t2, hb3⟩; have hb3' := bthen hb2' hb3; obtain ⟨o0, o1, o2, _, _, _, hg5⟩ := (hB1'.below hb3' hg1).cells; obtain ⟨p0, p1, p2, _, _, _, hg5⟩ := (hB2'.below hb3' hg2).cells)))
        | ((go_simp; go_at_call 59; (with_reducible refine (CO.out _ _ _ _ _ (t1.below hb3 (Nat.le_refl _)) t2).mono ?_); rintro e w4 ⟨u3, rfl, t3, hb4⟩; have hb4' := bthen hb3' hb4; obtain ⟨r0, r1, r2, _, _, _, hg6⟩ := (hB1'.below hb4' hg1).cells; obtain ⟨v0, v1, v2, _, _, _, hg6⟩ := (hB2'.below hb4' hg2).cells; obtain ⟨h0, h1, h2, d0, d1, d2, hg6⟩ := (hB3'.below hb4' hg3).cells; obtain ⟨s8, ao8, n8, c8, ao9, n9, c9, rfl⟩ := t3.open)))
    clear CM1 CM2 CO i0 i1 i2 j0 j1 j2 o0 o1 o2 p0 p1 p2
    go_wp2_with fail
    obtain ⟨r0, r1, r2, _⟩ := (((hB3'.below hb4' hg3).stored (.bool s8) (.slice ao8 n8 c8) (.slice ao9 n9 c9))).cells
    subst hK
    exact bodyPost_ret (v := .agg #[.bool s8, .slice ao8 n8 c8, .slice ao9 n9 c9]) (by simp [results, Try.results20, go_sem, r0, r1, r2]) rfl
      ⟨_, rfl, (t3.set3 (by have := hb3'.size; omega)).mono (by have := hb3'.size; omega), below_set3 (bthen hb1 hb4') (by omega)⟩

end Go.Proofs.Ytdojdghhbjjoeaa
