/- Contract of rat.Mul. Conditions: at most 10^11 limbs. Contract of rat.Add. Conditions: at most 10^11 limbs. Contract of rat.signed. No condition. Contract of rat.Neg. Conditions: at most 10^12 limbs. Contracts of rat.Sub, rat.Zero, rat.Cmp. Conditions: at most 10^11 limbs. -/
import Derived.Test.YtocpmekblkfdiaaGreatDoorGD
namespace Go.Proofs.YtocpmekblkfdiaaGreatDoor
open Go.RowKit
set_option maxRecDepth 100000 in
set_option maxHeartbeats 1000000 in
theorem ratMul (w : World) (v1 v2 : Value) (a b : Rat) (h1 : RatR 100000000000 w v1 a) (h2 : RatR 100000000000 w v2 b) :
    Calls Tryz.prog 49 #[v1, v2] w (RetRat (a * b) w) := by
  have N1 := Lib.hid (fun w1 (hb : Below w.heap.size w w1) => ratNorm w1 v1 a ((h1.below hb (Nat.le_refl _)).more (by omega)))
  have N2 := Lib.hid (fun w1 (hb : Below w.heap.size w w1) => ratNorm w1 v2 b ((h2.below hb (Nat.le_refl _)).more (by omega)))
  have z1 := h1.size (by omega)
  have z2 := h2.size (by omega)
  obtain ⟨s1, ao1, n1, c1, ao2, n2, c2, rfl⟩ := h1.open
  obtain ⟨s2, ao3, n3, c3, ao4, n4, c4, rfl⟩ := h2.open
  clear h1 h2
  go_enter Tryz.func49, Tryz.ntmps49
  go_upto_region 1 with fail
  obtain ⟨K, rfl, hb0, hB1, hB2, hB3⟩ := boxes3 w (.bool s1) (.slice ao1 n1 c1) (.slice ao2 n2 c2) (.bool s2) (.slice ao3 n3 c3) (.slice ao4 n4 c4)
  generalize (((w.alloc (.cells #[.bool s1, .slice ao1 n1 c1, .slice ao2 n2 c2] 24)).alloc (.cells #[.bool s2, .slice ao3 n3 c3, .slice ao4 n4 c4] 24)).alloc (.cells #[.bool false, .slice none 0 0, .slice none 0 0] 24)) = w0 at *
  go_cut [] (fun wx => Boxes w w.heap.size a b wx)
  case first =>
    obtain ⟨k0, k1, k2, f0, f1, f2, hg1⟩ := hB1.cells
    obtain ⟨l0, l1, l2, g0, g1, g2, hg2⟩ := hB2.cells
    have hg3 := hB3.cells.2.2.2.2.2.2
    go_region_with (first
      | (go_at_call 66; ((with_reducible refine (N1.out w0.drew hb0.drew).mono ?_); rintro e w2 ⟨u, rfl, hC1, hb2⟩; have hb2' : Below w0.heap.size w0 w2 := (Below.refl _ _).drew.trans hb2; have hB1' := hB1.below hb2' hg1; have hB2' := hB2.below hb2' hg2; have hB3' := hB3.below hb2' hg3; have hb02 := bthen hb0 hb2'; obtain ⟨s5, ao5, n5, c5, ao6, n6, c6, rfl⟩ := hC1.open; obtain ⟨m0, m1, m2, e0, e1, e2, hg4⟩ := hB2'.cells))
      | (go_at_call 66; (with_reducible refine (N2.out w2 hb02).mono ?_); rintro e w3 ⟨u, rfl, hC2, hb3⟩; have hB1'' := hB1'.below hb3 (Nat.lt_of_lt_of_le hg1 hb2'.size); have hB2'' := hB2'.below hb3 hg4; have hB3'' := hB3'.below hb3 (Nat.lt_of_lt_of_le hg3 hb2'.size); have hb03 := bthen hb02 hb3; obtain ⟨s7, ao7, n7, c7, ao8, n8, c8, rfl⟩ := hC2.open; obtain ⟨o0, o1, o2, i0, i1, i2, hg5⟩ := hB1''.cells; obtain ⟨p0, p1, p2, q0, q1, q2, hg6⟩ := hB2''.cells))
    all_goals
      go_wp2_with fail
      go_meet
      exact boxes_end hC1 hg3 (Nat.lt_of_lt_of_le hg3 hb2'.size) hb3 hC2 hb03 hB1'' hB2'' hB3''
  case rest =>
    obtain ⟨hb1, ⟨x1, x2, hB1', n1, n2⟩, ⟨y1, y2, hB2', n3, n4⟩, hB3'⟩ := hcut
    have hla := rs_nm a
    have hlb := rs_nm b
    have hda := rs_den a
    have hdb := rs_den b
    have hlm := limbs_len_mul (nm a) (nm b)
    have hdm := limbs_len_mul a.den b.den
    have CM1 := Lib.hid (fun w1 (hb : Below wc.heap.size wc w1) => natMul w1 x1 y1 _ _ _ _ (n1.below hb (Nat.le_refl _)) (n3.below hb (Nat.le_refl _)) (by omega) (by omega))
    have CM2 := Lib.hid (fun w1 (hb : Below wc.heap.size wc w1) => natMul w1 x2 y2 _ _ _ _ (n2.below hb (Nat.le_refl _)) (n4.below hb (Nat.le_refl _)) (by omega) (by omega))
    have CO : Hid (∀ w1 u1 u2 b1 b2, Nt b1 w1 u1 (limbs (nm a * nm b)) → Nt b2 w1 u2 (limbs (a.den * b.den)) → Calls Tryz.prog 63 #[.bool (!(ng a == ng b)), u1, u2] w1 (RetRat (a * b) w1)) :=
      Lib.hid (fun w1 u1 u2 b1 b2 t1 t2 => by
        have h := ratOf w1 (ng a != ng b) u1 u2 _ _ b1 b2 t1 t2 (by omega) (by omega)
        rw [val_limbs, val_limbs, ← qv_mul, qv_self, qv_self] at h
        exact h)
    simp only [val_limbs] at CM1 CM2
    clear N1 N2 hla hlb hda hdb hlm hdm z1 z2 n1 n2 n3 n4
    generalize nm a * nm b = N at *
    generalize a.den * b.den = D at *
    generalize a * b = q at *
    generalize ng a = sa at *
    generalize ng b = sb at *
    obtain ⟨k0, k1, k2, f0, f1, f2, hg1⟩ := hB1'.cells
    obtain ⟨l0, l1, l2, g0, g1, g2, hg2⟩ := hB2'.cells
    obtain ⟨m0, m1, m2, h0, h1, h2, hg3⟩ := hB3'.cells
    go_wp2_with fail
    generalize hK : w.heap.size = K at *
    go_region_held3 (fun w' => w'.cell? ⟨K, 0, none⟩ = some (.bool sa) ∧ w'.cell? ⟨K, 1, none⟩ = some x1 ∧ w'.cell? ⟨K, 2, none⟩ = some x2 ∧ w'.cell? ⟨K + 1, 0, none⟩ = some (.bool sb) ∧ w'.cell? ⟨K + 1, 1, none⟩ = some y1 ∧ w'.cell? ⟨K + 1, 2, none⟩ = some y2)
      (first | exact ⟨k0, k1, k2, l0, l1, l2⟩ | exact ⟨i0, i1, i2, j0, j1, j2⟩ | exact ⟨o0, o1, o2, p0, p1, p2⟩ | exact ⟨r0, r1, r2, v0, v1, v2⟩ | exact ⟨(cS3 (by omega)).trans r0, (cS3 (by omega)).trans r1, (cS3 (by omega)).trans r2, (cS3 (by omega)).trans v0, (cS3 (by omega)).trans v1, (cS3 (by omega)).trans v2⟩ | go_keep)
      (first
        | ((go_simp; go_at_call 67; (with_reducible refine (CM1.out _ (Below.refl _ _).drew).mono ?_); rintro e w2 ⟨u1, rfl, t1, hb2⟩; have hb2' := bthen (Below.refl wc.heap.size wc).drew hb2; obtain ⟨i0, i1, i2, _, _, _, hg4⟩ := (hB1'.below hb2' hg1).cells; obtain ⟨j0, j1, j2, _, _, _, hg4⟩ := (hB2'.below hb2' hg2).cells))
        | ((go_simp; go_at_call 67; ((with_reducible refine (CM2.out w2 hb2').mono ?_); rintro e w3 ⟨u2, rfl, t2, hb3⟩; have hb3' := bthen hb2' hb3; obtain ⟨o0, o1, o2, _, _, _, hg5⟩ := (hB1'.below hb3' hg1).cells; obtain ⟨p0, p1, p2, _, _, _, hg5⟩ := (hB2'.below hb3' hg2).cells)))
        | ((go_simp; go_at_call 63; (with_reducible refine (CO.out _ _ _ _ _ (t1.below hb3 (Nat.le_refl _)) t2).mono ?_); rintro e w4 ⟨u3, rfl, t3, hb4⟩; have hb4' := bthen hb3' hb4; obtain ⟨r0, r1, r2, _, _, _, hg6⟩ := (hB1'.below hb4' hg1).cells; obtain ⟨v0, v1, v2, _, _, _, hg6⟩ := (hB2'.below hb4' hg2).cells; obtain ⟨h0, h1, h2, d0, d1, d2, hg6⟩ := (hB3'.below hb4' hg3).cells; obtain ⟨s8, ao8, n8, c8, ao9, n9, c9, rfl⟩ := t3.open)))
    clear CM1 CM2 CO i0 i1 i2 j0 j1 j2 o0 o1 o2 p0 p1 p2
    go_wp2_with fail
    obtain ⟨r0, r1, r2, _⟩ := (((hB3'.below hb4' hg3).stored (.bool s8) (.slice ao8 n8 c8) (.slice ao9 n9 c9))).cells
    subst hK
    exact bodyPost_ret (v := .agg #[.bool s8, .slice ao8 n8 c8, .slice ao9 n9 c9]) (by simp [results, Tryz.results49, go_sem, r0, r1, r2]) rfl
      ⟨_, rfl, (t3.set3 (by have := hb3'.size; omega)).mono (by have := hb3'.size; omega), below_set3 (bthen hb1 hb4') (by omega)⟩
end Go.Proofs.YtocpmekblkfdiaaGreatDoor
namespace Go.Proofs.YtocpmekblkfdiaaGreatDoor
open Go.RowKit
theorem add_same (a b : Rat) (h : ng a = ng b) : a + b = qv (ng a) (nm a * b.den + nm b * a.den) (a.den * b.den) := by
  rw [← qv_add _ _ _ _ _ a.den_nz b.den_nz]
  conv => lhs; rw [← qv_self a, ← qv_self b, ← h]
theorem add_left (a b : Rat) (h : ng a ≠ ng b) (hle : nm b * a.den ≤ nm a * b.den) : a + b = qv (ng a) (nm a * b.den - nm b * a.den) (a.den * b.den) := by
  have := qv_sub (ng a) (ng b) (nm a) a.den (nm b) b.den h a.den_nz b.den_nz
  rw [if_pos hle, qv_self, qv_self] at this
  exact this
theorem add_right (a b : Rat) (h : ng a ≠ ng b) (hlt : ¬ nm b * a.den ≤ nm a * b.den) : a + b = qv (ng b) (nm b * a.den - nm a * b.den) (a.den * b.den) := by
  have := qv_sub (ng a) (ng b) (nm a) a.den (nm b) b.den h a.den_nz b.den_nz
  rw [if_neg hlt, qv_self, qv_self] at this
  exact this
set_option maxRecDepth 100000 in
set_option maxHeartbeats 1000000 in
theorem ratAdd (w : World) (v1 v2 : Value) (a b : Rat) (h1 : RatR 100000000000 w v1 a) (h2 : RatR 100000000000 w v2 b) :
    Calls Tryz.prog 26 #[v1, v2] w (RetRat (a + b) w) := by
  have N1 := Lib.hid (fun w1 (hb : Below w.heap.size w w1) => ratNorm w1 v1 a ((h1.below hb (Nat.le_refl _)).more (by omega)))
  have N2 := Lib.hid (fun w1 (hb : Below w.heap.size w w1) => ratNorm w1 v2 b ((h2.below hb (Nat.le_refl _)).more (by omega)))
  have z1 := h1.size (by omega)
  have z2 := h2.size (by omega)
  obtain ⟨s1, ao1, n1, c1, ao2, n2, c2, rfl⟩ := h1.open
  obtain ⟨s2, ao3, n3, c3, ao4, n4, c4, rfl⟩ := h2.open
  clear h1 h2
  go_enter Tryz.func26, Tryz.ntmps26
  go_upto_region 1 with fail
  obtain ⟨K, rfl, hb0, hB1, hB2, hB3⟩ := boxes3 w (.bool s1) (.slice ao1 n1 c1) (.slice ao2 n2 c2) (.bool s2) (.slice ao3 n3 c3) (.slice ao4 n4 c4)
  generalize (((w.alloc (.cells #[.bool s1, .slice ao1 n1 c1, .slice ao2 n2 c2] 24)).alloc (.cells #[.bool s2, .slice ao3 n3 c3, .slice ao4 n4 c4] 24)).alloc (.cells #[.bool false, .slice none 0 0, .slice none 0 0] 24)) = w0 at *
  go_cut [] (fun wx => Boxes w w.heap.size a b wx)
  case first =>
    obtain ⟨k0, k1, k2, f0, f1, f2, hg1⟩ := hB1.cells
    obtain ⟨l0, l1, l2, g0, g1, g2, hg2⟩ := hB2.cells
    have hg3 := hB3.cells.2.2.2.2.2.2
    go_region_with (first
      | (go_at_call 66; ((with_reducible refine (N1.out w0.drew hb0.drew).mono ?_); rintro e w2 ⟨u, rfl, hC1, hb2⟩; have hb2' : Below w0.heap.size w0 w2 := (Below.refl _ _).drew.trans hb2; have hB1' := hB1.below hb2' hg1; have hB2' := hB2.below hb2' hg2; have hB3' := hB3.below hb2' hg3; have hb02 := bthen hb0 hb2'; obtain ⟨s5, ao5, n5, c5, ao6, n6, c6, rfl⟩ := hC1.open; obtain ⟨m0, m1, m2, e0, e1, e2, hg4⟩ := hB2'.cells))
      | (go_at_call 66; (with_reducible refine (N2.out w2 hb02).mono ?_); rintro e w3 ⟨u, rfl, hC2, hb3⟩; have hB1'' := hB1'.below hb3 (Nat.lt_of_lt_of_le hg1 hb2'.size); have hB2'' := hB2'.below hb3 hg4; have hB3'' := hB3'.below hb3 (Nat.lt_of_lt_of_le hg3 hb2'.size); have hb03 := bthen hb02 hb3; obtain ⟨s7, ao7, n7, c7, ao8, n8, c8, rfl⟩ := hC2.open; obtain ⟨o0, o1, o2, i0, i1, i2, hg5⟩ := hB1''.cells; obtain ⟨p0, p1, p2, q0, q1, q2, hg6⟩ := hB2''.cells))
    all_goals
      go_wp2_with fail
      go_meet
      exact boxes_end hC1 hg3 (Nat.lt_of_lt_of_le hg3 hb2'.size) hb3 hC2 hb03 hB1'' hB2'' hB3''
  case rest =>
    obtain ⟨hb1, ⟨x1, x2, hB1', n1, n2⟩, ⟨y1, y2, hB2', n3, n4⟩, hB3'⟩ := hcut
    have hla := rs_nm a
    have hlb := rs_nm b
    have hda := rs_den a
    have hdb := rs_den b
    have hlm := limbs_len_mul (nm a) b.den
    have hlm2 := limbs_len_mul (nm b) a.den
    have hdm := limbs_len_mul a.den b.den
    have CM1 := Lib.hid (fun w1 (hb : Below wc.heap.size wc w1) => natMul w1 x1 y2 _ _ _ _ (n1.below hb (Nat.le_refl _)) (n4.below hb (Nat.le_refl _)) (by omega) (by omega))
    have CM2 := Lib.hid (fun w1 (hb : Below wc.heap.size wc w1) => natMul w1 y1 x2 _ _ _ _ (n3.below hb (Nat.le_refl _)) (n2.below hb (Nat.le_refl _)) (by omega) (by omega))
    have CM3 := Lib.hid (fun w1 (hb : Below wc.heap.size wc w1) => natMul w1 x2 y2 _ _ _ _ (n2.below hb (Nat.le_refl _)) (n4.below hb (Nat.le_refl _)) (by omega) (by omega))
    simp only [val_limbs] at CM1 CM2 CM3
    have HA := Lib.hid (add_same a b)
    have HL := Lib.hid (add_left a b)
    have HR := Lib.hid (add_right a b)
    have L1 : (limbs (nm a * b.den)).length ≤ 200000000000 := by omega
    have L2 : (limbs (nm b * a.den)).length ≤ 200000000000 := by omega
    have L3 : (limbs (a.den * b.den)).length ≤ 200000000000 := by omega
    clear N1 N2 hla hlb hda hdb hlm hlm2 hdm z1 z2 n1 n2 n3 n4
    generalize nm a * b.den = N at *
    generalize nm b * a.den = M at *
    generalize a.den * b.den = D at *
    generalize a + b = q at *
    generalize ng a = sa at *
    generalize ng b = sb at *
    obtain ⟨k0, k1, k2, f0, f1, f2, hg1⟩ := hB1'.cells
    obtain ⟨l0, l1, l2, g0, g1, g2, hg2⟩ := hB2'.cells
    obtain ⟨m0, m1, m2, h0, h1, h2, hg3⟩ := hB3'.cells
    go_wp2_with fail
    generalize hK : w.heap.size = K at *
    go_region_held3 (fun w' => w'.cell? ⟨K, 0, none⟩ = some (.bool sa) ∧ w'.cell? ⟨K, 1, none⟩ = some x1 ∧ w'.cell? ⟨K, 2, none⟩ = some x2 ∧ w'.cell? ⟨K + 1, 0, none⟩ = some (.bool sb) ∧ w'.cell? ⟨K + 1, 1, none⟩ = some y1 ∧ w'.cell? ⟨K + 1, 2, none⟩ = some y2)
      (first | exact ⟨k0, k1, k2, l0, l1, l2⟩ | exact ⟨i0, i1, i2, j0, j1, j2⟩ | exact ⟨o0, o1, o2, p0, p1, p2⟩ | exact ⟨r0, r1, r2, v0, v1, v2⟩ | go_keep)
      (first
        | ((go_simp; go_at_call 67; (with_reducible refine (CM1.out _ (Below.refl _ _).drew).mono ?_); rintro e w2 ⟨u1, rfl, t1, hb2⟩; have hb2' := bthen (Below.refl wc.heap.size wc).drew hb2; obtain ⟨i0, i1, i2, _, _, _, hg4⟩ := (hB1'.below hb2' hg1).cells; obtain ⟨j0, j1, j2, _, _, _, hg4⟩ := (hB2'.below hb2' hg2).cells))
        | ((go_simp; go_at_call 67; (with_reducible refine (CM2.out w2 hb2').mono ?_); rintro e w3 ⟨u2, rfl, t2, hb3⟩; have hb3' := bthen hb2' hb3; obtain ⟨o0, o1, o2, _, _, _, hg5⟩ := (hB1'.below hb3' hg1).cells; obtain ⟨p0, p1, p2, _, _, _, hg5⟩ := (hB2'.below hb3' hg2).cells))
        | ((go_simp; go_at_call 67; (with_reducible refine (CM3.out w3 hb3').mono ?_); rintro e w4 ⟨u3, rfl, t3, hb4⟩; have hb4' := bthen hb3' hb4; obtain ⟨r0, r1, r2, _, _, _, hg6⟩ := (hB1'.below hb4' hg1).cells; obtain ⟨v0, v1, v2, _, _, _, hg6⟩ := (hB2'.below hb4' hg2).cells)))
    clear CM1 CM2 CM3 i0 i1 i2 j0 j1 j2 o0 o1 o2 p0 p1 p2
    have hB1n := hB1'.below hb4' hg1
    have hB2n := hB2'.below hb4' hg2
    have hB3n := hB3'.below hb4' hg3
    have hg6' := hB1n.cells.2.2.2.2.2.2
    have T1 : Nt 0 w4 u1 (limbs N) := ((t1.below hb3 (Nat.le_refl _)).below hb4 (Nat.le_refl _)).mono (Nat.zero_le _)
    have T2 : Nt 0 w4 u2 (limbs M) := (t2.below hb4 (Nat.le_refl _)).mono (Nat.zero_le _)
    have T3 : Nt 0 w4 u3 (limbs D) := t3.mono (Nat.zero_le _)
    have hbA : Below K w w4 := by rw [← hK]; exact bthen (by rw [hK]; exact hb1) hb4'
    have hW : K + 1 + 1 < w4.heap.size := hB3n.cells.2.2.2.2.2.2
    clear t1 t2 t3 hb2 hb2' hb3 hb3' hb4 hb4' hB1' hB2' hB3' k0 k1 k2 f0 f1 f2 l0 l1 l2 g0 g1 g2 m0 m1 m2 h0 h1 h2 hb0 hB1 hB2 hB3
    by_cases hs : sa = sb
    · have e := HA.out hs
      subst e
      subst hs
      have hse : (sa == sa) = true := beq_self_eq_true sa
      have GA := Lib.hid (fun w' (hb : Below w4.heap.size w4 w') => natAdd w' u1 u2 _ _ (T1.below hb (Nat.le_refl _)) (T2.below hb (Nat.le_refl _)) (by omega) (by omega))
      have L4 := limbs_len_add N M
      have GO := Lib.hid (fun w' v b (t : Nt b w' v (limbs (N + M))) (hb : Below w4.heap.size w4 w') => ratOf w' sa v u3 _ _ _ _ t (T3.below hb (Nat.le_refl _)) (by omega) (by omega))
      simp only [val_limbs] at GA GO
      clear HA HL HR
      go_wp2_with fail
      go_region_held3 (fun w' => w'.cell? ⟨K, 0, none⟩ = some (.bool sa)) (first | exact r0 | exact i0 | exact o0 | exact (cS3 (by omega)).trans o0 | go_keep)
        (first
          | ((go_simp; go_at_call 68; (with_reducible refine (GA.out _ (Below.refl _ _).drew).mono ?_); rintro e w5 ⟨u5, rfl, t5, hb5⟩; have hb5' := bthen (Below.refl w4.heap.size w4).drew hb5; obtain ⟨i0, i1, i2, _, _, _, hg4⟩ := (hB1n.below hb5' hg6').cells))
          | ((go_simp; go_at_call 63; (with_reducible refine (GO.out w5 _ _ t5 hb5').mono ?_); rintro e w6 ⟨u6, rfl, t6, hb6⟩; have hb6' := bthen hb5' hb6; obtain ⟨o0, o1, o2, _, _, _, hg7⟩ := (hB1n.below hb6' hg6').cells; obtain ⟨h0, h1, h2, d0, d1, d2, hg8⟩ := (hB3n.below hb6' hW).cells; obtain ⟨s8, ao8, n8, c8, ao9, n9, c9, rfl⟩ := t6.open)))
      clear GA GO
      go_wp2_with fail
      obtain ⟨r0, r1, r2, _⟩ := ((hB3n.below hb6' hW).stored (.bool s8) (.slice ao8 n8 c8) (.slice ao9 n9 c9)).cells
      subst hK
      exact bodyPost_ret (v := .agg #[.bool s8, .slice ao8 n8 c8, .slice ao9 n9 c9]) (by simp [results, Tryz.results26, go_sem, r0, r1, r2]) rfl
        ⟨_, rfl, (t6.set3 (by have := hb5'.size; omega)).mono (by have := hb5'.size; omega), below_set3 (bthen hbA hb6') (by omega)⟩
    · have hne : (sa == sb) = false := beq_eq_false_iff_ne.2 hs
      by_cases hle : M ≤ N
      · have e := HL.out hs hle
        subst e
        have L4 : (limbs (N - M)).length ≤ 1000000000000 := Nat.le_trans (limbs_len_mono (Nat.sub_le N M)) (by omega)
        have GS := Lib.hid (natSub w4 u1 u2 _ _ _ _ T1 T2 (by omega) (by omega))
        have GO := Lib.hid (fun w' v b (t : Nt b w' v (limbs (N - M))) (hb : Below w4.heap.size w4 w') => ratOf w' sa v u3 _ _ _ _ t (T3.below hb (Nat.le_refl _)) (by omega) (by omega))
        simp only [val_limbs] at GS GO
        rw [decide_eq_true hle] at GS
        clear HA HL HR hle hs
        go_wp2_with fail
        refine GS.out.mono ?_
        rintro e w5 ⟨u5, rfl, t5, hb5⟩
        obtain ⟨i0, i1, i2, _, _, _, hg4⟩ := (hB1n.below hb5 hg6').cells
        have hb5' := hb5
        go_wp2_with fail
        refine (GO.out w5 _ _ t5 hb5).mono ?_
        rintro e w6 ⟨u6, rfl, t6, hb6⟩
        have hb6' := bthen hb5 hb6
        obtain ⟨h0, h1, h2, d0, d1, d2, hg8⟩ := (hB3n.below hb6' hW).cells
        obtain ⟨s8, ao8, n8, c8, ao9, n9, c9, rfl⟩ := t6.open
        go_wp2
        obtain ⟨r0, r1, r2, _⟩ := ((hB3n.below hb6' hW).stored (.bool s8) (.slice ao8 n8 c8) (.slice ao9 n9 c9)).cells
        subst hK
        exact bodyPost_ret (v := .agg #[.bool s8, .slice ao8 n8 c8, .slice ao9 n9 c9]) (by simp [results, Tryz.results26, go_sem, r0, r1, r2]) rfl
          ⟨_, rfl, (t6.set3 (by have := hb5'.size; omega)).mono (by have := hb5'.size; omega), below_set3 (bthen hbA hb6') (by omega)⟩
      · have e := HR.out hs hle
        subst e
        have L4 : (limbs (M - N)).length ≤ 1000000000000 := Nat.le_trans (limbs_len_mono (Nat.sub_le M N)) (by omega)
        have GS := Lib.hid (natSub w4 u1 u2 _ _ _ _ T1 T2 (by omega) (by omega))
        have GT := Lib.hid (fun w' (hb : Below w4.heap.size w4 w') => natSub w' u2 u1 _ _ _ _ (T2.below hb (Nat.le_refl _)) (T1.below hb (Nat.le_refl _)) (by omega) (by omega))
        have GO := Lib.hid (fun w' v b (t : Nt b w' v (limbs (M - N))) (hb : Below w4.heap.size w4 w') => ratOf w' sb v u3 _ _ _ _ t (T3.below hb (Nat.le_refl _)) (by omega) (by omega))
        simp only [val_limbs] at GS GT GO
        rw [decide_eq_false hle] at GS
        clear HA HL HR hle hs
        go_wp2_with fail
        refine GS.out.mono ?_
        rintro e w5 ⟨u5, rfl, t5, hb5⟩
        go_wp2_with fail
        refine (GT.out w5 hb5).mono ?_
        rintro e w7 ⟨u7, rfl, t7, hb7⟩
        have hb5' := bthen hb5 hb7
        obtain ⟨i0, i1, i2, _, _, _, hg4⟩ := (hB2n.below hb5' (by omega)).cells
        go_wp2_with fail
        refine (GO.out w7 _ _ t7 hb5').mono ?_
        rintro e w6 ⟨u6, rfl, t6, hb6⟩
        have hb6' := bthen hb5' hb6
        obtain ⟨h0, h1, h2, d0, d1, d2, hg8⟩ := (hB3n.below hb6' hW).cells
        obtain ⟨s8, ao8, n8, c8, ao9, n9, c9, rfl⟩ := t6.open
        go_wp2
        obtain ⟨r0, r1, r2, _⟩ := ((hB3n.below hb6' hW).stored (.bool s8) (.slice ao8 n8 c8) (.slice ao9 n9 c9)).cells
        subst hK
        exact bodyPost_ret (v := .agg #[.bool s8, .slice ao8 n8 c8, .slice ao9 n9 c9]) (by simp [results, Tryz.results26, go_sem, r0, r1, r2]) rfl
          ⟨_, rfl, (t6.set3 (by have := hb5'.size; omega)).mono (by have := hb5'.size; omega), below_set3 (bthen hbA hb6') (by omega)⟩
end Go.Proofs.YtocpmekblkfdiaaGreatDoor
namespace Go.Proofs.YtocpmekblkfdiaaGreatDoor
open Go.RowKit
theorem Box3.other1 {t g' : Nat} {w : World} {g : Nat} {a b c x : Value} (h : Box3 t w g a b c) (hne : g ≠ g') : Box3 t (w.setCell ⟨g', 0, none⟩ x) g a b c := by
  unfold Box3 at *
  rw [heap_setCell_other _ _ _ _ hne]
  exact h
theorem below_set1 {B g : Nat} {w0 w : World} {x : Value} (h : Below B w0 w) (hg : B ≤ g) : Below B w0 (w.setCell ⟨g, 0, none⟩ x) := h.setCell (by exact hg) _
theorem boxes2 (w : World) (a b c : Value) : ∃ K, K = w.heap.size ∧
    Below K w ((w.alloc (.cells #[a, b, c] 24)).alloc (.cells #[.bool false, .slice none 0 0, .slice none 0 0] 24)) ∧
    Box3 24 ((w.alloc (.cells #[a, b, c] 24)).alloc (.cells #[.bool false, .slice none 0 0, .slice none 0 0] 24)) K a b c ∧
    Box3 24 ((w.alloc (.cells #[a, b, c] 24)).alloc (.cells #[.bool false, .slice none 0 0, .slice none 0 0] 24)) (K + 1) (.bool false) (.slice none 0 0) (.slice none 0 0) := by
  refine ⟨_, rfl, ((Below.refl _ _).alloc (Nat.le_refl _) _).alloc (by simp) _, ?_, ?_⟩
  · exact (Box3.new 24 w a b c).below ((Below.refl _ _).alloc (Nat.le_refl _) _) (by simp)
  · have h := Box3.new 24 (w.alloc (.cells #[a, b, c] 24)) (.bool false) (.slice none 0 0) (.slice none 0 0)
    rw [World.size_alloc] at h
    exact h
set_option maxRecDepth 100000 in
set_option maxHeartbeats 1000000 in
theorem ratSigned (w : World) (s s0 : Bool) (v1 v2 : Value) (xs ys : List Nat) (b1 b2 : Nat) (h1 : Nt b1 w v1 xs) (h2 : Nt b2 w v2 ys) :
    Calls Tryz.prog 102 #[.bool s, .agg #[.bool s0, v1, v2]] w
      fun e w' => e = .returned (.agg #[.bool (s && decide (0 < xs.length)), v1, v2]) ∧ Below w.heap.size w w' := by
  obtain ⟨ao1, c1, rfl, _⟩ := h1.open
  obtain ⟨ao2, c2, rfl, _⟩ := h2.open
  generalize xs.length = n at *
  generalize ys.length = n2 at *
  clear h1 h2
  cases s
  all_goals
    go_enter Tryz.func102, Tryz.ntmps102
    go_upto_region 1 with fail
    obtain ⟨K, rfl, hb0, hB1, hB2⟩ := boxes2 w (.bool s0) (.slice ao1 n c1) (.slice ao2 n2 c2)
    generalize ((w.alloc (.cells #[.bool s0, .slice ao1 n c1, .slice ao2 n2 c2] 24)).alloc (.cells #[.bool false, .slice none 0 0, .slice none 0 0] 24)) = w0 at *
    obtain ⟨k0, k1, k2, f0, f1, f2, hg1⟩ := hB1.cells
    obtain ⟨l0, l1, l2, g0, g1, g2, hg2⟩ := hB2.cells
    generalize hK : w.heap.size = K at *
    go_wp2
  · obtain ⟨r0, r1, r2, _⟩ := ((hB2.other1 (x := .bool false) (by omega : K + 1 ≠ K)).stored (.bool false) (.slice ao1 n c1) (.slice ao2 n2 c2)).cells
    subst hK
    exact bodyPost_ret (v := .agg #[.bool false, .slice ao1 n c1, .slice ao2 n2 c2]) (by simp [results, Tryz.results102, go_sem, r0, r1, r2]) rfl
      ⟨rfl, below_set3 (below_set1 hb0 (Nat.le_refl _)) (by omega)⟩
  · obtain ⟨r0, r1, r2, _⟩ := ((hB2.other1 (x := .bool (decide (0 < n))) (by omega : K + 1 ≠ K)).stored (.bool (decide (0 < n))) (.slice ao1 n c1) (.slice ao2 n2 c2)).cells
    subst hK
    exact bodyPost_ret (v := .agg #[.bool (decide (0 < n)), .slice ao1 n c1, .slice ao2 n2 c2]) (by simp [results, Tryz.results102, go_sem, r0, r1, r2]) rfl
      ⟨rfl, below_set3 (below_set1 hb0 (Nat.le_refl _)) (by omega)⟩
end Go.Proofs.YtocpmekblkfdiaaGreatDoor
namespace Go.Proofs.YtocpmekblkfdiaaGreatDoor
open Go.RowKit
theorem nm_neg (q : Rat) : nm (-q) = nm q := by
  unfold nm
  rw [Rat.neg_num, Int.natAbs_neg]
theorem den_neg (q : Rat) : (-q).den = q.den := by rw [Rat.neg_den]
theorem ng_neg (q : Rat) : ng (-q) = (!ng q && decide (0 < (limbs (nm q)).length)) := by
  have h := @limbs_len_zero (nm q)
  have h2 : nm q = q.num.natAbs := rfl
  unfold ng
  rw [Rat.neg_num]
  by_cases h0 : q.num = 0
  · have : (limbs (nm q)).length = 0 := h.2 (by omega)
    rw [this, h0]; rfl
  · have : 0 < (limbs (nm q)).length := Nat.pos_of_ne_zero fun hc => h0 (by have := h.1 hc; omega)
    rw [decide_eq_true this, Bool.and_true]
    by_cases h1 : q.num < 0
    · rw [decide_eq_true h1]; simp; omega
    · rw [decide_eq_false h1]; simp; omega
theorem size_S3 {w : World} {g : Nat} {x y z : Value} : (S3 w g x y z).heap.size = w.heap.size := by
  unfold S3
  simp only [World.size_setCell]
set_option maxRecDepth 100000 in
set_option maxHeartbeats 1000000 in
theorem ratNeg (w : World) (v : Value) (q : Rat) (h : RatR 1000000000000 w v q) :
    Calls Tryz.prog 48 #[v] w (RetRat (-q) w) := by
  have N1 := Lib.hid (fun w1 (hb : Below w.heap.size w w1) => ratNorm w1 v q (h.below hb (Nat.le_refl _)))
  obtain ⟨s1, ao1, n1, c1, ao2, n2, c2, rfl⟩ := h.open
  clear h
  go_enter Tryz.func48, Tryz.ntmps48
  go_upto_region 1 with fail
  obtain ⟨K, rfl, hb0, hB1, hB2⟩ := boxes2 w (.bool s1) (.slice ao1 n1 c1) (.slice ao2 n2 c2)
  generalize ((w.alloc (.cells #[.bool s1, .slice ao1 n1 c1, .slice ao2 n2 c2] 24)).alloc (.cells #[.bool false, .slice none 0 0, .slice none 0 0] 24)) = w0 at *
  obtain ⟨k0, k1, k2, f0, f1, f2, hg1⟩ := hB1.cells
  obtain ⟨l0, l1, l2, g0, g1, g2, hg2⟩ := hB2.cells
  go_wp2_with fail
  refine (N1.out w0 hb0).mono ?_
  rintro e w2 ⟨u, rfl, ⟨v1, v2, rfl, m1, m2⟩, hb2⟩
  have S1 := Lib.hid (ratSigned (S3 w2 w.heap.size (.bool (ng q)) v1 v2) (!ng q) (ng q) v1 v2 _ _ _ _ (m1.set3 hg1) (m2.set3 hg1))
  obtain ⟨ao3, c3, rfl, _⟩ := m1.open
  obtain ⟨ao4, c4, rfl, _⟩ := m2.open
  rw [← ng_neg] at S1
  have hE : Hid (∀ w', Nt w.heap.size w' (.slice ao3 (limbs (nm q)).length c3) (limbs (nm q)) → Nt w.heap.size w' (.slice ao4 (limbs q.den).length c4) (limbs q.den) →
      RatC w.heap.size w' (.agg #[.bool (ng (-q)), .slice ao3 (limbs (nm q)).length c3, .slice ao4 (limbs q.den).length c4]) (-q)) :=
    Lib.hid (fun w' m1 m2 => ⟨_, _, rfl, by rw [nm_neg]; exact m1, by rw [den_neg]; exact m2⟩)
  generalize limbs (nm q) = A at *
  generalize limbs q.den = B at *
  generalize ng (-q) = sn at *
  generalize ng q = sq at *
  have hB1' := hB1.below hb2 hg1
  have hB2' := hB2.below hb2 hg2
  obtain ⟨k0', k1', k2', f0', f1', f2', hg1'⟩ := hB1'.cells
  clear hB1
  go_wp2_with fail
  refine S1.out.mono ?_
  rintro e w4 ⟨rfl, hb4⟩
  have hb24 : Below w2.heap.size (S3 w2 w.heap.size (.bool sq) (.slice ao3 A.length c3) (.slice ao4 B.length c4)) w4 := by
    have := hb4
    rwa [size_S3] at this
  have hB2'' := (hB2'.other (x := .bool sq) (y := .slice ao3 A.length c3) (z := .slice ao4 B.length c4) (by omega : w.heap.size + 1 ≠ w.heap.size)).below hb24 (by have := hb2.size; omega)
  obtain ⟨l0', l1', l2', g0', g1', g2', hg2'⟩ := hB2''.cells
  go_wp2
  obtain ⟨r0, r1, r2, _⟩ := (hB2''.stored (.bool sn) (.slice ao3 A.length c3) (.slice ao4 B.length c4)).cells
  exact bodyPost_ret (v := .agg #[.bool sn, .slice ao3 A.length c3, .slice ao4 B.length c4]) (by simp [results, Tryz.results48, go_sem, r0, r1, r2]) rfl
    ⟨_, rfl, hE.out _ (((((m1.set3 hg1).below hb24 (by rw [size_S3]; exact Nat.le_refl _)).set3 hg2)).mono (by omega)) (((((m2.set3 hg1).below hb24 (by rw [size_S3]; exact Nat.le_refl _)).set3 hg2)).mono (by omega)), below_set3 ((below_set3 (bthen hb0 hb2) (Nat.le_refl _)).trans (hb24.mono (by have := hb2.size; omega))) (by omega)⟩
end Go.Proofs.YtocpmekblkfdiaaGreatDoor
namespace Go.Proofs.YtocpmekblkfdiaaGreatDoor
open Go.RowKit
set_option maxRecDepth 100000 in
set_option maxHeartbeats 1000000 in
theorem ratSub (w : World) (v1 v2 : Value) (a b : Rat) (h1 : RatR 100000000000 w v1 a) (h2 : RatR 100000000000 w v2 b) :
    Calls Tryz.prog 42 #[v1, v2] w (RetRat (a - b) w) := by
  have N1 := Lib.hid (fun w1 (hb : Below w.heap.size w w1) => ratNeg w1 v2 b ((h2.below hb (Nat.le_refl _)).more (by omega)))
  have z2 := h2.size (by omega)
  have N2 := Lib.hid (fun w1 u (hb : Below w.heap.size w w1) (hu : RatR 100000000000 w1 u (-b)) => ratAdd w1 v1 u a (-b) (h1.below hb (Nat.le_refl _)) hu)
  rw [← Rat.sub_eq_add_neg] at N2
  obtain ⟨s1, ao1, n1, c1, ao2, n2, c2, rfl⟩ := h1.open
  obtain ⟨s2, ao3, n3, c3, ao4, n4, c4, rfl⟩ := h2.open
  clear h1 h2
  go_enter Tryz.func42, Tryz.ntmps42
  go_upto_region 1 with fail
  obtain ⟨K, rfl, hb0, hB1, hB2, hB3⟩ := boxes3 w (.bool s1) (.slice ao1 n1 c1) (.slice ao2 n2 c2) (.bool s2) (.slice ao3 n3 c3) (.slice ao4 n4 c4)
  generalize (((w.alloc (.cells #[.bool s1, .slice ao1 n1 c1, .slice ao2 n2 c2] 24)).alloc (.cells #[.bool s2, .slice ao3 n3 c3, .slice ao4 n4 c4] 24)).alloc (.cells #[.bool false, .slice none 0 0, .slice none 0 0] 24)) = w0 at *
  obtain ⟨k0, k1, k2, f0, f1, f2, hg1⟩ := hB1.cells
  obtain ⟨l0, l1, l2, g0, g1, g2, hg2⟩ := hB2.cells
  have hg3 := hB3.cells.2.2.2.2.2.2
  go_wp2_with fail
  go_region_held3 (fun w' => w'.cell? ⟨w.heap.size, 0, none⟩ = some (.bool s1) ∧ w'.cell? ⟨w.heap.size, 1, none⟩ = some (.slice ao1 n1 c1) ∧ w'.cell? ⟨w.heap.size, 2, none⟩ = some (.slice ao2 n2 c2) ∧ w'.cell? ⟨w.heap.size + 1, 0, none⟩ = some (.bool s2) ∧ w'.cell? ⟨w.heap.size + 1, 1, none⟩ = some (.slice ao3 n3 c3) ∧ w'.cell? ⟨w.heap.size + 1, 2, none⟩ = some (.slice ao4 n4 c4))
    (first | exact ⟨k0, k1, k2, l0, l1, l2⟩ | exact ⟨i0, i1, i2, j0, j1, j2⟩ | exact ⟨o0, o1, o2, p0, p1, p2⟩ | exact ⟨(cS3 (by omega)).trans o0, (cS3 (by omega)).trans o1, (cS3 (by omega)).trans o2, (cS3 (by omega)).trans p0, (cS3 (by omega)).trans p1, (cS3 (by omega)).trans p2⟩ | go_keep)
    (first
      | ((go_simp; go_at_call 48; (with_reducible refine (N1.out w0.drew hb0.drew).mono ?_); rintro e w2 ⟨u1, rfl, t1, hb2⟩; have hb2' := bthen (Below.refl w0.heap.size w0).drew hb2; obtain ⟨i0, i1, i2, _, _, _, hg4⟩ := (hB1.below hb2' hg1).cells; obtain ⟨j0, j1, j2, _, _, _, hg4⟩ := (hB2.below hb2' hg2).cells))
      | ((go_simp; go_at_call 26; (with_reducible refine (N2.out w2 u1 (bthen hb0 hb2') (t1.rawK (by rw [rs_neg]; exact z2))).mono ?_); rintro e w3 ⟨u2, rfl, t2, hb3⟩; have hb3' := bthen hb2' hb3; obtain ⟨o0, o1, o2, _, _, _, hg5⟩ := (hB1.below hb3' hg1).cells; obtain ⟨p0, p1, p2, _, _, _, hg5⟩ := (hB2.below hb3' hg2).cells; obtain ⟨h0, h1, h2, d0, d1, d2, hg8⟩ := (hB3.below hb3' hg3).cells; obtain ⟨s8, ao8, n8, c8, ao9, n9, c9, rfl⟩ := t2.open)))
  go_wp2_with fail
  obtain ⟨r0, r1, r2, _⟩ := ((hB3.below hb3' hg3).stored (.bool s8) (.slice ao8 n8 c8) (.slice ao9 n9 c9)).cells
  exact bodyPost_ret (v := .agg #[.bool s8, .slice ao8 n8 c8, .slice ao9 n9 c9]) (by simp [results, Tryz.results42, go_sem, r0, r1, r2]) rfl
    ⟨_, rfl, (t2.set3 (by have := hb2'.size; omega)).mono (by have := hb2'.size; omega), below_set3 (bthen hb0 hb3') (by omega)⟩
/-- two boxes -/
theorem boxesAB (w : World) (a b c d e f : Value) : ∃ K, K = w.heap.size ∧
    Below K w ((w.alloc (.cells #[a, b, c] 24)).alloc (.cells #[d, e, f] 24)) ∧
    Box3 24 ((w.alloc (.cells #[a, b, c] 24)).alloc (.cells #[d, e, f] 24)) K a b c ∧
    Box3 24 ((w.alloc (.cells #[a, b, c] 24)).alloc (.cells #[d, e, f] 24)) (K + 1) d e f := by
  refine ⟨_, rfl, ((Below.refl _ _).alloc (Nat.le_refl _) _).alloc (by simp) _, ?_, ?_⟩
  · exact (Box3.new 24 w a b c).below ((Below.refl _ _).alloc (Nat.le_refl _) _) (by simp)
  · have h := Box3.new 24 (w.alloc (.cells #[a, b, c] 24)) d e f
    rw [World.size_alloc] at h
    exact h
/-- the sign of a difference -/
def cmpQ (a b : Rat) : Int := if a < b then -1 else if b < a then 1 else 0
theorem ng_sub (a b : Rat) : ng (a - b) = decide (a < b) := by
  unfold ng
  rw [Bool.eq_iff_iff]
  simp only [decide_eq_true_eq]
  rw [← Rat.not_le, Rat.le_iff_sub_nonneg, ← Rat.num_nonneg]
  omega
theorem sub_len (a b : Rat) : (limbs (nm (a - b))).length = 0 ↔ a = b := by
  rw [limbs_len_zero, nm_zero]
  exact ⟨fun h => by
    have h1 := Rat.le_iff_sub_nonneg b a
    rw [h] at h1
    have h2 : b - a = 0 := by rw [← Rat.neg_sub, h]; rfl
    have h3 := Rat.le_iff_sub_nonneg a b
    rw [h2] at h3
    exact Rat.le_antisymm (h3.2 Rat.le_refl) (h1.2 Rat.le_refl), fun h => by rw [h]; exact Rat.sub_self⟩
theorem cmpQ_cases (a b : Rat) : (ng (a - b) = true ∧ cmpQ a b = -1) ∨ (ng (a - b) = false ∧ 0 < (limbs (nm (a - b))).length ∧ cmpQ a b = 1) ∨ (ng (a - b) = false ∧ (limbs (nm (a - b))).length = 0 ∧ cmpQ a b = 0) := by
  rw [ng_sub]
  unfold cmpQ
  by_cases h : a < b
  · left; simp [h]
  · right
    by_cases he : a = b
    · right
      exact ⟨decide_eq_false h, (sub_len a b).2 he, by subst he; rw [if_neg h, if_neg h]⟩
    · left
      refine ⟨decide_eq_false h, Nat.pos_of_ne_zero fun hc => he ((sub_len a b).1 hc), ?_⟩
      have : b < a := Rat.lt_iff_le_and_ne.2 ⟨Rat.not_lt.1 h, fun hc => he hc.symm⟩
      rw [if_neg h, if_pos this]
set_option maxRecDepth 100000 in
set_option maxHeartbeats 1000000 in
theorem ratCmp (w : World) (v1 v2 : Value) (a b : Rat) (h1 : RatR 100000000000 w v1 a) (h2 : RatR 100000000000 w v2 b) :
    Calls Tryz.prog 22 #[v1, v2] w fun e w' => e = .returned (.int .i64 (cmpQ a b)) ∧ Below w.heap.size w w' := by
  have N1 := Lib.hid (fun w1 (hb : Below w.heap.size w w1) => ratSub w1 v1 v2 a b (h1.below hb (Nat.le_refl _)) (h2.below hb (Nat.le_refl _)))
  obtain ⟨s1, ao1, n1, c1, ao2, n2, c2, rfl⟩ := h1.open
  obtain ⟨s2, ao3, n3, c3, ao4, n4, c4, rfl⟩ := h2.open
  clear h1 h2
  have hC := cmpQ_cases a b
  generalize cmpQ a b = r at *
  go_enter Tryz.func22, Tryz.ntmps22
  go_upto_region 1 with fail
  obtain ⟨K, rfl, hb0, hB1, hB2⟩ := boxesAB w (.bool s1) (.slice ao1 n1 c1) (.slice ao2 n2 c2) (.bool s2) (.slice ao3 n3 c3) (.slice ao4 n4 c4)
  generalize ((w.alloc (.cells #[.bool s1, .slice ao1 n1 c1, .slice ao2 n2 c2] 24)).alloc (.cells #[.bool s2, .slice ao3 n3 c3, .slice ao4 n4 c4] 24)) = w0 at *
  obtain ⟨k0, k1, k2, f0, f1, f2, hg1⟩ := hB1.cells
  obtain ⟨l0, l1, l2, g0, g1, g2, hg2⟩ := hB2.cells
  go_wp2_with fail
  refine (N1.out w0 hb0).mono ?_
  rintro e w2 ⟨u, rfl, ⟨v1, v2, rfl, m1, m2⟩, hb2⟩
  obtain ⟨ao5, c5, rfl, _⟩ := m1.open
  obtain ⟨ao6, c6, rfl, _⟩ := m2.open
  generalize (limbs (nm (a - b))).length = n5 at *
  have hb3 := (bthen hb0 hb2).alloc (bthen hb0 hb2).size (.cells #[.bool (ng (a - b)), .slice ao5 n5 c5, .slice ao6 (limbs (a - b).den).length c6] 24)
  generalize ng (a - b) = sg at *
  rcases hC with ⟨rfl, rfl⟩ | ⟨rfl, hp, rfl⟩ | ⟨rfl, rfl, rfl⟩
  · go_wp2
    exact bodyPost_ret (by simp [results, Tryz.results22, go_sem]) rfl ⟨rfl, hb3⟩
  · go_wp2
    exact bodyPost_ret (by simp [results, Tryz.results22, go_sem]) rfl ⟨rfl, hb3⟩
  · go_wp2
    exact bodyPost_ret (by simp [results, Tryz.results22, go_sem]) rfl ⟨rfl, hb3⟩
end Go.Proofs.YtocpmekblkfdiaaGreatDoor
