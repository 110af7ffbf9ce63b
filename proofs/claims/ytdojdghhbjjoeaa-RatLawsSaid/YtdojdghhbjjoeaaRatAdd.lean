/- Contract of rat.Add. Conditions: at most 10^11 limbs. -/
import Derived.Test.YtdojdghhbjjoeaaRatBoxes
namespace Go.Proofs.Ytdojdghhbjjoeaa
open Go.RowKit

theorem add_same (a b : Rat) (h : ng a = ng b) : a + b = qv (ng a) (nm a * b.den + nm b * a.den) (a.den * b.den) := by
  rw [← qv_add _ _ _ _ _ a.den_nz b.den_nz]
  conv => lhs; rw [← qv_self a, ← qv_self b, ← h]
theorem add_left (a b : Rat) (h : ng a ≠ ng b) (hle : nm b * a.den ≤ nm a * b.den) : a + b = qv (ng a) (nm a * b.den - nm b * a.den) (a.den * b.den) := by
  have := qv_sub (ng a) (ng b) (nm a) a.den (nm b) b.den h a.den_nz b.den_nz
  rw [if_pos hle, qv_self, qv_self] at this
  exact this
theorem add_right (a b : Rat) (h : ng a ≠ ng b) (hlt : ¬ nm b * a.den ≤ nm a * b.den) : a + b = qv (ng b) (nm b * a.den - nm a * b.den) (a.den * b.den) := by
  have := qv_sub (ng a) (ng b) (nm a) a.den (nm b) b.den h a.den_nz b.den_nz
  rw [if_neg hlt, qv_self, qv_self] at this
  exact this

set_option maxRecDepth 100000 in
set_option maxHeartbeats 1000000 in
theorem ratAdd (w : World) (v1 v2 : Value) (a b : Rat) (h1 : RatR 100000000000 w v1 a) (h2 : RatR 100000000000 w v2 b) :
    Calls Try.prog 19 #[v1, v2] w (RetRat (a + b) w) := by
  have N1 := Lib.hid (fun w1 (hb : Below w.heap.size w w1) => ratNorm w1 v1 a ((h1.below hb (Nat.le_refl _)).more (by omega)))
  have N2 := Lib.hid (fun w1 (hb : Below w.heap.size w w1) => ratNorm w1 v2 b ((h2.below hb (Nat.le_refl _)).more (by omega)))
  have z1 := h1.size (by omega)
  have z2 := h2.size (by omega)
  obtain ⟨s1, ao1, n1, c1, ao2, n2, c2, rfl⟩ := h1.open
  obtain ⟨s2, ao3, n3, c3, ao4, n4, c4, rfl⟩ := h2.open
  clear h1 h2
  go_enter Try.func19, Try.ntmps19
  go_upto_region 1 with fail
  obtain ⟨K, rfl, hb0, hB1, hB2, hB3⟩ := boxes3 w (.bool s1) (.slice ao1 n1 c1) (.slice ao2 n2 c2) (.bool s2) (.slice ao3 n3 c3) (.slice ao4 n4 c4)
  generalize (((w.alloc (.cells #[.bool s1, .slice ao1 n1 c1, .slice ao2 n2 c2] 24)).alloc (.cells #[.bool s2, .slice ao3 n3 c3, .slice ao4 n4 c4] 24)).alloc (.cells #[.bool false, .slice none 0 0, .slice none 0 0] 24)) = w0 at *
  go_cut [] (fun wx => Boxes w w.heap.size a b wx)
  case first =>
    obtain ⟨k0, k1, k2, f0, f1, f2, hg1⟩ := hB1.cells
    obtain ⟨l0, l1, l2, g0, g1, g2, hg2⟩ := hB2.cells
    have hg3 := hB3.cells.2.2.2.2.2.2
    go_region_with (first
      | (go_at_call 48; ((with_reducible refine (N1.out w0.drew hb0.drew).mono ?_); rintro e w2 ⟨u, rfl, hC1, hb2⟩; have hb2' : Below w0.heap.size w0 w2 := (Below.refl _ _).drew.trans hb2; have hB1' := hB1.below hb2' hg1; have hB2' := hB2.below hb2' hg2; have hB3' := hB3.below hb2' hg3; have hb02 := bthen hb0 hb2'; obtain ⟨s5, ao5, n5, c5, ao6, n6, c6, rfl⟩ := hC1.open; obtain ⟨m0, m1, m2, e0, e1, e2, hg4⟩ := hB2'.cells))
      | (go_at_call 48; (with_reducible refine (N2.out w2 hb02).mono ?_); rintro e w3 ⟨u, rfl, hC2, hb3⟩; have hB1'' := hB1'.below hb3 (Nat.lt_of_lt_of_le hg1 hb2'.size); have hB2'' := hB2'.below hb3 hg4; have hB3'' := hB3'.below hb3 (Nat.lt_of_lt_of_le hg3 hb2'.size); have hb03 := bthen hb02 hb3; obtain ⟨s7, ao7, n7, c7, ao8, n8, c8, rfl⟩ := hC2.open; obtain ⟨o0, o1, o2, i0, i1, i2, hg5⟩ := hB1''.cells; obtain ⟨p0, p1, p2, q0, q1, q2, hg6⟩ := hB2''.cells))
    all_goals
      go_wp2_with fail
      go_meet
      exact boxes_end hC1 hg3 (Nat.lt_of_lt_of_le hg3 hb2'.size) hb3 hC2 hb03 hB1'' hB2'' hB3''
  case rest =>
    obtain ⟨hb1, ⟨x1, x2, hB1', n1, n2⟩, ⟨y1, y2, hB2', n3, n4⟩, hB3'⟩ := hcut
    have hla := rs_nm a
    have hlb := rs_nm b
    have hda := rs_den a
    have hdb := rs_den b
    have hlm := limbs_len_mul (nm a) b.den
    have hlm2 := limbs_len_mul (nm b) a.den
    have hdm := limbs_len_mul a.den b.den
    have CM1 := Lib.hid (fun w1 (hb : Below wc.heap.size wc w1) => natMul w1 x1 y2 _ _ _ _ (n1.below hb (Nat.le_refl _)) (n4.below hb (Nat.le_refl _)) (by omega) (by omega))
    have CM2 := Lib.hid (fun w1 (hb : Below wc.heap.size wc w1) => natMul w1 y1 x2 _ _ _ _ (n3.below hb (Nat.le_refl _)) (n2.below hb (Nat.le_refl _)) (by omega) (by omega))
    have CM3 := Lib.hid (fun w1 (hb : Below wc.heap.size wc w1) => natMul w1 x2 y2 _ _ _ _ (n2.below hb (Nat.le_refl _)) (n4.below hb (Nat.le_refl _)) (by omega) (by omega))
    simp only [val_limbs] at CM1 CM2 CM3
    have HA := Lib.hid (add_same a b)
    have HL := Lib.hid (add_left a b)
    have HR := Lib.hid (add_right a b)
    have L1 : (limbs (nm a * b.den)).length ≤ 200000000000 := by omega
    have L2 : (limbs (nm b * a.den)).length ≤ 200000000000 := by omega
    have L3 : (limbs (a.den * b.den)).length ≤ 200000000000 := by omega
    clear N1 N2 hla hlb hda hdb hlm hlm2 hdm z1 z2 n1 n2 n3 n4
    generalize nm a * b.den = N at *
    generalize nm b * a.den = M at *
    generalize a.den * b.den = D at *
    generalize a + b = q at *
    generalize ng a = sa at *
    generalize ng b = sb at *
    obtain ⟨k0, k1, k2, f0, f1, f2, hg1⟩ := hB1'.cells
    obtain ⟨l0, l1, l2, g0, g1, g2, hg2⟩ := hB2'.cells
    obtain ⟨m0, m1, m2, h0, h1, h2, hg3⟩ := hB3'.cells
    go_wp2_with fail
    generalize hK : w.heap.size = K at *
    go_region_held3 (fun w' => w'.cell? ⟨K, 0, none⟩ = some (.bool sa) ∧ w'.cell? ⟨K, 1, none⟩ = some x1 ∧ w'.cell? ⟨K, 2, none⟩ = some x2 ∧ w'.cell? ⟨K + 1, 0, none⟩ = some (.bool sb) ∧ w'.cell? ⟨K + 1, 1, none⟩ = some y1 ∧ w'.cell? ⟨K + 1, 2, none⟩ = some y2)
      (first | exact ⟨k0, k1, k2, l0, l1, l2⟩ | exact ⟨i0, i1, i2, j0, j1, j2⟩ | exact ⟨o0, o1, o2, p0, p1, p2⟩ | exact ⟨r0, r1, r2, v0, v1, v2⟩ | go_keep)
      (first
        | ((go_simp; go_at_call 69; (with_reducible refine (CM1.out _ (Below.refl _ _).drew).mono ?_); rintro e w2 ⟨u1, rfl, t1, hb2⟩; have hb2' := bthen (Below.refl wc.heap.size wc).drew hb2; obtain ⟨i0, i1, i2, _, _, _, hg4⟩ := (hB1'.below hb2' hg1).cells; obtain ⟨j0, j1, j2, _, _, _, hg4⟩ := (hB2'.below hb2' hg2).cells))
        | ((go_simp; go_at_call 69; (with_reducible refine (CM2.out w2 hb2').mono ?_); rintro e w3 ⟨u2, rfl, t2, hb3⟩; have hb3' := bthen hb2' hb3; obtain ⟨o0, o1, o2, _, _, _, hg5⟩ := (hB1'.below hb3' hg1).cells; obtain ⟨p0, p1, p2, _, _, _, hg5⟩ := (hB2'.below hb3' hg2).cells))
        | ((go_simp; go_at_call 69; (with_reducible refine (CM3.out w3 hb3').mono ?_); rintro e w4 ⟨u3, rfl, t3, hb4⟩; have hb4' := bthen hb3' hb4; obtain ⟨r0, r1, r2, _, _, _, hg6⟩ := (hB1'.below hb4' hg1).cells; obtain ⟨v0, v1, v2, _, _, _, hg6⟩ := (hB2'.below hb4' hg2).cells)))
    clear CM1 CM2 CM3 i0 i1 i2 j0 j1 j2 o0 o1 o2 p0 p1 p2
    have hB1n := hB1'.below hb4' hg1
    have hB2n := hB2'.below hb4' hg2
    have hB3n := hB3'.below hb4' hg3
    have hg6' := hB1n.cells.2.2.2.2.2.2
    have T1 : Nt 0 w4 u1 (limbs N) := ((t1.below hb3 (Nat.le_refl _)).below hb4 (Nat.le_refl _)).mono (Nat.zero_le _)
    have T2 : Nt 0 w4 u2 (limbs M) := (t2.below hb4 (Nat.le_refl _)).mono (Nat.zero_le _)
    have T3 : Nt 0 w4 u3 (limbs D) := t3.mono (Nat.zero_le _)
    have hbA : Below K w w4 := by rw [← hK]; exact bthen (by rw [hK]; exact hb1) hb4'
    have hW : K + 1 + 1 < w4.heap.size := hB3n.cells.2.2.2.2.2.2
    clear t1 t2 t3 hb2 hb2' hb3 hb3' hb4 hb4' hB1' hB2' hB3' k0 k1 k2 f0 f1 f2 l0 l1 l2 g0 g1 g2 m0 m1 m2 h0 h1 h2 hb0 hB1 hB2 hB3
    by_cases hs : sa = sb
    · have e := HA.out hs
      subst e
      subst hs
      have hse : (sa == sa) = true := beq_self_eq_true sa
      have GA := Lib.hid (fun w' (hb : Below w4.heap.size w4 w') => natAdd w' u1 u2 _ _ (T1.below hb (Nat.le_refl _)) (T2.below hb (Nat.le_refl _)) (by omega) (by omega))
      have L4 := limbs_len_add N M
      have GO := Lib.hid (fun w' v b (t : Nt b w' v (limbs (N + M))) (hb : Below w4.heap.size w4 w') => ratOf w' sa v u3 _ _ _ _ t (T3.below hb (Nat.le_refl _)) (by omega) (by omega))
      simp only [val_limbs] at GA GO
      clear HA HL HR
      go_wp2_with fail
      go_region_held3 (fun w' => w'.cell? ⟨K, 0, none⟩ = some (.bool sa)) (first | exact r0 | exact i0 | exact o0 | exact (cS3 (by omega)).trans o0 | go_keep)
        (first
          | ((go_simp; go_at_call 70; (with_reducible refine (GA.out _ (Below.refl _ _).drew).mono ?_); rintro e w5 ⟨u5, rfl, t5, hb5⟩; have hb5' := bthen (Below.refl w4.heap.size w4).drew hb5; obtain ⟨i0, i1, i2, _, _, _, hg4⟩ := (hB1n.below hb5' hg6').cells))
          | ((go_simp; go_at_call 59; (with_reducible refine (GO.out w5 _ _ t5 hb5').mono ?_); rintro e w6 ⟨u6, rfl, t6, hb6⟩; have hb6' := bthen hb5' hb6; obtain ⟨o0, o1, o2, _, _, _, hg7⟩ := (hB1n.below hb6' hg6').cells; obtain ⟨h0, h1, h2, d0, d1, d2, hg8⟩ := (hB3n.below hb6' hW).cells; obtain ⟨s8, ao8, n8, c8, ao9, n9, c9, rfl⟩ := t6.open)))
      clear GA GO
      go_wp2_with fail
      obtain ⟨r0, r1, r2, _⟩ := ((hB3n.below hb6' hW).stored (.bool s8) (.slice ao8 n8 c8) (.slice ao9 n9 c9)).cells
      subst hK
      exact bodyPost_ret (v := .agg #[.bool s8, .slice ao8 n8 c8, .slice ao9 n9 c9]) (by simp [results, Try.results19, go_sem, r0, r1, r2]) rfl
        ⟨_, rfl, (t6.set3 (by have := hb5'.size; omega)).mono (by have := hb5'.size; omega), below_set3 (bthen hbA hb6') (by omega)⟩
    · have hne : (sa == sb) = false := beq_eq_false_iff_ne.2 hs
      by_cases hle : M ≤ N
      · have e := HL.out hs hle
        subst e
        have L4 : (limbs (N - M)).length ≤ 1000000000000 := Nat.le_trans (limbs_len_mono (Nat.sub_le N M)) (by omega)
        have GS := Lib.hid (natSub w4 u1 u2 _ _ _ _ T1 T2 (by omega) (by omega))
        have GO := Lib.hid (fun w' v b (t : Nt b w' v (limbs (N - M))) (hb : Below w4.heap.size w4 w') => ratOf w' sa v u3 _ _ _ _ t (T3.below hb (Nat.le_refl _)) (by omega) (by omega))
        simp only [val_limbs] at GS GO
        rw [decide_eq_true hle] at GS
        clear HA HL HR hle hs
        go_wp2_with fail
        refine GS.out.mono ?_
        rintro e w5 ⟨u5, rfl, t5, hb5⟩
        obtain ⟨i0, i1, i2, _, _, _, hg4⟩ := (hB1n.below hb5 hg6').cells
        have hb5' := hb5
        go_wp2_with fail
        refine (GO.out w5 _ _ t5 hb5).mono ?_
        rintro e w6 ⟨u6, rfl, t6, hb6⟩
        have hb6' := bthen hb5 hb6
        obtain ⟨h0, h1, h2, d0, d1, d2, hg8⟩ := (hB3n.below hb6' hW).cells
        obtain ⟨s8, ao8, n8, c8, ao9, n9, c9, rfl⟩ := t6.open
        go_wp2
        obtain ⟨r0, r1, r2, _⟩ := ((hB3n.below hb6' hW).stored (.bool s8) (.slice ao8 n8 c8) (.slice ao9 n9 c9)).cells
        subst hK
        exact bodyPost_ret (v := .agg #[.bool s8, .slice ao8 n8 c8, .slice ao9 n9 c9]) (by simp [results, Try.results19, go_sem, r0, r1, r2]) rfl
          ⟨_, rfl, (t6.set3 (by have := hb5'.size; omega)).mono (by have := hb5'.size; omega), below_set3 (bthen hbA hb6') (by omega)⟩
      · have e := HR.out hs hle
        subst e
        have L4 : (limbs (M - N)).length ≤ 1000000000000 := Nat.le_trans (limbs_len_mono (Nat.sub_le M N)) (by omega)
        have GS := Lib.hid (natSub w4 u1 u2 _ _ _ _ T1 T2 (by omega) (by omega))
        have GT := Lib.hid (fun w' (hb : Below w4.heap.size w4 w') => natSub w' u2 u1 _ _ _ _ (T2.below hb (Nat.le_refl _)) (T1.below hb (Nat.le_refl _)) (by omega) (by omega))
        have GO := Lib.hid (fun w' v b (t : Nt b w' v (limbs (M - N))) (hb : Below w4.heap.size w4 w') => ratOf w' sb v u3 _ _ _ _ t (T3.below hb (Nat.le_refl _)) (by omega) (by omega))
        simp only [val_limbs] at GS GT GO
        rw [decide_eq_false hle] at GS
        clear HA HL HR hle hs
        go_wp2_with fail
        refine GS.out.mono ?_
        rintro e w5 ⟨u5, rfl, t5, hb5⟩
        go_wp2_with fail
        refine (GT.out w5 hb5).mono ?_
        rintro e w7 ⟨u7, rfl, t7, hb7⟩
        have hb5' := bthen hb5 hb7
        obtain ⟨i0, i1, i2, _, _, _, hg4⟩ := (hB2n.below hb5' (by omega)).cells
        go_wp2_with fail
        refine (GO.out w7 _ _ t7 hb5').mono ?_
        rintro e w6 ⟨u6, rfl, t6, hb6⟩
        have hb6' := bthen hb5' hb6
        obtain ⟨h0, h1, h2, d0, d1, d2, hg8⟩ := (hB3n.below hb6' hW).cells
        obtain ⟨s8, ao8, n8, c8, ao9, n9, c9, rfl⟩ := t6.open
        go_wp2
        obtain ⟨r0, r1, r2, _⟩ := ((hB3n.below hb6' hW).stored (.bool s8) (.slice ao8 n8 c8) (.slice ao9 n9 c9)).cells
        subst hK
        exact bodyPost_ret (v := .agg #[.bool s8, .slice ao8 n8 c8, .slice ao9 n9 c9]) (by simp [results, Try.results19, go_sem, r0, r1, r2]) rfl
          ⟨_, rfl, (t6.set3 (by have := hb5'.size; omega)).mono (by have := hb5'.size; omega), below_set3 (bthen hbA hb6') (by omega)⟩

end Go.Proofs.Ytdojdghhbjjoeaa
