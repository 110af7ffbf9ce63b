/- Contract of rat.Same. Conditions: at most 10^11 limbs. -/
import Derived.Test.YtdojdghhbjjoeaaRatSub
import Derived.Test.YtdojdghhbjjoeaaEq
namespace Go.Proofs.Ytdojdghhbjjoeaa
open Go.RowKit

/-- two boxes hold rationals, normal -/
def Boxes2 (w : World) (K : Nat) (a b : Rat) (wx : World) : Prop := Below K w wx ∧ BoxQ K wx K a ∧ BoxQ K wx (K + 1) b

theorem boxes2_end {w w2 w3 : World} {K L M : Nat} {a b : Rat} {s5 s7 : Bool} {x5 x6 x7 x8 y0 y1 y2 z0 z1 z2 : Value}
    (hC1 : RatC L w2 (.agg #[.bool s5, x5, x6]) a) (hL : K + 1 < L) (hM : K + 1 < M) (hb3 : Below w2.heap.size w2 w3) (hC2 : RatC M w3 (.agg #[.bool s7, x7, x8]) b)
    (hb : Below K w w3) (h1 : Box3 24 w3 K y0 y1 y2) (h2 : Box3 24 w3 (K + 1) z0 z1 z2) :
    Boxes2 w K a b (S3 (S3 w3 K (.bool s5) x5 x6) (K + 1) (.bool s7) x7 x8) := by
  obtain ⟨v1, v2, e1, n1, n2⟩ := hC1
  obtain ⟨v3, v4, e2, n3, n4⟩ := hC2
  simp only [Value.agg.injEq, Array.mk.injEq, List.cons.injEq, Value.bool.injEq, and_true] at e1 e2
  obtain ⟨rfl, rfl, rfl⟩ := e1
  obtain ⟨rfl, rfl, rfl⟩ := e2
  replace n1 := (n1.below hb3 (Nat.le_refl _))
  replace n2 := (n2.below hb3 (Nat.le_refl _))
  refine ⟨below_set3 (below_set3 hb (Nat.le_refl _)) (by omega), ⟨_, _, (h1.stored _ _ _).other (by omega), ?_, ?_⟩, ⟨_, _, (h2.other (by omega)).stored _ _ _, ?_, ?_⟩⟩
  · exact ((n1.set3 (by omega)).set3 (by omega)).mono (by omega)
  · exact ((n2.set3 (by omega)).set3 (by omega)).mono (by omega)
  · exact ((n3.set3 (by omega)).set3 (by omega)).mono (by omega)
  · exact ((n4.set3 (by omega)).set3 (by omega)).mono (by omega)

theorem limbs_inj {m n : Nat} : limbs m = limbs n ↔ m = n := ⟨fun h => by rw [← val_limbs m, h, val_limbs], fun h => by rw [h]⟩
theorem rat_parts {a b : Rat} (h1 : ng a = ng b) (h2 : nm a = nm b) (h3 : a.den = b.den) : a = b := by rw [← qv_self a, ← qv_self b, h1, h2, h3]

set_option maxRecDepth 100000 in
set_option maxHeartbeats 1000000 in
theorem ratSame (w : World) (v1 v2 : Value) (a b : Rat) (h1 : RatR 100000000000 w v1 a) (h2 : RatR 100000000000 w v2 b) :
    Calls Try.prog 51 #[v1, v2] w fun e w' => e = .returned (.bool (decide (a = b))) ∧ Below w.heap.size w w' := by
  have N1 := Lib.hid (fun w1 (hb : Below w.heap.size w w1) => ratNorm w1 v1 a ((h1.below hb (Nat.le_refl _)).more (by omega)))
  have N2 := Lib.hid (fun w1 (hb : Below w.heap.size w w1) => ratNorm w1 v2 b ((h2.below hb (Nat.le_refl _)).more (by omega)))
  have z1 := h1.size (by omega)
  have z2 := h2.size (by omega)
  obtain ⟨s1, ao1, n1, c1, ao2, n2, c2, rfl⟩ := h1.open
  obtain ⟨s2, ao3, n3, c3, ao4, n4, c4, rfl⟩ := h2.open
  clear h1 h2
  go_enter Try.func51, Try.ntmps51
  go_upto_region 1 with fail
  obtain ⟨K, rfl, hb0, hB1, hB2⟩ := boxesAB w (.bool s1) (.slice ao1 n1 c1) (.slice ao2 n2 c2) (.bool s2) (.slice ao3 n3 c3) (.slice ao4 n4 c4)
  generalize ((w.alloc (.cells #[.bool s1, .slice ao1 n1 c1, .slice ao2 n2 c2] 24)).alloc (.cells #[.bool s2, .slice ao3 n3 c3, .slice ao4 n4 c4] 24)) = w0 at *
  go_cut [] (fun wx => Boxes2 w w.heap.size a b wx)
  case first =>
    obtain ⟨k0, k1, k2, f0, f1, f2, hg1⟩ := hB1.cells
    obtain ⟨l0, l1, l2, g0, g1, g2, hg2⟩ := hB2.cells
    go_region_with (first
      | (go_at_call 48; ((with_reducible refine (N1.out w0.drew hb0.drew).mono ?_); rintro e w2 ⟨u, rfl, hC1, hb2⟩; have hb2' : Below w0.heap.size w0 w2 := (Below.refl _ _).drew.trans hb2; have hB1' := hB1.below hb2' hg1; have hB2' := hB2.below hb2' hg2; have hb02 := bthen hb0 hb2'; obtain ⟨s5, ao5, n5, c5, ao6, n6, c6, rfl⟩ := hC1.open; obtain ⟨m0, m1, m2, e0, e1, e2, hg4⟩ := hB2'.cells))
      | (go_at_call 48; (with_reducible refine (N2.out w2 hb02).mono ?_); rintro e w3 ⟨u, rfl, hC2, hb3⟩; have hB1'' := hB1'.below hb3 (Nat.lt_of_lt_of_le hg1 hb2'.size); have hB2'' := hB2'.below hb3 hg4; have hb03 := bthen hb02 hb3; obtain ⟨s7, ao7, n7, c7, ao8, n8, c8, rfl⟩ := hC2.open; obtain ⟨o0, o1, o2, i0, i1, i2, hg5⟩ := hB1''.cells; obtain ⟨p0, p1, p2, q0, q1, q2, hg6⟩ := hB2''.cells))
    all_goals
      go_wp2_with fail
      go_meet
      exact boxes2_end hC1 hg2 (Nat.lt_of_lt_of_le hg2 hb2'.size) hb3 hC2 hb03 hB1'' hB2''
  case rest =>
    obtain ⟨hb1, ⟨x1, x2, hB1', n1, n2⟩, ⟨y1, y2, hB2', n3, n4⟩⟩ := hcut
    have hla := rs_nm a
    have hda := rs_den a
    have CE1 := Lib.hid (fun w1 (hb : Below wc.heap.size wc w1) => slicesEqual w1 x1 y1 _ _ _ _ (n1.below hb (Nat.le_refl _)) (n3.below hb (Nat.le_refl _)) (by omega))
    have CE2 := Lib.hid (fun w1 (hb : Below wc.heap.size wc w1) => slicesEqual w1 x2 y2 _ _ _ _ (n2.below hb (Nat.le_refl _)) (n4.below hb (Nat.le_refl _)) (by omega))
    have e1 : decide (limbs (nm a) = limbs (nm b)) = decide (nm a = nm b) := by simp only [limbs_inj]
    have e2 : decide (limbs a.den = limbs b.den) = decide (a.den = b.den) := by simp only [limbs_inj]
    rw [e1] at CE1
    rw [e2] at CE2
    obtain ⟨k0, k1, k2, f0, f1, f2, hg1⟩ := hB1'.cells
    obtain ⟨l0, l1, l2, g0, g1, g2, hg2⟩ := hB2'.cells
    by_cases hs : ng a = ng b
    · have q1 : (ng a == ng b) = true := by simp [hs]
      by_cases hn : nm a = nm b
      · rw [decide_eq_true hn] at CE1
        have hr : Hid (decide (a = b) = decide (a.den = b.den)) := Lib.hid (by
          by_cases hd : a.den = b.den
          · rw [decide_eq_true hd, decide_eq_true (rat_parts hs hn hd)]
          · rw [decide_eq_false hd, decide_eq_false (fun h => hd (by rw [h]))])
        clear N1 N2 e1 e2 z1 z2 n1 n2 n3 n4 hla hda hs hn
        generalize decide (a.den = b.den) = dd at *
        generalize ng a = sa at *
        generalize ng b = sb at *
        go_wp2_with fail
        refine (CE1.out wc (Below.refl _ _)).mono ?_
        rintro e w2 ⟨rfl, hb2⟩
        obtain ⟨i0, i1, i2, _, _, _, hg3⟩ := (hB1'.below hb2 hg1).cells
        obtain ⟨j0, j1, j2, _, _, _, hg4⟩ := (hB2'.below hb2 hg2).cells
        go_wp2_with fail
        refine (CE2.out w2 hb2).mono ?_
        rintro e w3 ⟨rfl, hb3⟩
        go_wp2
        exact bodyPost_ret (v := .bool dd) (by simp [results, Try.results51, go_sem]) rfl ⟨by rw [hr.out], bthen hb1 (bthen hb2 hb3)⟩
      · rw [decide_eq_false hn] at CE1
        have hr : Hid (decide (a = b) = false) := Lib.hid (decide_eq_false fun h => hn (by rw [h]))
        clear N1 N2 CE2 e1 e2 z1 z2 n1 n2 n3 n4 hla hda hs hn
        generalize ng a = sa at *
        generalize ng b = sb at *
        go_wp2_with fail
        refine (CE1.out wc (Below.refl _ _)).mono ?_
        rintro e w2 ⟨rfl, hb2⟩
        go_wp2
        exact bodyPost_ret (v := .bool false) (by simp [results, Try.results51, go_sem]) rfl ⟨by rw [hr.out], bthen hb1 hb2⟩
    · have q1 : (ng a == ng b) = false := by simp [hs]
      have hr : Hid (decide (a = b) = false) := Lib.hid (decide_eq_false fun h => hs (by rw [h]))
      clear N1 N2 CE1 CE2 e1 e2 z1 z2 n1 n2 n3 n4 hla hda hs
      generalize ng a = sa at *
      generalize ng b = sb at *
      go_wp2
      exact bodyPost_ret (v := .bool false) (by simp [results, Try.results51, go_sem]) rfl ⟨by rw [hr.out], hb1⟩

end Go.Proofs.Ytdojdghhbjjoeaa
