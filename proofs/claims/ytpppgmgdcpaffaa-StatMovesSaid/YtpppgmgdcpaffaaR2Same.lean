/- Contract of vernierref2.Same. Conditions: at most 10^10 limbs. -/
import Derived.Test.YtpppgmgdcpaffaaGG
namespace Go.Proofs.Ytpppgmgdcpaffaa
open Go.RowKit

set_option maxRecDepth 100000 in
set_option maxHeartbeats 4000000 in
theorem r2Same (w : World) (v1 v2 : Value) (a b : Rat) (h1 : RatR 10000000000 w v1 a) (h2 : RatR 10000000000 w v2 b)  :
    Calls Try.prog 34 #[v1, v2] w fun e w' => e = .returned (.bool (decide (a = b))) ∧ Below w.heap.size w w' := by
  have z1 := h1.size (by omega)
  obtain ⟨s1, p1, i1, c1, o1, j1, d1, rfl⟩ := h1.open
  have z2 := h2.size (by omega)
  obtain ⟨s2, p2, i2, c2, o2, j2, d2, rfl⟩ := h2.open
  have hcase : (ng a = ng b ∧ nm a = nm b) ∨ (ng a = ng b ∧ nm a ≠ nm b) ∨ ng a ≠ ng b := by
    by_cases h : ng a = ng b
    · by_cases h2 : nm a = nm b
      · exact .inl ⟨h, h2⟩
      · exact .inr (.inl ⟨h, h2⟩)
    · exact .inr (.inr h)
  rcases hcase with ⟨e1, e2⟩ | ⟨e1, e2⟩ | e1
  · rw [show decide (a = b) = decide (a.den = b.den) from by by_cases hd : a.den = b.den; rw [decide_eq_true hd, decide_eq_true (rat_parts e1 e2 hd)]; rw [decide_eq_false hd, decide_eq_false (fun h => hd (by rw [h]))]]
    have q1 : (ng a == ng b) = true := by simp [e1]
    have E1 : Hid (decide (limbs (nm a) = limbs (nm b)) = true) := Lib.hid (decide_eq_true (by rw [e2]))
    have E2 : Hid (decide (limbs a.den = limbs b.den) = decide (a.den = b.den)) := Lib.hid (by simp only [limbs_inj])
    clear e2
    clear e1
    go_enter Try.func34, Try.ntmps34
    go_wp2_with fail
    have hbN : Below w.heap.size w ((w.alloc (.cells #[.bool s1, .slice p1 i1 c1, .slice o1 j1 d1] 24)).alloc (.cells #[.bool s2, .slice p2 i2 c2, .slice o2 j2 d2] 24)) := allocs_below [(.cells #[.bool s1, .slice p1 i1 c1, .slice o1 j1 d1] 24), (.cells #[.bool s2, .slice p2 i2 c2, .slice o2 j2 d2] 24)] w
    have Q0 : Bx 24 ((w.alloc (.cells #[.bool s1, .slice p1 i1 c1, .slice o1 j1 d1] 24)).alloc (.cells #[.bool s2, .slice p2 i2 c2, .slice o2 j2 d2] 24)) (w.heap.size) [.bool s1, .slice p1 i1 c1, .slice o1 j1 d1] := allocs_at [(.cells #[.bool s1, .slice p1 i1 c1, .slice o1 j1 d1] 24), (.cells #[.bool s2, .slice p2 i2 c2, .slice o2 j2 d2] 24)] w 0 _ rfl
    have Q1 : Bx 24 ((w.alloc (.cells #[.bool s1, .slice p1 i1 c1, .slice o1 j1 d1] 24)).alloc (.cells #[.bool s2, .slice p2 i2 c2, .slice o2 j2 d2] 24)) (w.heap.size + 1) [.bool s2, .slice p2 i2 c2, .slice o2 j2 d2] := allocs_at [(.cells #[.bool s1, .slice p1 i1 c1, .slice o1 j1 d1] 24), (.cells #[.bool s2, .slice p2 i2 c2, .slice o2 j2 d2] 24)] w 1 _ rfl
    generalize ((w.alloc (.cells #[.bool s1, .slice p1 i1 c1, .slice o1 j1 d1] 24)).alloc (.cells #[.bool s2, .slice p2 i2 c2, .slice o2 j2 d2] 24)) = w1 at *
    have hbT := hbN
    replace h1 := h1.below hbN (Nat.le_refl _)
    replace h2 := h2.below hbN (Nat.le_refl _)
    have sz_w1 := hbN.size
    clear hbN
    have hS : Hid (∀ w', Below w1.heap.size w1 w' → w'.cell? ⟨w.heap.size, 0, none⟩ = some (.bool s1) ∧ w'.cell? ⟨w.heap.size, 1, none⟩ = some (.slice p1 i1 c1) ∧ w'.cell? ⟨w.heap.size, 2, none⟩ = some (.slice o1 j1 d1) ∧ w'.cell? ⟨w.heap.size + 1, 0, none⟩ = some (.bool s2) ∧ w'.cell? ⟨w.heap.size + 1, 1, none⟩ = some (.slice p2 i2 c2) ∧ w'.cell? ⟨w.heap.size + 1, 2, none⟩ = some (.slice o2 j2 d2)) := Lib.hid (fun w' hb => by
      have h0 := Q0.below hb (Nat.le_refl _)
      have h1 := Q1.below hb (Nat.le_refl _)
      exact ⟨h0.at 0 rfl, h0.at 1 rfl, h0.at 2 rfl, h1.at 0 rfl, h1.at 1 rfl, h1.at 2 rfl⟩)
    have b0 : Below w1.heap.size w1 w1.drew := (Below.refl _ _).drew
    go_cut [5, 6] (fun s5 s6 wx => Lets2 w1 (a) (b) s5 s6 wx)
    case first =>
      go_region_held3 (fun w' => w'.cell? ⟨w.heap.size, 0, none⟩ = some (.bool s1) ∧ w'.cell? ⟨w.heap.size, 1, none⟩ = some (.slice p1 i1 c1) ∧ w'.cell? ⟨w.heap.size, 2, none⟩ = some (.slice o1 j1 d1) ∧ w'.cell? ⟨w.heap.size + 1, 0, none⟩ = some (.bool s2) ∧ w'.cell? ⟨w.heap.size + 1, 1, none⟩ = some (.slice p2 i2 c2) ∧ w'.cell? ⟨w.heap.size + 1, 2, none⟩ = some (.slice o2 j2 d2))
        ((refine hS.out _ ?_; repeat (first | with_reducible assumption | (with_reducible refine Below.al ?_) | (with_reducible refine Below.dr ?_) | (with_reducible exact Below.refl _ _) | ((with_reducible refine Below.st ?_ ?_); rotate_left; omega))))
        (first
          | ((go_simp; go_at_call 27; (with_reducible refine (r2Norm _ _ a ((h1.below (by repeat (first | with_reducible assumption | (with_reducible refine Below.al ?_) | (with_reducible refine Below.dr ?_) | (with_reducible exact Below.refl _ _))) (Nat.le_refl _)).more (by omega))).mono ?_); rintro e x2 ⟨u1, rfl, t1, e2⟩; obtain ⟨s3, a5, i5, c5, a6, i6, c6, rfl⟩ := t1.open; have b1 : Below w1.heap.size w1 x2 := bthen (by repeat (first | with_reducible assumption | (with_reducible refine Below.al ?_) | (with_reducible refine Below.dr ?_) | (with_reducible exact Below.refl _ _))) e2; obtain ⟨hc2, hf2⟩ := bcell e2; have hz2 := e2.size; (try simp at hz2); (try have : w1.heap.size < x2.heap.size := by omega); (try have : w1.heap.size + 1 < x2.heap.size := by omega)))
          | ((go_simp; go_at_call 27; (with_reducible refine (r2Norm _ _ b ((h2.below (by repeat (first | with_reducible assumption | (with_reducible refine Below.al ?_) | (with_reducible refine Below.dr ?_) | (with_reducible exact Below.refl _ _))) (Nat.le_refl _)).more (by omega))).mono ?_); rintro e x3 ⟨u2, rfl, t2, e3⟩; obtain ⟨s4, a7, i7, c7, a8, i8, c8, rfl⟩ := t2.open; have b2 : Below w1.heap.size w1 x3 := bthen (by repeat (first | with_reducible assumption | (with_reducible refine Below.al ?_) | (with_reducible refine Below.dr ?_) | (with_reducible exact Below.refl _ _))) e3; obtain ⟨hc3, hf3⟩ := bcell e3; have hz3 := e3.size; (try simp at hz3); (try have : x2.heap.size < x3.heap.size := by omega); (try have : x2.heap.size + 1 < x3.heap.size := by omega); (try have : w1.heap.size < x3.heap.size := by omega); (try have : w1.heap.size + 1 < x3.heap.size := by omega))))
      · go_wp2_with fail
        go_meet
        refine ⟨_, _, [.bool s3, .slice a5 i5 c5, .slice a6 i6 c6], [.bool s4, .slice a7 i7 c7, .slice a8 i8 c8], rfl, rfl, by omega, by omega, by omega, ?_, ?_, ?_, ?_, ?_⟩
        · exact (Below.al (Below.al b2))
        · exact (Bx.newE (by first | omega | (simp; done) | (simp; omega))).al
        · exact (t1.keeps (((Keeps.thru e3 (Keeps.refl _ _ _) (by first | omega | (simp; done) | (simp; omega))).al (by first | omega | (simp; done) | (simp; omega))).al (by first | omega | (simp; done) | (simp; omega)))).mono (by first | omega | (simp; done) | (simp; omega))
        · exact (Bx.newE (by first | omega | (simp; done) | (simp; omega)))
        · exact (t2.keeps (((Keeps.refl _ _ _).al (by first | omega | (simp; done) | (simp; omega))).al (by first | omega | (simp; done) | (simp; omega)))).mono (by first | omega | (simp; done) | (simp; omega))
      · go_wp2_with fail
        go_meet
        refine ⟨_, _, [.bool s3, .slice a5 i5 c5, .slice a6 i6 c6], [.bool s4, .slice a7 i7 c7, .slice a8 i8 c8], rfl, rfl, by omega, by omega, by omega, ?_, ?_, ?_, ?_, ?_⟩
        · exact (Below.al (Below.al b2))
        · exact (Bx.newE (by first | omega | (simp; done) | (simp; omega)))
        · exact (t1.keeps (((Keeps.thru e3 (Keeps.refl _ _ _) (by first | omega | (simp; done) | (simp; omega))).al (by first | omega | (simp; done) | (simp; omega))).al (by first | omega | (simp; done) | (simp; omega)))).mono (by first | omega | (simp; done) | (simp; omega))
        · exact (Bx.newE (by first | omega | (simp; done) | (simp; omega))).al
        · exact (t2.keeps (((Keeps.refl _ _ _).al (by first | omega | (simp; done) | (simp; omega))).al (by first | omega | (simp; done) | (simp; omega)))).mono (by first | omega | (simp; done) | (simp; omega))
      · go_wp2_with fail
        go_meet
        refine ⟨_, _, [.bool s3, .slice a5 i5 c5, .slice a6 i6 c6], [.bool s4, .slice a7 i7 c7, .slice a8 i8 c8], rfl, rfl, by omega, by omega, by omega, ?_, ?_, ?_, ?_, ?_⟩
        · exact (Below.al (Below.st (Below.st (Below.st b2 (by omega)) (by omega)) (by omega)))
        · exact (Bx.stored3 (Bx.thru e3 (Bx.newE (by first | omega | (simp; done) | (simp; omega))))).al
        · exact (t1.keeps (((((Keeps.thru e3 ((Keeps.refl _ _ _).al (by first | omega | (simp; done) | (simp; omega))) (by first | omega | (simp; done) | (simp; omega))).st (by first | (left; omega) | (left; simp; done) | (left; simp; omega) | (right; omega) | (right; simp; omega))).st (by first | (left; omega) | (left; simp; done) | (left; simp; omega) | (right; omega) | (right; simp; omega))).st (by first | (left; omega) | (left; simp; done) | (left; simp; omega) | (right; omega) | (right; simp; omega))).al (by first | omega | (simp; done) | (simp; omega)))).mono (by first | omega | (simp; done) | (simp; omega))
        · exact (Bx.newE (by first | omega | (simp; done) | (simp; omega)))
        · exact (t2.keeps (((((Keeps.refl _ _ _).st (by first | (left; omega) | (left; simp; done) | (left; simp; omega) | (right; omega) | (right; simp; omega))).st (by first | (left; omega) | (left; simp; done) | (left; simp; omega) | (right; omega) | (right; simp; omega))).st (by first | (left; omega) | (left; simp; done) | (left; simp; omega) | (right; omega) | (right; simp; omega))).al (by first | omega | (simp; done) | (simp; omega)))).mono (by first | omega | (simp; done) | (simp; omega))
      · go_wp2_with fail
        go_meet
        refine ⟨_, _, [.bool s3, .slice a5 i5 c5, .slice a6 i6 c6], [.bool s4, .slice a7 i7 c7, .slice a8 i8 c8], rfl, rfl, by omega, by omega, by omega, ?_, ?_, ?_, ?_, ?_⟩
        · exact (Below.st (Below.st (Below.st (Below.st (Below.st (Below.st b2 (by omega)) (by omega)) (by omega)) (by omega)) (by omega)) (by omega))
        · exact ((((Bx.stored3 (Bx.thru e3 (Bx.newE (by first | omega | (simp; done) | (simp; omega))).al)).ot (by omega)).ot (by omega)).ot (by omega))
        · exact (t1.keeps (((((((Keeps.thru e3 (((Keeps.refl _ _ _).al (by first | omega | (simp; done) | (simp; omega))).al (by first | omega | (simp; done) | (simp; omega))) (by first | omega | (simp; done) | (simp; omega))).st (by first | (left; omega) | (left; simp; done) | (left; simp; omega) | (right; omega) | (right; simp; omega))).st (by first | (left; omega) | (left; simp; done) | (left; simp; omega) | (right; omega) | (right; simp; omega))).st (by first | (left; omega) | (left; simp; done) | (left; simp; omega) | (right; omega) | (right; simp; omega))).st (by first | (left; omega) | (left; simp; done) | (left; simp; omega) | (right; omega) | (right; simp; omega))).st (by first | (left; omega) | (left; simp; done) | (left; simp; omega) | (right; omega) | (right; simp; omega))).st (by first | (left; omega) | (left; simp; done) | (left; simp; omega) | (right; omega) | (right; simp; omega)))).mono (by first | omega | (simp; done) | (simp; omega))
        · exact (Bx.stored3 ((((Bx.thru e3 (Bx.newE (by first | omega | (simp; done) | (simp; omega)))).ot (by omega)).ot (by omega)).ot (by omega)))
        · exact (t2.keeps (((((((Keeps.refl _ _ _).st (by first | (left; omega) | (left; simp; done) | (left; simp; omega) | (right; omega) | (right; simp; omega))).st (by first | (left; omega) | (left; simp; done) | (left; simp; omega) | (right; omega) | (right; simp; omega))).st (by first | (left; omega) | (left; simp; done) | (left; simp; omega) | (right; omega) | (right; simp; omega))).st (by first | (left; omega) | (left; simp; done) | (left; simp; omega) | (right; omega) | (right; simp; omega))).st (by first | (left; omega) | (left; simp; done) | (left; simp; omega) | (right; omega) | (right; simp; omega))).st (by first | (left; omega) | (left; simp; done) | (left; simp; omega) | (right; omega) | (right; simp; omega)))).mono (by first | omega | (simp; done) | (simp; omega))
      · go_wp2_with fail
        go_meet
        refine ⟨_, _, [.bool s3, .slice a5 i5 c5, .slice a6 i6 c6], [.bool s4, .slice a7 i7 c7, .slice a8 i8 c8], rfl, rfl, by omega, by omega, by omega, ?_, ?_, ?_, ?_, ?_⟩
        · exact (Below.al (Below.st (Below.st (Below.st b2 (by omega)) (by omega)) (by omega)))
        · exact (Bx.newE (by first | omega | (simp; done) | (simp; omega)))
        · exact (t1.keeps (((((Keeps.thru e3 ((Keeps.refl _ _ _).al (by first | omega | (simp; done) | (simp; omega))) (by first | omega | (simp; done) | (simp; omega))).st (by first | (left; omega) | (left; simp; done) | (left; simp; omega) | (right; omega) | (right; simp; omega))).st (by first | (left; omega) | (left; simp; done) | (left; simp; omega) | (right; omega) | (right; simp; omega))).st (by first | (left; omega) | (left; simp; done) | (left; simp; omega) | (right; omega) | (right; simp; omega))).al (by first | omega | (simp; done) | (simp; omega)))).mono (by first | omega | (simp; done) | (simp; omega))
        · exact (Bx.stored3 (Bx.thru e3 (Bx.newE (by first | omega | (simp; done) | (simp; omega))))).al
        · exact (t2.keeps (((((Keeps.refl _ _ _).st (by first | (left; omega) | (left; simp; done) | (left; simp; omega) | (right; omega) | (right; simp; omega))).st (by first | (left; omega) | (left; simp; done) | (left; simp; omega) | (right; omega) | (right; simp; omega))).st (by first | (left; omega) | (left; simp; done) | (left; simp; omega) | (right; omega) | (right; simp; omega))).al (by first | omega | (simp; done) | (simp; omega)))).mono (by first | omega | (simp; done) | (simp; omega))
      · go_wp2_with fail
        go_meet
        refine ⟨_, _, [.bool s3, .slice a5 i5 c5, .slice a6 i6 c6], [.bool s4, .slice a7 i7 c7, .slice a8 i8 c8], rfl, rfl, by omega, by omega, by omega, ?_, ?_, ?_, ?_, ?_⟩
        · exact (Below.st (Below.st (Below.st (Below.st (Below.st (Below.st b2 (by omega)) (by omega)) (by omega)) (by omega)) (by omega)) (by omega))
        · exact ((((Bx.stored3 (Bx.thru e3 (Bx.newE (by first | omega | (simp; done) | (simp; omega))))).ot (by omega)).ot (by omega)).ot (by omega))
        · exact (t1.keeps (((((((Keeps.thru e3 (((Keeps.refl _ _ _).al (by first | omega | (simp; done) | (simp; omega))).al (by first | omega | (simp; done) | (simp; omega))) (by first | omega | (simp; done) | (simp; omega))).st (by first | (left; omega) | (left; simp; done) | (left; simp; omega) | (right; omega) | (right; simp; omega))).st (by first | (left; omega) | (left; simp; done) | (left; simp; omega) | (right; omega) | (right; simp; omega))).st (by first | (left; omega) | (left; simp; done) | (left; simp; omega) | (right; omega) | (right; simp; omega))).st (by first | (left; omega) | (left; simp; done) | (left; simp; omega) | (right; omega) | (right; simp; omega))).st (by first | (left; omega) | (left; simp; done) | (left; simp; omega) | (right; omega) | (right; simp; omega))).st (by first | (left; omega) | (left; simp; done) | (left; simp; omega) | (right; omega) | (right; simp; omega)))).mono (by first | omega | (simp; done) | (simp; omega))
        · exact (Bx.stored3 ((((Bx.thru e3 (Bx.newE (by first | omega | (simp; done) | (simp; omega))).al).ot (by omega)).ot (by omega)).ot (by omega)))
        · exact (t2.keeps (((((((Keeps.refl _ _ _).st (by first | (left; omega) | (left; simp; done) | (left; simp; omega) | (right; omega) | (right; simp; omega))).st (by first | (left; omega) | (left; simp; done) | (left; simp; omega) | (right; omega) | (right; simp; omega))).st (by first | (left; omega) | (left; simp; done) | (left; simp; omega) | (right; omega) | (right; simp; omega))).st (by first | (left; omega) | (left; simp; done) | (left; simp; omega) | (right; omega) | (right; simp; omega))).st (by first | (left; omega) | (left; simp; done) | (left; simp; omega) | (right; omega) | (right; simp; omega))).st (by first | (left; omega) | (left; simp; done) | (left; simp; omega) | (right; omega) | (right; simp; omega)))).mono (by first | omega | (simp; done) | (simp; omega))
      · go_wp2_with fail
        go_meet
        refine ⟨_, _, [.bool s3, .slice a5 i5 c5, .slice a6 i6 c6], [.bool s4, .slice a7 i7 c7, .slice a8 i8 c8], rfl, rfl, by omega, by omega, by omega, ?_, ?_, ?_, ?_, ?_⟩
        · exact (Below.al (Below.st (Below.st (Below.st b2 (by omega)) (by omega)) (by omega)))
        · exact (Bx.stored3 (Bx.thru e3 (Bx.thru e2 (Bx.newE (by first | omega | (simp; done) | (simp; omega))).dr))).al
        · exact (t1.keeps (((((Keeps.thru e3 (Keeps.refl _ _ _) (by first | omega | (simp; done) | (simp; omega))).st (by first | (left; omega) | (left; simp; done) | (left; simp; omega) | (right; omega) | (right; simp; omega))).st (by first | (left; omega) | (left; simp; done) | (left; simp; omega) | (right; omega) | (right; simp; omega))).st (by first | (left; omega) | (left; simp; done) | (left; simp; omega) | (right; omega) | (right; simp; omega))).al (by first | omega | (simp; done) | (simp; omega)))).mono (by first | omega | (simp; done) | (simp; omega))
        · exact (Bx.newE (by first | omega | (simp; done) | (simp; omega)))
        · exact (t2.keeps (((((Keeps.refl _ _ _).st (by first | (left; omega) | (left; simp; done) | (left; simp; omega) | (right; omega) | (right; simp; omega))).st (by first | (left; omega) | (left; simp; done) | (left; simp; omega) | (right; omega) | (right; simp; omega))).st (by first | (left; omega) | (left; simp; done) | (left; simp; omega) | (right; omega) | (right; simp; omega))).al (by first | omega | (simp; done) | (simp; omega)))).mono (by first | omega | (simp; done) | (simp; omega))
      · go_wp2_with fail
        go_meet
        refine ⟨_, _, [.bool s3, .slice a5 i5 c5, .slice a6 i6 c6], [.bool s4, .slice a7 i7 c7, .slice a8 i8 c8], rfl, rfl, by omega, by omega, by omega, ?_, ?_, ?_, ?_, ?_⟩
        · exact (Below.st (Below.st (Below.st (Below.st (Below.st (Below.st b2 (by omega)) (by omega)) (by omega)) (by omega)) (by omega)) (by omega))
        · exact ((((Bx.stored3 (Bx.thru e3 (Bx.thru e2 (Bx.newE (by first | omega | (simp; done) | (simp; omega))).dr).al)).ot (by omega)).ot (by omega)).ot (by omega))
        · exact (t1.keeps (((((((Keeps.thru e3 ((Keeps.refl _ _ _).al (by first | omega | (simp; done) | (simp; omega))) (by first | omega | (simp; done) | (simp; omega))).st (by first | (left; omega) | (left; simp; done) | (left; simp; omega) | (right; omega) | (right; simp; omega))).st (by first | (left; omega) | (left; simp; done) | (left; simp; omega) | (right; omega) | (right; simp; omega))).st (by first | (left; omega) | (left; simp; done) | (left; simp; omega) | (right; omega) | (right; simp; omega))).st (by first | (left; omega) | (left; simp; done) | (left; simp; omega) | (right; omega) | (right; simp; omega))).st (by first | (left; omega) | (left; simp; done) | (left; simp; omega) | (right; omega) | (right; simp; omega))).st (by first | (left; omega) | (left; simp; done) | (left; simp; omega) | (right; omega) | (right; simp; omega)))).mono (by first | omega | (simp; done) | (simp; omega))
        · exact (Bx.stored3 ((((Bx.thru e3 (Bx.newE (by first | omega | (simp; done) | (simp; omega)))).ot (by omega)).ot (by omega)).ot (by omega)))
        · exact (t2.keeps (((((((Keeps.refl _ _ _).st (by first | (left; omega) | (left; simp; done) | (left; simp; omega) | (right; omega) | (right; simp; omega))).st (by first | (left; omega) | (left; simp; done) | (left; simp; omega) | (right; omega) | (right; simp; omega))).st (by first | (left; omega) | (left; simp; done) | (left; simp; omega) | (right; omega) | (right; simp; omega))).st (by first | (left; omega) | (left; simp; done) | (left; simp; omega) | (right; omega) | (right; simp; omega))).st (by first | (left; omega) | (left; simp; done) | (left; simp; omega) | (right; omega) | (right; simp; omega))).st (by first | (left; omega) | (left; simp; done) | (left; simp; omega) | (right; omega) | (right; simp; omega)))).mono (by first | omega | (simp; done) | (simp; omega))
      · go_wp2_with fail
        go_meet
        refine ⟨_, _, [.bool s3, .slice a5 i5 c5, .slice a6 i6 c6], [.bool s4, .slice a7 i7 c7, .slice a8 i8 c8], rfl, rfl, by omega, by omega, by omega, ?_, ?_, ?_, ?_, ?_⟩
        · exact (Below.st (Below.st (Below.st (Below.st (Below.st (Below.st b2 (by omega)) (by omega)) (by omega)) (by omega)) (by omega)) (by omega))
        · exact ((((Bx.stored3 (Bx.thru e3 (Bx.thru e2 (Bx.newE (by first | omega | (simp; done) | (simp; omega))).al.dr))).ot (by omega)).ot (by omega)).ot (by omega))
        · exact (t1.keeps (((((((Keeps.thru e3 (Keeps.refl _ _ _) (by first | omega | (simp; done) | (simp; omega))).st (by first | (left; omega) | (left; simp; done) | (left; simp; omega) | (right; omega) | (right; simp; omega))).st (by first | (left; omega) | (left; simp; done) | (left; simp; omega) | (right; omega) | (right; simp; omega))).st (by first | (left; omega) | (left; simp; done) | (left; simp; omega) | (right; omega) | (right; simp; omega))).st (by first | (left; omega) | (left; simp; done) | (left; simp; omega) | (right; omega) | (right; simp; omega))).st (by first | (left; omega) | (left; simp; done) | (left; simp; omega) | (right; omega) | (right; simp; omega))).st (by first | (left; omega) | (left; simp; done) | (left; simp; omega) | (right; omega) | (right; simp; omega)))).mono (by first | omega | (simp; done) | (simp; omega))
        · exact (Bx.stored3 ((((Bx.thru e3 (Bx.thru e2 (Bx.newE (by first | omega | (simp; done) | (simp; omega))).dr)).ot (by omega)).ot (by omega)).ot (by omega)))
        · exact (t2.keeps (((((((Keeps.refl _ _ _).st (by first | (left; omega) | (left; simp; done) | (left; simp; omega) | (right; omega) | (right; simp; omega))).st (by first | (left; omega) | (left; simp; done) | (left; simp; omega) | (right; omega) | (right; simp; omega))).st (by first | (left; omega) | (left; simp; done) | (left; simp; omega) | (right; omega) | (right; simp; omega))).st (by first | (left; omega) | (left; simp; done) | (left; simp; omega) | (right; omega) | (right; simp; omega))).st (by first | (left; omega) | (left; simp; done) | (left; simp; omega) | (right; omega) | (right; simp; omega))).st (by first | (left; omega) | (left; simp; done) | (left; simp; omega) | (right; omega) | (right; simp; omega)))).mono (by first | omega | (simp; done) | (simp; omega))
      · go_wp2_with fail
        go_meet
        refine ⟨_, _, [.bool s3, .slice a5 i5 c5, .slice a6 i6 c6], [.bool s4, .slice a7 i7 c7, .slice a8 i8 c8], rfl, rfl, by omega, by omega, by omega, ?_, ?_, ?_, ?_, ?_⟩
        · exact (Below.al (Below.st (Below.st (Below.st b2 (by omega)) (by omega)) (by omega)))
        · exact (Bx.newE (by first | omega | (simp; done) | (simp; omega)))
        · exact (t1.keeps (((((Keeps.thru e3 (Keeps.refl _ _ _) (by first | omega | (simp; done) | (simp; omega))).st (by first | (left; omega) | (left; simp; done) | (left; simp; omega) | (right; omega) | (right; simp; omega))).st (by first | (left; omega) | (left; simp; done) | (left; simp; omega) | (right; omega) | (right; simp; omega))).st (by first | (left; omega) | (left; simp; done) | (left; simp; omega) | (right; omega) | (right; simp; omega))).al (by first | omega | (simp; done) | (simp; omega)))).mono (by first | omega | (simp; done) | (simp; omega))
        · exact (Bx.stored3 (Bx.thru e3 (Bx.thru e2 (Bx.newE (by first | omega | (simp; done) | (simp; omega))).dr))).al
        · exact (t2.keeps (((((Keeps.refl _ _ _).st (by first | (left; omega) | (left; simp; done) | (left; simp; omega) | (right; omega) | (right; simp; omega))).st (by first | (left; omega) | (left; simp; done) | (left; simp; omega) | (right; omega) | (right; simp; omega))).st (by first | (left; omega) | (left; simp; done) | (left; simp; omega) | (right; omega) | (right; simp; omega))).al (by first | omega | (simp; done) | (simp; omega)))).mono (by first | omega | (simp; done) | (simp; omega))
      · go_wp2_with fail
        go_meet
        refine ⟨_, _, [.bool s3, .slice a5 i5 c5, .slice a6 i6 c6], [.bool s4, .slice a7 i7 c7, .slice a8 i8 c8], rfl, rfl, by omega, by omega, by omega, ?_, ?_, ?_, ?_, ?_⟩
        · exact (Below.st (Below.st (Below.st (Below.st (Below.st (Below.st b2 (by omega)) (by omega)) (by omega)) (by omega)) (by omega)) (by omega))
        · exact ((((Bx.stored3 (Bx.thru e3 (Bx.newE (by first | omega | (simp; done) | (simp; omega))))).ot (by omega)).ot (by omega)).ot (by omega))
        · exact (t1.keeps (((((((Keeps.thru e3 ((Keeps.refl _ _ _).al (by first | omega | (simp; done) | (simp; omega))) (by first | omega | (simp; done) | (simp; omega))).st (by first | (left; omega) | (left; simp; done) | (left; simp; omega) | (right; omega) | (right; simp; omega))).st (by first | (left; omega) | (left; simp; done) | (left; simp; omega) | (right; omega) | (right; simp; omega))).st (by first | (left; omega) | (left; simp; done) | (left; simp; omega) | (right; omega) | (right; simp; omega))).st (by first | (left; omega) | (left; simp; done) | (left; simp; omega) | (right; omega) | (right; simp; omega))).st (by first | (left; omega) | (left; simp; done) | (left; simp; omega) | (right; omega) | (right; simp; omega))).st (by first | (left; omega) | (left; simp; done) | (left; simp; omega) | (right; omega) | (right; simp; omega)))).mono (by first | omega | (simp; done) | (simp; omega))
        · exact (Bx.stored3 ((((Bx.thru e3 (Bx.thru e2 (Bx.newE (by first | omega | (simp; done) | (simp; omega))).dr).al).ot (by omega)).ot (by omega)).ot (by omega)))
        · exact (t2.keeps (((((((Keeps.refl _ _ _).st (by first | (left; omega) | (left; simp; done) | (left; simp; omega) | (right; omega) | (right; simp; omega))).st (by first | (left; omega) | (left; simp; done) | (left; simp; omega) | (right; omega) | (right; simp; omega))).st (by first | (left; omega) | (left; simp; done) | (left; simp; omega) | (right; omega) | (right; simp; omega))).st (by first | (left; omega) | (left; simp; done) | (left; simp; omega) | (right; omega) | (right; simp; omega))).st (by first | (left; omega) | (left; simp; done) | (left; simp; omega) | (right; omega) | (right; simp; omega))).st (by first | (left; omega) | (left; simp; done) | (left; simp; omega) | (right; omega) | (right; simp; omega)))).mono (by first | omega | (simp; done) | (simp; omega))
      · go_wp2_with fail
        go_meet
        refine ⟨_, _, [.bool s3, .slice a5 i5 c5, .slice a6 i6 c6], [.bool s4, .slice a7 i7 c7, .slice a8 i8 c8], rfl, rfl, by omega, by omega, by omega, ?_, ?_, ?_, ?_, ?_⟩
        · exact (Below.st (Below.st (Below.st (Below.st (Below.st (Below.st b2 (by omega)) (by omega)) (by omega)) (by omega)) (by omega)) (by omega))
        · exact ((((Bx.stored3 (Bx.thru e3 (Bx.thru e2 (Bx.newE (by first | omega | (simp; done) | (simp; omega))).dr))).ot (by omega)).ot (by omega)).ot (by omega))
        · exact (t1.keeps (((((((Keeps.thru e3 (Keeps.refl _ _ _) (by first | omega | (simp; done) | (simp; omega))).st (by first | (left; omega) | (left; simp; done) | (left; simp; omega) | (right; omega) | (right; simp; omega))).st (by first | (left; omega) | (left; simp; done) | (left; simp; omega) | (right; omega) | (right; simp; omega))).st (by first | (left; omega) | (left; simp; done) | (left; simp; omega) | (right; omega) | (right; simp; omega))).st (by first | (left; omega) | (left; simp; done) | (left; simp; omega) | (right; omega) | (right; simp; omega))).st (by first | (left; omega) | (left; simp; done) | (left; simp; omega) | (right; omega) | (right; simp; omega))).st (by first | (left; omega) | (left; simp; done) | (left; simp; omega) | (right; omega) | (right; simp; omega)))).mono (by first | omega | (simp; done) | (simp; omega))
        · exact (Bx.stored3 ((((Bx.thru e3 (Bx.thru e2 (Bx.newE (by first | omega | (simp; done) | (simp; omega))).al.dr)).ot (by omega)).ot (by omega)).ot (by omega)))
        · exact (t2.keeps (((((((Keeps.refl _ _ _).st (by first | (left; omega) | (left; simp; done) | (left; simp; omega) | (right; omega) | (right; simp; omega))).st (by first | (left; omega) | (left; simp; done) | (left; simp; omega) | (right; omega) | (right; simp; omega))).st (by first | (left; omega) | (left; simp; done) | (left; simp; omega) | (right; omega) | (right; simp; omega))).st (by first | (left; omega) | (left; simp; done) | (left; simp; omega) | (right; omega) | (right; simp; omega))).st (by first | (left; omega) | (left; simp; done) | (left; simp; omega) | (right; omega) | (right; simp; omega))).st (by first | (left; omega) | (left; simp; done) | (left; simp; omega) | (right; omega) | (right; simp; omega)))).mono (by first | omega | (simp; done) | (simp; omega))
    case rest =>
      obtain ⟨g5, g6, l5, l6, rfl, rfl, hg5, hg6, hg56, hbN, Qx5, tx5, Qx6, tx6⟩ := hcut
      clear hS b0
      replace hbT := bthen hbT hbN
      replace h1 := h1.below hbN (Nat.le_refl _)
      replace h2 := h2.below hbN (Nat.le_refl _)
      replace Q0 := Q0.below hbN (Nat.le_refl _)
      replace Q1 := Q1.below hbN (Nat.le_refl _)
      have sz_wc := hbN.size
      clear hbN
      obtain ⟨p5, c5, o5, d5, QA, nA, dA⟩ := boxOpen Qx5 tx5
      obtain ⟨p6, c6, o6, d6, QB, nB, dB⟩ := boxOpen Qx6 tx6
      clear Qx5 tx5 Qx6 tx6 h1 h2
      have la := rs_nm a
      have lb := rs_nm b
      have ma := rs_den a
      have mb := rs_den b
      have kQA_0 := QA.at 0 rfl
      have kQA_1 := QA.at 1 rfl
      have kQA_2 := QA.at 2 rfl
      have kQB_0 := QB.at 0 rfl
      have kQB_1 := QB.at 1 rfl
      have kQB_2 := QB.at 2 rfl
      go_wp2_with fail
      refine (rlim wc _ _ _ _ _ _ nA nB (by omega) E1.out).mono ?_
      rintro e w3 ⟨rfl, hbN⟩
      replace hbT := bthen hbT hbN
      replace nA := nA.below hbN (Nat.le_refl _)
      replace dA := dA.below hbN (Nat.le_refl _)
      replace nB := nB.below hbN (Nat.le_refl _)
      replace dB := dB.below hbN (Nat.le_refl _)
      replace QA := QA.below hbN (Nat.le_refl _)
      replace QB := QB.below hbN (Nat.le_refl _)
      have sz_w3 := hbN.size
      clear hbN
      (try clear kQA_0); (try clear kQA_1); (try clear kQA_2); (try clear kQB_0); (try clear kQB_1); (try clear kQB_2)
      have kQA_0 := QA.at 0 rfl
      have kQA_1 := QA.at 1 rfl
      have kQA_2 := QA.at 2 rfl
      have kQB_0 := QB.at 0 rfl
      have kQB_1 := QB.at 1 rfl
      have kQB_2 := QB.at 2 rfl
      go_wp2_with fail
      refine (rlim w3 _ _ _ _ _ _ dA dB (by omega) E2.out).mono ?_
      rintro e w4 ⟨rfl, hbN⟩
      replace hbT := bthen hbT hbN
      replace nA := nA.below hbN (Nat.le_refl _)
      replace dA := dA.below hbN (Nat.le_refl _)
      replace nB := nB.below hbN (Nat.le_refl _)
      replace dB := dB.below hbN (Nat.le_refl _)
      replace QA := QA.below hbN (Nat.le_refl _)
      replace QB := QB.below hbN (Nat.le_refl _)
      have sz_w4 := hbN.size
      clear hbN
      (try clear kQA_0); (try clear kQA_1); (try clear kQA_2); (try clear kQB_0); (try clear kQB_1); (try clear kQB_2)
      generalize hdd : decide (a.den = b.den) = dd at *
      replace hdd := Lib.hid hdd
      go_wp2
      exact bodyPost_ret (v := .bool dd) (by simp [results, Try.results34, go_sem]) rfl ⟨by rw [hdd.out], hbT⟩
  · rw [show decide (a = b) = false from decide_eq_false (fun h => e2 (by rw [h]))]
    have q1 : (ng a == ng b) = true := by simp [e1]
    have E1 : Hid (decide (limbs (nm a) = limbs (nm b)) = false) := Lib.hid (decide_eq_false (fun h => e2 (limbs_inj.1 h)))
    have E2 : Hid (decide (limbs a.den = limbs b.den) = decide (a.den = b.den)) := Lib.hid (by simp only [limbs_inj])
    clear e2
    clear e1
    go_enter Try.func34, Try.ntmps34
    go_wp2_with fail
    have hbN : Below w.heap.size w ((w.alloc (.cells #[.bool s1, .slice p1 i1 c1, .slice o1 j1 d1] 24)).alloc (.cells #[.bool s2, .slice p2 i2 c2, .slice o2 j2 d2] 24)) := allocs_below [(.cells #[.bool s1, .slice p1 i1 c1, .slice o1 j1 d1] 24), (.cells #[.bool s2, .slice p2 i2 c2, .slice o2 j2 d2] 24)] w
    have Q3 : Bx 24 ((w.alloc (.cells #[.bool s1, .slice p1 i1 c1, .slice o1 j1 d1] 24)).alloc (.cells #[.bool s2, .slice p2 i2 c2, .slice o2 j2 d2] 24)) (w.heap.size) [.bool s1, .slice p1 i1 c1, .slice o1 j1 d1] := allocs_at [(.cells #[.bool s1, .slice p1 i1 c1, .slice o1 j1 d1] 24), (.cells #[.bool s2, .slice p2 i2 c2, .slice o2 j2 d2] 24)] w 0 _ rfl
    have Q4 : Bx 24 ((w.alloc (.cells #[.bool s1, .slice p1 i1 c1, .slice o1 j1 d1] 24)).alloc (.cells #[.bool s2, .slice p2 i2 c2, .slice o2 j2 d2] 24)) (w.heap.size + 1) [.bool s2, .slice p2 i2 c2, .slice o2 j2 d2] := allocs_at [(.cells #[.bool s1, .slice p1 i1 c1, .slice o1 j1 d1] 24), (.cells #[.bool s2, .slice p2 i2 c2, .slice o2 j2 d2] 24)] w 1 _ rfl
    generalize ((w.alloc (.cells #[.bool s1, .slice p1 i1 c1, .slice o1 j1 d1] 24)).alloc (.cells #[.bool s2, .slice p2 i2 c2, .slice o2 j2 d2] 24)) = w1 at *
    have hbT := hbN
    replace h1 := h1.below hbN (Nat.le_refl _)
    replace h2 := h2.below hbN (Nat.le_refl _)
    have sz_w1 := hbN.size
    clear hbN
    have hS : Hid (∀ w', Below w1.heap.size w1 w' → w'.cell? ⟨w.heap.size, 0, none⟩ = some (.bool s1) ∧ w'.cell? ⟨w.heap.size, 1, none⟩ = some (.slice p1 i1 c1) ∧ w'.cell? ⟨w.heap.size, 2, none⟩ = some (.slice o1 j1 d1) ∧ w'.cell? ⟨w.heap.size + 1, 0, none⟩ = some (.bool s2) ∧ w'.cell? ⟨w.heap.size + 1, 1, none⟩ = some (.slice p2 i2 c2) ∧ w'.cell? ⟨w.heap.size + 1, 2, none⟩ = some (.slice o2 j2 d2)) := Lib.hid (fun w' hb => by
      have h0 := Q3.below hb (Nat.le_refl _)
      have h1 := Q4.below hb (Nat.le_refl _)
      exact ⟨h0.at 0 rfl, h0.at 1 rfl, h0.at 2 rfl, h1.at 0 rfl, h1.at 1 rfl, h1.at 2 rfl⟩)
    have b0 : Below w1.heap.size w1 w1.drew := (Below.refl _ _).drew
    go_cut [5, 6] (fun s5 s6 wx => Lets2 w1 (a) (b) s5 s6 wx)
    case first =>
      go_region_held3 (fun w' => w'.cell? ⟨w.heap.size, 0, none⟩ = some (.bool s1) ∧ w'.cell? ⟨w.heap.size, 1, none⟩ = some (.slice p1 i1 c1) ∧ w'.cell? ⟨w.heap.size, 2, none⟩ = some (.slice o1 j1 d1) ∧ w'.cell? ⟨w.heap.size + 1, 0, none⟩ = some (.bool s2) ∧ w'.cell? ⟨w.heap.size + 1, 1, none⟩ = some (.slice p2 i2 c2) ∧ w'.cell? ⟨w.heap.size + 1, 2, none⟩ = some (.slice o2 j2 d2))
        ((refine hS.out _ ?_; repeat (first | with_reducible assumption | (with_reducible refine Below.al ?_) | (with_reducible refine Below.dr ?_) | (with_reducible exact Below.refl _ _) | ((with_reducible refine Below.st ?_ ?_); rotate_left; omega))))
        (first
          | ((go_simp; go_at_call 27; (with_reducible refine (r2Norm _ _ a ((h1.below (by repeat (first | with_reducible assumption | (with_reducible refine Below.al ?_) | (with_reducible refine Below.dr ?_) | (with_reducible exact Below.refl _ _))) (Nat.le_refl _)).more (by omega))).mono ?_); rintro e x2 ⟨u1, rfl, t1, e2⟩; obtain ⟨s3, a5, i5, c5, a6, i6, c6, rfl⟩ := t1.open; have b1 : Below w1.heap.size w1 x2 := bthen (by repeat (first | with_reducible assumption | (with_reducible refine Below.al ?_) | (with_reducible refine Below.dr ?_) | (with_reducible exact Below.refl _ _))) e2; obtain ⟨hc2, hf2⟩ := bcell e2; have hz2 := e2.size; (try simp at hz2); (try have : w1.heap.size < x2.heap.size := by omega); (try have : w1.heap.size + 1 < x2.heap.size := by omega)))
          | ((go_simp; go_at_call 27; (with_reducible refine (r2Norm _ _ b ((h2.below (by repeat (first | with_reducible assumption | (with_reducible refine Below.al ?_) | (with_reducible refine Below.dr ?_) | (with_reducible exact Below.refl _ _))) (Nat.le_refl _)).more (by omega))).mono ?_); rintro e x3 ⟨u2, rfl, t2, e3⟩; obtain ⟨s4, a7, i7, c7, a8, i8, c8, rfl⟩ := t2.open; have b2 : Below w1.heap.size w1 x3 := bthen (by repeat (first | with_reducible assumption | (with_reducible refine Below.al ?_) | (with_reducible refine Below.dr ?_) | (with_reducible exact Below.refl _ _))) e3; obtain ⟨hc3, hf3⟩ := bcell e3; have hz3 := e3.size; (try simp at hz3); (try have : x2.heap.size < x3.heap.size := by omega); (try have : x2.heap.size + 1 < x3.heap.size := by omega); (try have : w1.heap.size < x3.heap.size := by omega); (try have : w1.heap.size + 1 < x3.heap.size := by omega))))
      · go_wp2_with fail
        go_meet
        refine ⟨_, _, [.bool s3, .slice a5 i5 c5, .slice a6 i6 c6], [.bool s4, .slice a7 i7 c7, .slice a8 i8 c8], rfl, rfl, by omega, by omega, by omega, ?_, ?_, ?_, ?_, ?_⟩
        · exact (Below.al (Below.al b2))
        · exact (Bx.newE (by first | omega | (simp; done) | (simp; omega))).al
        · exact (t1.keeps (((Keeps.thru e3 (Keeps.refl _ _ _) (by first | omega | (simp; done) | (simp; omega))).al (by first | omega | (simp; done) | (simp; omega))).al (by first | omega | (simp; done) | (simp; omega)))).mono (by first | omega | (simp; done) | (simp; omega))
        · exact (Bx.newE (by first | omega | (simp; done) | (simp; omega)))
        · exact (t2.keeps (((Keeps.refl _ _ _).al (by first | omega | (simp; done) | (simp; omega))).al (by first | omega | (simp; done) | (simp; omega)))).mono (by first | omega | (simp; done) | (simp; omega))
      · go_wp2_with fail
        go_meet
        refine ⟨_, _, [.bool s3, .slice a5 i5 c5, .slice a6 i6 c6], [.bool s4, .slice a7 i7 c7, .slice a8 i8 c8], rfl, rfl, by omega, by omega, by omega, ?_, ?_, ?_, ?_, ?_⟩
        · exact (Below.al (Below.al b2))
        · exact (Bx.newE (by first | omega | (simp; done) | (simp; omega)))
        · exact (t1.keeps (((Keeps.thru e3 (Keeps.refl _ _ _) (by first | omega | (simp; done) | (simp; omega))).al (by first | omega | (simp; done) | (simp; omega))).al (by first | omega | (simp; done) | (simp; omega)))).mono (by first | omega | (simp; done) | (simp; omega))
        · exact (Bx.newE (by first | omega | (simp; done) | (simp; omega))).al
        · exact (t2.keeps (((Keeps.refl _ _ _).al (by first | omega | (simp; done) | (simp; omega))).al (by first | omega | (simp; done) | (simp; omega)))).mono (by first | omega | (simp; done) | (simp; omega))
      · go_wp2_with fail
        go_meet
        refine ⟨_, _, [.bool s3, .slice a5 i5 c5, .slice a6 i6 c6], [.bool s4, .slice a7 i7 c7, .slice a8 i8 c8], rfl, rfl, by omega, by omega, by omega, ?_, ?_, ?_, ?_, ?_⟩
        · exact (Below.al (Below.st (Below.st (Below.st b2 (by omega)) (by omega)) (by omega)))
        · exact (Bx.stored3 (Bx.thru e3 (Bx.newE (by first | omega | (simp; done) | (simp; omega))))).al
        · exact (t1.keeps (((((Keeps.thru e3 ((Keeps.refl _ _ _).al (by first | omega | (simp; done) | (simp; omega))) (by first | omega | (simp; done) | (simp; omega))).st (by first | (left; omega) | (left; simp; done) | (left; simp; omega) | (right; omega) | (right; simp; omega))).st (by first | (left; omega) | (left; simp; done) | (left; simp; omega) | (right; omega) | (right; simp; omega))).st (by first | (left; omega) | (left; simp; done) | (left; simp; omega) | (right; omega) | (right; simp; omega))).al (by first | omega | (simp; done) | (simp; omega)))).mono (by first | omega | (simp; done) | (simp; omega))
        · exact (Bx.newE (by first | omega | (simp; done) | (simp; omega)))
        · exact (t2.keeps (((((Keeps.refl _ _ _).st (by first | (left; omega) | (left; simp; done) | (left; simp; omega) | (right; omega) | (right; simp; omega))).st (by first | (left; omega) | (left; simp; done) | (left; simp; omega) | (right; omega) | (right; simp; omega))).st (by first | (left; omega) | (left; simp; done) | (left; simp; omega) | (right; omega) | (right; simp; omega))).al (by first | omega | (simp; done) | (simp; omega)))).mono (by first | omega | (simp; done) | (simp; omega))
      · go_wp2_with fail
        go_meet
        refine ⟨_, _, [.bool s3, .slice a5 i5 c5, .slice a6 i6 c6], [.bool s4, .slice a7 i7 c7, .slice a8 i8 c8], rfl, rfl, by omega, by omega, by omega, ?_, ?_, ?_, ?_, ?_⟩
        · exact (Below.st (Below.st (Below.st (Below.st (Below.st (Below.st b2 (by omega)) (by omega)) (by omega)) (by omega)) (by omega)) (by omega))
        · exact ((((Bx.stored3 (Bx.thru e3 (Bx.newE (by first | omega | (simp; done) | (simp; omega))).al)).ot (by omega)).ot (by omega)).ot (by omega))
        · exact (t1.keeps (((((((Keeps.thru e3 (((Keeps.refl _ _ _).al (by first | omega | (simp; done) | (simp; omega))).al (by first | omega | (simp; done) | (simp; omega))) (by first | omega | (simp; done) | (simp; omega))).st (by first | (left; omega) | (left; simp; done) | (left; simp; omega) | (right; omega) | (right; simp; omega))).st (by first | (left; omega) | (left; simp; done) | (left; simp; omega) | (right; omega) | (right; simp; omega))).st (by first | (left; omega) | (left; simp; done) | (left; simp; omega) | (right; omega) | (right; simp; omega))).st (by first | (left; omega) | (left; simp; done) | (left; simp; omega) | (right; omega) | (right; simp; omega))).st (by first | (left; omega) | (left; simp; done) | (left; simp; omega) | (right; omega) | (right; simp; omega))).st (by first | (left; omega) | (left; simp; done) | (left; simp; omega) | (right; omega) | (right; simp; omega)))).mono (by first | omega | (simp; done) | (simp; omega))
        · exact (Bx.stored3 ((((Bx.thru e3 (Bx.newE (by first | omega | (simp; done) | (simp; omega)))).ot (by omega)).ot (by omega)).ot (by omega)))
        · exact (t2.keeps (((((((Keeps.refl _ _ _).st (by first | (left; omega) | (left; simp; done) | (left; simp; omega) | (right; omega) | (right; simp; omega))).st (by first | (left; omega) | (left; simp; done) | (left; simp; omega) | (right; omega) | (right; simp; omega))).st (by first | (left; omega) | (left; simp; done) | (left; simp; omega) | (right; omega) | (right; simp; omega))).st (by first | (left; omega) | (left; simp; done) | (left; simp; omega) | (right; omega) | (right; simp; omega))).st (by first | (left; omega) | (left; simp; done) | (left; simp; omega) | (right; omega) | (right; simp; omega))).st (by first | (left; omega) | (left; simp; done) | (left; simp; omega) | (right; omega) | (right; simp; omega)))).mono (by first | omega | (simp; done) | (simp; omega))
      · go_wp2_with fail
        go_meet
        refine ⟨_, _, [.bool s3, .slice a5 i5 c5, .slice a6 i6 c6], [.bool s4, .slice a7 i7 c7, .slice a8 i8 c8], rfl, rfl, by omega, by omega, by omega, ?_, ?_, ?_, ?_, ?_⟩
        · exact (Below.al (Below.st (Below.st (Below.st b2 (by omega)) (by omega)) (by omega)))
        · exact (Bx.newE (by first | omega | (simp; done) | (simp; omega)))
        · exact (t1.keeps (((((Keeps.thru e3 ((Keeps.refl _ _ _).al (by first | omega | (simp; done) | (simp; omega))) (by first | omega | (simp; done) | (simp; omega))).st (by first | (left; omega) | (left; simp; done) | (left; simp; omega) | (right; omega) | (right; simp; omega))).st (by first | (left; omega) | (left; simp; done) | (left; simp; omega) | (right; omega) | (right; simp; omega))).st (by first | (left; omega) | (left; simp; done) | (left; simp; omega) | (right; omega) | (right; simp; omega))).al (by first | omega | (simp; done) | (simp; omega)))).mono (by first | omega | (simp; done) | (simp; omega))
        · exact (Bx.stored3 (Bx.thru e3 (Bx.newE (by first | omega | (simp; done) | (simp; omega))))).al
        · exact (t2.keeps (((((Keeps.refl _ _ _).st (by first | (left; omega) | (left; simp; done) | (left; simp; omega) | (right; omega) | (right; simp; omega))).st (by first | (left; omega) | (left; simp; done) | (left; simp; omega) | (right; omega) | (right; simp; omega))).st (by first | (left; omega) | (left; simp; done) | (left; simp; omega) | (right; omega) | (right; simp; omega))).al (by first | omega | (simp; done) | (simp; omega)))).mono (by first | omega | (simp; done) | (simp; omega))
      · go_wp2_with fail
        go_meet
        refine ⟨_, _, [.bool s3, .slice a5 i5 c5, .slice a6 i6 c6], [.bool s4, .slice a7 i7 c7, .slice a8 i8 c8], rfl, rfl, by omega, by omega, by omega, ?_, ?_, ?_, ?_, ?_⟩
        · exact (Below.st (Below.st (Below.st (Below.st (Below.st (Below.st b2 (by omega)) (by omega)) (by omega)) (by omega)) (by omega)) (by omega))
        · exact ((((Bx.stored3 (Bx.thru e3 (Bx.newE (by first | omega | (simp; done) | (simp; omega))))).ot (by omega)).ot (by omega)).ot (by omega))
        · exact (t1.keeps (((((((Keeps.thru e3 (((Keeps.refl _ _ _).al (by first | omega | (simp; done) | (simp; omega))).al (by first | omega | (simp; done) | (simp; omega))) (by first | omega | (simp; done) | (simp; omega))).st (by first | (left; omega) | (left; simp; done) | (left; simp; omega) | (right; omega) | (right; simp; omega))).st (by first | (left; omega) | (left; simp; done) | (left; simp; omega) | (right; omega) | (right; simp; omega))).st (by first | (left; omega) | (left; simp; done) | (left; simp; omega) | (right; omega) | (right; simp; omega))).st (by first | (left; omega) | (left; simp; done) | (left; simp; omega) | (right; omega) | (right; simp; omega))).st (by first | (left; omega) | (left; simp; done) | (left; simp; omega) | (right; omega) | (right; simp; omega))).st (by first | (left; omega) | (left; simp; done) | (left; simp; omega) | (right; omega) | (right; simp; omega)))).mono (by first | omega | (simp; done) | (simp; omega))
        · exact (Bx.stored3 ((((Bx.thru e3 (Bx.newE (by first | omega | (simp; done) | (simp; omega))).al).ot (by omega)).ot (by omega)).ot (by omega)))
        · exact (t2.keeps (((((((Keeps.refl _ _ _).st (by first | (left; omega) | (left; simp; done) | (left; simp; omega) | (right; omega) | (right; simp; omega))).st (by first | (left; omega) | (left; simp; done) | (left; simp; omega) | (right; omega) | (right; simp; omega))).st (by first | (left; omega) | (left; simp; done) | (left; simp; omega) | (right; omega) | (right; simp; omega))).st (by first | (left; omega) | (left; simp; done) | (left; simp; omega) | (right; omega) | (right; simp; omega))).st (by first | (left; omega) | (left; simp; done) | (left; simp; omega) | (right; omega) | (right; simp; omega))).st (by first | (left; omega) | (left; simp; done) | (left; simp; omega) | (right; omega) | (right; simp; omega)))).mono (by first | omega | (simp; done) | (simp; omega))
      · go_wp2_with fail
        go_meet
        refine ⟨_, _, [.bool s3, .slice a5 i5 c5, .slice a6 i6 c6], [.bool s4, .slice a7 i7 c7, .slice a8 i8 c8], rfl, rfl, by omega, by omega, by omega, ?_, ?_, ?_, ?_, ?_⟩
        · exact (Below.al (Below.st (Below.st (Below.st b2 (by omega)) (by omega)) (by omega)))
        · exact (Bx.stored3 (Bx.thru e3 (Bx.thru e2 (Bx.newE (by first | omega | (simp; done) | (simp; omega))).dr))).al
        · exact (t1.keeps (((((Keeps.thru e3 (Keeps.refl _ _ _) (by first | omega | (simp; done) | (simp; omega))).st (by first | (left; omega) | (left; simp; done) | (left; simp; omega) | (right; omega) | (right; simp; omega))).st (by first | (left; omega) | (left; simp; done) | (left; simp; omega) | (right; omega) | (right; simp; omega))).st (by first | (left; omega) | (left; simp; done) | (left; simp; omega) | (right; omega) | (right; simp; omega))).al (by first | omega | (simp; done) | (simp; omega)))).mono (by first | omega | (simp; done) | (simp; omega))
        · exact (Bx.newE (by first | omega | (simp; done) | (simp; omega)))
        · exact (t2.keeps (((((Keeps.refl _ _ _).st (by first | (left; omega) | (left; simp; done) | (left; simp; omega) | (right; omega) | (right; simp; omega))).st (by first | (left; omega) | (left; simp; done) | (left; simp; omega) | (right; omega) | (right; simp; omega))).st (by first | (left; omega) | (left; simp; done) | (left; simp; omega) | (right; omega) | (right; simp; omega))).al (by first | omega | (simp; done) | (simp; omega)))).mono (by first | omega | (simp; done) | (simp; omega))
      · go_wp2_with fail
        go_meet
        refine ⟨_, _, [.bool s3, .slice a5 i5 c5, .slice a6 i6 c6], [.bool s4, .slice a7 i7 c7, .slice a8 i8 c8], rfl, rfl, by omega, by omega, by omega, ?_, ?_, ?_, ?_, ?_⟩
        · exact (Below.st (Below.st (Below.st (Below.st (Below.st (Below.st b2 (by omega)) (by omega)) (by omega)) (by omega)) (by omega)) (by omega))
        · exact ((((Bx.stored3 (Bx.thru e3 (Bx.thru e2 (Bx.newE (by first | omega | (simp; done) | (simp; omega))).dr).al)).ot (by omega)).ot (by omega)).ot (by omega))
        · exact (t1.keeps (((((((Keeps.thru e3 ((Keeps.refl _ _ _).al (by first | omega | (simp; done) | (simp; omega))) (by first | omega | (simp; done) | (simp; omega))).st (by first | (left; omega) | (left; simp; done) | (left; simp; omega) | (right; omega) | (right; simp; omega))).st (by first | (left; omega) | (left; simp; done) | (left; simp; omega) | (right; omega) | (right; simp; omega))).st (by first | (left; omega) | (left; simp; done) | (left; simp; omega) | (right; omega) | (right; simp; omega))).st (by first | (left; omega) | (left; simp; done) | (left; simp; omega) | (right; omega) | (right; simp; omega))).st (by first | (left; omega) | (left; simp; done) | (left; simp; omega) | (right; omega) | (right; simp; omega))).st (by first | (left; omega) | (left; simp; done) | (left; simp; omega) | (right; omega) | (right; simp; omega)))).mono (by first | omega | (simp; done) | (simp; omega))
        · exact (Bx.stored3 ((((Bx.thru e3 (Bx.newE (by first | omega | (simp; done) | (simp; omega)))).ot (by omega)).ot (by omega)).ot (by omega)))
        · exact (t2.keeps (((((((Keeps.refl _ _ _).st (by first | (left; omega) | (left; simp; done) | (left; simp; omega) | (right; omega) | (right; simp; omega))).st (by first | (left; omega) | (left; simp; done) | (left; simp; omega) | (right; omega) | (right; simp; omega))).st (by first | (left; omega) | (left; simp; done) | (left; simp; omega) | (right; omega) | (right; simp; omega))).st (by first | (left; omega) | (left; simp; done) | (left; simp; omega) | (right; omega) | (right; simp; omega))).st (by first | (left; omega) | (left; simp; done) | (left; simp; omega) | (right; omega) | (right; simp; omega))).st (by first | (left; omega) | (left; simp; done) | (left; simp; omega) | (right; omega) | (right; simp; omega)))).mono (by first | omega | (simp; done) | (simp; omega))
      · go_wp2_with fail
        go_meet
        refine ⟨_, _, [.bool s3, .slice a5 i5 c5, .slice a6 i6 c6], [.bool s4, .slice a7 i7 c7, .slice a8 i8 c8], rfl, rfl, by omega, by omega, by omega, ?_, ?_, ?_, ?_, ?_⟩
        · exact (Below.st (Below.st (Below.st (Below.st (Below.st (Below.st b2 (by omega)) (by omega)) (by omega)) (by omega)) (by omega)) (by omega))
        · exact ((((Bx.stored3 (Bx.thru e3 (Bx.thru e2 (Bx.newE (by first | omega | (simp; done) | (simp; omega))).al.dr))).ot (by omega)).ot (by omega)).ot (by omega))
        · exact (t1.keeps (((((((Keeps.thru e3 (Keeps.refl _ _ _) (by first | omega | (simp; done) | (simp; omega))).st (by first | (left; omega) | (left; simp; done) | (left; simp; omega) | (right; omega) | (right; simp; omega))).st (by first | (left; omega) | (left; simp; done) | (left; simp; omega) | (right; omega) | (right; simp; omega))).st (by first | (left; omega) | (left; simp; done) | (left; simp; omega) | (right; omega) | (right; simp; omega))).st (by first | (left; omega) | (left; simp; done) | (left; simp; omega) | (right; omega) | (right; simp; omega))).st (by first | (left; omega) | (left; simp; done) | (left; simp; omega) | (right; omega) | (right; simp; omega))).st (by first | (left; omega) | (left; simp; done) | (left; simp; omega) | (right; omega) | (right; simp; omega)))).mono (by first | omega | (simp; done) | (simp; omega))
        · exact (Bx.stored3 ((((Bx.thru e3 (Bx.thru e2 (Bx.newE (by first | omega | (simp; done) | (simp; omega))).dr)).ot (by omega)).ot (by omega)).ot (by omega)))
        · exact (t2.keeps (((((((Keeps.refl _ _ _).st (by first | (left; omega) | (left; simp; done) | (left; simp; omega) | (right; omega) | (right; simp; omega))).st (by first | (left; omega) | (left; simp; done) | (left; simp; omega) | (right; omega) | (right; simp; omega))).st (by first | (left; omega) | (left; simp; done) | (left; simp; omega) | (right; omega) | (right; simp; omega))).st (by first | (left; omega) | (left; simp; done) | (left; simp; omega) | (right; omega) | (right; simp; omega))).st (by first | (left; omega) | (left; simp; done) | (left; simp; omega) | (right; omega) | (right; simp; omega))).st (by first | (left; omega) | (left; simp; done) | (left; simp; omega) | (right; omega) | (right; simp; omega)))).mono (by first | omega | (simp; done) | (simp; omega))
      · go_wp2_with fail
        go_meet
        refine ⟨_, _, [.bool s3, .slice a5 i5 c5, .slice a6 i6 c6], [.bool s4, .slice a7 i7 c7, .slice a8 i8 c8], rfl, rfl, by omega, by omega, by omega, ?_, ?_, ?_, ?_, ?_⟩
        · exact (Below.al (Below.st (Below.st (Below.st b2 (by omega)) (by omega)) (by omega)))
        · exact (Bx.newE (by first | omega | (simp; done) | (simp; omega)))
        · exact (t1.keeps (((((Keeps.thru e3 (Keeps.refl _ _ _) (by first | omega | (simp; done) | (simp; omega))).st (by first | (left; omega) | (left; simp; done) | (left; simp; omega) | (right; omega) | (right; simp; omega))).st (by first | (left; omega) | (left; simp; done) | (left; simp; omega) | (right; omega) | (right; simp; omega))).st (by first | (left; omega) | (left; simp; done) | (left; simp; omega) | (right; omega) | (right; simp; omega))).al (by first | omega | (simp; done) | (simp; omega)))).mono (by first | omega | (simp; done) | (simp; omega))
        · exact (Bx.stored3 (Bx.thru e3 (Bx.thru e2 (Bx.newE (by first | omega | (simp; done) | (simp; omega))).dr))).al
        · exact (t2.keeps (((((Keeps.refl _ _ _).st (by first | (left; omega) | (left; simp; done) | (left; simp; omega) | (right; omega) | (right; simp; omega))).st (by first | (left; omega) | (left; simp; done) | (left; simp; omega) | (right; omega) | (right; simp; omega))).st (by first | (left; omega) | (left; simp; done) | (left; simp; omega) | (right; omega) | (right; simp; omega))).al (by first | omega | (simp; done) | (simp; omega)))).mono (by first | omega | (simp; done) | (simp; omega))
      · go_wp2_with fail
        go_meet
        refine ⟨_, _, [.bool s3, .slice a5 i5 c5, .slice a6 i6 c6], [.bool s4, .slice a7 i7 c7, .slice a8 i8 c8], rfl, rfl, by omega, by omega, by omega, ?_, ?_, ?_, ?_, ?_⟩
        · exact (Below.st (Below.st (Below.st (Below.st (Below.st (Below.st b2 (by omega)) (by omega)) (by omega)) (by omega)) (by omega)) (by omega))
        · exact ((((Bx.stored3 (Bx.thru e3 (Bx.newE (by first | omega | (simp; done) | (simp; omega))))).ot (by omega)).ot (by omega)).ot (by omega))
        · exact (t1.keeps (((((((Keeps.thru e3 ((Keeps.refl _ _ _).al (by first | omega | (simp; done) | (simp; omega))) (by first | omega | (simp; done) | (simp; omega))).st (by first | (left; omega) | (left; simp; done) | (left; simp; omega) | (right; omega) | (right; simp; omega))).st (by first | (left; omega) | (left; simp; done) | (left; simp; omega) | (right; omega) | (right; simp; omega))).st (by first | (left; omega) | (left; simp; done) | (left; simp; omega) | (right; omega) | (right; simp; omega))).st (by first | (left; omega) | (left; simp; done) | (left; simp; omega) | (right; omega) | (right; simp; omega))).st (by first | (left; omega) | (left; simp; done) | (left; simp; omega) | (right; omega) | (right; simp; omega))).st (by first | (left; omega) | (left; simp; done) | (left; simp; omega) | (right; omega) | (right; simp; omega)))).mono (by first | omega | (simp; done) | (simp; omega))
        · exact (Bx.stored3 ((((Bx.thru e3 (Bx.thru e2 (Bx.newE (by first | omega | (simp; done) | (simp; omega))).dr).al).ot (by omega)).ot (by omega)).ot (by omega)))
        · exact (t2.keeps (((((((Keeps.refl _ _ _).st (by first | (left; omega) | (left; simp; done) | (left; simp; omega) | (right; omega) | (right; simp; omega))).st (by first | (left; omega) | (left; simp; done) | (left; simp; omega) | (right; omega) | (right; simp; omega))).st (by first | (left; omega) | (left; simp; done) | (left; simp; omega) | (right; omega) | (right; simp; omega))).st (by first | (left; omega) | (left; simp; done) | (left; simp; omega) | (right; omega) | (right; simp; omega))).st (by first | (left; omega) | (left; simp; done) | (left; simp; omega) | (right; omega) | (right; simp; omega))).st (by first | (left; omega) | (left; simp; done) | (left; simp; omega) | (right; omega) | (right; simp; omega)))).mono (by first | omega | (simp; done) | (simp; omega))
      · go_wp2_with fail
        go_meet
        refine ⟨_, _, [.bool s3, .slice a5 i5 c5, .slice a6 i6 c6], [.bool s4, .slice a7 i7 c7, .slice a8 i8 c8], rfl, rfl, by omega, by omega, by omega, ?_, ?_, ?_, ?_, ?_⟩
        · exact (Below.st (Below.st (Below.st (Below.st (Below.st (Below.st b2 (by omega)) (by omega)) (by omega)) (by omega)) (by omega)) (by omega))
        · exact ((((Bx.stored3 (Bx.thru e3 (Bx.thru e2 (Bx.newE (by first | omega | (simp; done) | (simp; omega))).dr))).ot (by omega)).ot (by omega)).ot (by omega))
        · exact (t1.keeps (((((((Keeps.thru e3 (Keeps.refl _ _ _) (by first | omega | (simp; done) | (simp; omega))).st (by first | (left; omega) | (left; simp; done) | (left; simp; omega) | (right; omega) | (right; simp; omega))).st (by first | (left; omega) | (left; simp; done) | (left; simp; omega) | (right; omega) | (right; simp; omega))).st (by first | (left; omega) | (left; simp; done) | (left; simp; omega) | (right; omega) | (right; simp; omega))).st (by first | (left; omega) | (left; simp; done) | (left; simp; omega) | (right; omega) | (right; simp; omega))).st (by first | (left; omega) | (left; simp; done) | (left; simp; omega) | (right; omega) | (right; simp; omega))).st (by first | (left; omega) | (left; simp; done) | (left; simp; omega) | (right; omega) | (right; simp; omega)))).mono (by first | omega | (simp; done) | (simp; omega))
        · exact (Bx.stored3 ((((Bx.thru e3 (Bx.thru e2 (Bx.newE (by first | omega | (simp; done) | (simp; omega))).al.dr)).ot (by omega)).ot (by omega)).ot (by omega)))
        · exact (t2.keeps (((((((Keeps.refl _ _ _).st (by first | (left; omega) | (left; simp; done) | (left; simp; omega) | (right; omega) | (right; simp; omega))).st (by first | (left; omega) | (left; simp; done) | (left; simp; omega) | (right; omega) | (right; simp; omega))).st (by first | (left; omega) | (left; simp; done) | (left; simp; omega) | (right; omega) | (right; simp; omega))).st (by first | (left; omega) | (left; simp; done) | (left; simp; omega) | (right; omega) | (right; simp; omega))).st (by first | (left; omega) | (left; simp; done) | (left; simp; omega) | (right; omega) | (right; simp; omega))).st (by first | (left; omega) | (left; simp; done) | (left; simp; omega) | (right; omega) | (right; simp; omega)))).mono (by first | omega | (simp; done) | (simp; omega))
    case rest =>
      obtain ⟨g5, g6, l5, l6, rfl, rfl, hg5, hg6, hg56, hbN, Qx5, tx5, Qx6, tx6⟩ := hcut
      clear hS b0
      replace hbT := bthen hbT hbN
      replace h1 := h1.below hbN (Nat.le_refl _)
      replace h2 := h2.below hbN (Nat.le_refl _)
      replace Q3 := Q3.below hbN (Nat.le_refl _)
      replace Q4 := Q4.below hbN (Nat.le_refl _)
      have sz_wc := hbN.size
      clear hbN
      obtain ⟨p5, c5, o5, d5, QA, nA, dA⟩ := boxOpen Qx5 tx5
      obtain ⟨p6, c6, o6, d6, QB, nB, dB⟩ := boxOpen Qx6 tx6
      clear Qx5 tx5 Qx6 tx6 h1 h2
      have la := rs_nm a
      have lb := rs_nm b
      have ma := rs_den a
      have mb := rs_den b
      have kQA_0 := QA.at 0 rfl
      have kQA_1 := QA.at 1 rfl
      have kQA_2 := QA.at 2 rfl
      have kQB_0 := QB.at 0 rfl
      have kQB_1 := QB.at 1 rfl
      have kQB_2 := QB.at 2 rfl
      go_wp2_with fail
      refine (rlim wc _ _ _ _ _ _ nA nB (by omega) E1.out).mono ?_
      rintro e w3 ⟨rfl, hbN⟩
      replace hbT := bthen hbT hbN
      replace nA := nA.below hbN (Nat.le_refl _)
      replace dA := dA.below hbN (Nat.le_refl _)
      replace nB := nB.below hbN (Nat.le_refl _)
      replace dB := dB.below hbN (Nat.le_refl _)
      replace QA := QA.below hbN (Nat.le_refl _)
      replace QB := QB.below hbN (Nat.le_refl _)
      have sz_w3 := hbN.size
      clear hbN
      (try clear kQA_0); (try clear kQA_1); (try clear kQA_2); (try clear kQB_0); (try clear kQB_1); (try clear kQB_2)
      have kQA_0 := QA.at 0 rfl
      have kQA_1 := QA.at 1 rfl
      have kQA_2 := QA.at 2 rfl
      have kQB_0 := QB.at 0 rfl
      have kQB_1 := QB.at 1 rfl
      have kQB_2 := QB.at 2 rfl
      go_wp2_with fail
      exact bodyPost_ret (v := .bool false) (by simp [results, Try.results34, go_sem]) rfl ⟨rfl, hbT⟩
  · rw [show decide (a = b) = false from decide_eq_false (fun h => e1 (by rw [h]))]
    have q1 : (ng a == ng b) = false := by simp [e1]
    clear e1
    go_enter Try.func34, Try.ntmps34
    go_wp2_with fail
    have hbN : Below w.heap.size w ((w.alloc (.cells #[.bool s1, .slice p1 i1 c1, .slice o1 j1 d1] 24)).alloc (.cells #[.bool s2, .slice p2 i2 c2, .slice o2 j2 d2] 24)) := allocs_below [(.cells #[.bool s1, .slice p1 i1 c1, .slice o1 j1 d1] 24), (.cells #[.bool s2, .slice p2 i2 c2, .slice o2 j2 d2] 24)] w
    have Q6 : Bx 24 ((w.alloc (.cells #[.bool s1, .slice p1 i1 c1, .slice o1 j1 d1] 24)).alloc (.cells #[.bool s2, .slice p2 i2 c2, .slice o2 j2 d2] 24)) (w.heap.size) [.bool s1, .slice p1 i1 c1, .slice o1 j1 d1] := allocs_at [(.cells #[.bool s1, .slice p1 i1 c1, .slice o1 j1 d1] 24), (.cells #[.bool s2, .slice p2 i2 c2, .slice o2 j2 d2] 24)] w 0 _ rfl
    have Q7 : Bx 24 ((w.alloc (.cells #[.bool s1, .slice p1 i1 c1, .slice o1 j1 d1] 24)).alloc (.cells #[.bool s2, .slice p2 i2 c2, .slice o2 j2 d2] 24)) (w.heap.size + 1) [.bool s2, .slice p2 i2 c2, .slice o2 j2 d2] := allocs_at [(.cells #[.bool s1, .slice p1 i1 c1, .slice o1 j1 d1] 24), (.cells #[.bool s2, .slice p2 i2 c2, .slice o2 j2 d2] 24)] w 1 _ rfl
    generalize ((w.alloc (.cells #[.bool s1, .slice p1 i1 c1, .slice o1 j1 d1] 24)).alloc (.cells #[.bool s2, .slice p2 i2 c2, .slice o2 j2 d2] 24)) = w1 at *
    have hbT := hbN
    replace h1 := h1.below hbN (Nat.le_refl _)
    replace h2 := h2.below hbN (Nat.le_refl _)
    have sz_w1 := hbN.size
    clear hbN
    have hS : Hid (∀ w', Below w1.heap.size w1 w' → w'.cell? ⟨w.heap.size, 0, none⟩ = some (.bool s1) ∧ w'.cell? ⟨w.heap.size, 1, none⟩ = some (.slice p1 i1 c1) ∧ w'.cell? ⟨w.heap.size, 2, none⟩ = some (.slice o1 j1 d1) ∧ w'.cell? ⟨w.heap.size + 1, 0, none⟩ = some (.bool s2) ∧ w'.cell? ⟨w.heap.size + 1, 1, none⟩ = some (.slice p2 i2 c2) ∧ w'.cell? ⟨w.heap.size + 1, 2, none⟩ = some (.slice o2 j2 d2)) := Lib.hid (fun w' hb => by
      have h0 := Q6.below hb (Nat.le_refl _)
      have h1 := Q7.below hb (Nat.le_refl _)
      exact ⟨h0.at 0 rfl, h0.at 1 rfl, h0.at 2 rfl, h1.at 0 rfl, h1.at 1 rfl, h1.at 2 rfl⟩)
    have b0 : Below w1.heap.size w1 w1.drew := (Below.refl _ _).drew
    go_cut [5, 6] (fun s5 s6 wx => Lets2 w1 (a) (b) s5 s6 wx)
    case first =>
      go_region_held3 (fun w' => w'.cell? ⟨w.heap.size, 0, none⟩ = some (.bool s1) ∧ w'.cell? ⟨w.heap.size, 1, none⟩ = some (.slice p1 i1 c1) ∧ w'.cell? ⟨w.heap.size, 2, none⟩ = some (.slice o1 j1 d1) ∧ w'.cell? ⟨w.heap.size + 1, 0, none⟩ = some (.bool s2) ∧ w'.cell? ⟨w.heap.size + 1, 1, none⟩ = some (.slice p2 i2 c2) ∧ w'.cell? ⟨w.heap.size + 1, 2, none⟩ = some (.slice o2 j2 d2))
        ((refine hS.out _ ?_; repeat (first | with_reducible assumption | (with_reducible refine Below.al ?_) | (with_reducible refine Below.dr ?_) | (with_reducible exact Below.refl _ _) | ((with_reducible refine Below.st ?_ ?_); rotate_left; omega))))
        (first
          | ((go_simp; go_at_call 27; (with_reducible refine (r2Norm _ _ a ((h1.below (by repeat (first | with_reducible assumption | (with_reducible refine Below.al ?_) | (with_reducible refine Below.dr ?_) | (with_reducible exact Below.refl _ _))) (Nat.le_refl _)).more (by omega))).mono ?_); rintro e x2 ⟨u1, rfl, t1, e2⟩; obtain ⟨s3, a5, i5, c5, a6, i6, c6, rfl⟩ := t1.open; have b1 : Below w1.heap.size w1 x2 := bthen (by repeat (first | with_reducible assumption | (with_reducible refine Below.al ?_) | (with_reducible refine Below.dr ?_) | (with_reducible exact Below.refl _ _))) e2; obtain ⟨hc2, hf2⟩ := bcell e2; have hz2 := e2.size; (try simp at hz2); (try have : w1.heap.size < x2.heap.size := by omega); (try have : w1.heap.size + 1 < x2.heap.size := by omega)))
          | ((go_simp; go_at_call 27; (with_reducible refine (r2Norm _ _ b ((h2.below (by repeat (first | with_reducible assumption | (with_reducible refine Below.al ?_) | (with_reducible refine Below.dr ?_) | (with_reducible exact Below.refl _ _))) (Nat.le_refl _)).more (by omega))).mono ?_); rintro e x3 ⟨u2, rfl, t2, e3⟩; obtain ⟨s4, a7, i7, c7, a8, i8, c8, rfl⟩ := t2.open; have b2 : Below w1.heap.size w1 x3 := bthen (by repeat (first | with_reducible assumption | (with_reducible refine Below.al ?_) | (with_reducible refine Below.dr ?_) | (with_reducible exact Below.refl _ _))) e3; obtain ⟨hc3, hf3⟩ := bcell e3; have hz3 := e3.size; (try simp at hz3); (try have : x2.heap.size < x3.heap.size := by omega); (try have : x2.heap.size + 1 < x3.heap.size := by omega); (try have : w1.heap.size < x3.heap.size := by omega); (try have : w1.heap.size + 1 < x3.heap.size := by omega))))
      · go_wp2_with fail
        go_meet
        refine ⟨_, _, [.bool s3, .slice a5 i5 c5, .slice a6 i6 c6], [.bool s4, .slice a7 i7 c7, .slice a8 i8 c8], rfl, rfl, by omega, by omega, by omega, ?_, ?_, ?_, ?_, ?_⟩
        · exact (Below.al (Below.al b2))
        · exact (Bx.newE (by first | omega | (simp; done) | (simp; omega))).al
        · exact (t1.keeps (((Keeps.thru e3 (Keeps.refl _ _ _) (by first | omega | (simp; done) | (simp; omega))).al (by first | omega | (simp; done) | (simp; omega))).al (by first | omega | (simp; done) | (simp; omega)))).mono (by first | omega | (simp; done) | (simp; omega))
        · exact (Bx.newE (by first | omega | (simp; done) | (simp; omega)))
        · exact (t2.keeps (((Keeps.refl _ _ _).al (by first | omega | (simp; done) | (simp; omega))).al (by first | omega | (simp; done) | (simp; omega)))).mono (by first | omega | (simp; done) | (simp; omega))
      · go_wp2_with fail
        go_meet
        refine ⟨_, _, [.bool s3, .slice a5 i5 c5, .slice a6 i6 c6], [.bool s4, .slice a7 i7 c7, .slice a8 i8 c8], rfl, rfl, by omega, by omega, by omega, ?_, ?_, ?_, ?_, ?_⟩
        · exact (Below.al (Below.al b2))
        · exact (Bx.newE (by first | omega | (simp; done) | (simp; omega)))
        · exact (t1.keeps (((Keeps.thru e3 (Keeps.refl _ _ _) (by first | omega | (simp; done) | (simp; omega))).al (by first | omega | (simp; done) | (simp; omega))).al (by first | omega | (simp; done) | (simp; omega)))).mono (by first | omega | (simp; done) | (simp; omega))
        · exact (Bx.newE (by first | omega | (simp; done) | (simp; omega))).al
        · exact (t2.keeps (((Keeps.refl _ _ _).al (by first | omega | (simp; done) | (simp; omega))).al (by first | omega | (simp; done) | (simp; omega)))).mono (by first | omega | (simp; done) | (simp; omega))
      · go_wp2_with fail
        go_meet
        refine ⟨_, _, [.bool s3, .slice a5 i5 c5, .slice a6 i6 c6], [.bool s4, .slice a7 i7 c7, .slice a8 i8 c8], rfl, rfl, by omega, by omega, by omega, ?_, ?_, ?_, ?_, ?_⟩
        · exact (Below.al (Below.st (Below.st (Below.st b2 (by omega)) (by omega)) (by omega)))
        · exact (Bx.stored3 (Bx.thru e3 (Bx.newE (by first | omega | (simp; done) | (simp; omega))))).al
        · exact (t1.keeps (((((Keeps.thru e3 ((Keeps.refl _ _ _).al (by first | omega | (simp; done) | (simp; omega))) (by first | omega | (simp; done) | (simp; omega))).st (by first | (left; omega) | (left; simp; done) | (left; simp; omega) | (right; omega) | (right; simp; omega))).st (by first | (left; omega) | (left; simp; done) | (left; simp; omega) | (right; omega) | (right; simp; omega))).st (by first | (left; omega) | (left; simp; done) | (left; simp; omega) | (right; omega) | (right; simp; omega))).al (by first | omega | (simp; done) | (simp; omega)))).mono (by first | omega | (simp; done) | (simp; omega))
        · exact (Bx.newE (by first | omega | (simp; done) | (simp; omega)))
        · exact (t2.keeps (((((Keeps.refl _ _ _).st (by first | (left; omega) | (left; simp; done) | (left; simp; omega) | (right; omega) | (right; simp; omega))).st (by first | (left; omega) | (left; simp; done) | (left; simp; omega) | (right; omega) | (right; simp; omega))).st (by first | (left; omega) | (left; simp; done) | (left; simp; omega) | (right; omega) | (right; simp; omega))).al (by first | omega | (simp; done) | (simp; omega)))).mono (by first | omega | (simp; done) | (simp; omega))
      · go_wp2_with fail
        go_meet
        refine ⟨_, _, [.bool s3, .slice a5 i5 c5, .slice a6 i6 c6], [.bool s4, .slice a7 i7 c7, .slice a8 i8 c8], rfl, rfl, by omega, by omega, by omega, ?_, ?_, ?_, ?_, ?_⟩
        · exact (Below.st (Below.st (Below.st (Below.st (Below.st (Below.st b2 (by omega)) (by omega)) (by omega)) (by omega)) (by omega)) (by omega))
        · exact ((((Bx.stored3 (Bx.thru e3 (Bx.newE (by first | omega | (simp; done) | (simp; omega))).al)).ot (by omega)).ot (by omega)).ot (by omega))
        · exact (t1.keeps (((((((Keeps.thru e3 (((Keeps.refl _ _ _).al (by first | omega | (simp; done) | (simp; omega))).al (by first | omega | (simp; done) | (simp; omega))) (by first | omega | (simp; done) | (simp; omega))).st (by first | (left; omega) | (left; simp; done) | (left; simp; omega) | (right; omega) | (right; simp; omega))).st (by first | (left; omega) | (left; simp; done) | (left; simp; omega) | (right; omega) | (right; simp; omega))).st (by first | (left; omega) | (left; simp; done) | (left; simp; omega) | (right; omega) | (right; simp; omega))).st (by first | (left; omega) | (left; simp; done) | (left; simp; omega) | (right; omega) | (right; simp; omega))).st (by first | (left; omega) | (left; simp; done) | (left; simp; omega) | (right; omega) | (right; simp; omega))).st (by first | (left; omega) | (left; simp; done) | (left; simp; omega) | (right; omega) | (right; simp; omega)))).mono (by first | omega | (simp; done) | (simp; omega))
        · exact (Bx.stored3 ((((Bx.thru e3 (Bx.newE (by first | omega | (simp; done) | (simp; omega)))).ot (by omega)).ot (by omega)).ot (by omega)))
        · exact (t2.keeps (((((((Keeps.refl _ _ _).st (by first | (left; omega) | (left; simp; done) | (left; simp; omega) | (right; omega) | (right; simp; omega))).st (by first | (left; omega) | (left; simp; done) | (left; simp; omega) | (right; omega) | (right; simp; omega))).st (by first | (left; omega) | (left; simp; done) | (left; simp; omega) | (right; omega) | (right; simp; omega))).st (by first | (left; omega) | (left; simp; done) | (left; simp; omega) | (right; omega) | (right; simp; omega))).st (by first | (left; omega) | (left; simp; done) | (left; simp; omega) | (right; omega) | (right; simp; omega))).st (by first | (left; omega) | (left; simp; done) | (left; simp; omega) | (right; omega) | (right; simp; omega)))).mono (by first | omega | (simp; done) | (simp; omega))
      · go_wp2_with fail
        go_meet
        refine ⟨_, _, [.bool s3, .slice a5 i5 c5, .slice a6 i6 c6], [.bool s4, .slice a7 i7 c7, .slice a8 i8 c8], rfl, rfl, by omega, by omega, by omega, ?_, ?_, ?_, ?_, ?_⟩
        · exact (Below.al (Below.st (Below.st (Below.st b2 (by omega)) (by omega)) (by omega)))
        · exact (Bx.newE (by first | omega | (simp; done) | (simp; omega)))
        · exact (t1.keeps (((((Keeps.thru e3 ((Keeps.refl _ _ _).al (by first | omega | (simp; done) | (simp; omega))) (by first | omega | (simp; done) | (simp; omega))).st (by first | (left; omega) | (left; simp; done) | (left; simp; omega) | (right; omega) | (right; simp; omega))).st (by first | (left; omega) | (left; simp; done) | (left; simp; omega) | (right; omega) | (right; simp; omega))).st (by first | (left; omega) | (left; simp; done) | (left; simp; omega) | (right; omega) | (right; simp; omega))).al (by first | omega | (simp; done) | (simp; omega)))).mono (by first | omega | (simp; done) | (simp; omega))
        · exact (Bx.stored3 (Bx.thru e3 (Bx.newE (by first | omega | (simp; done) | (simp; omega))))).al
        · exact (t2.keeps (((((Keeps.refl _ _ _).st (by first | (left; omega) | (left; simp; done) | (left; simp; omega) | (right; omega) | (right; simp; omega))).st (by first | (left; omega) | (left; simp; done) | (left; simp; omega) | (right; omega) | (right; simp; omega))).st (by first | (left; omega) | (left; simp; done) | (left; simp; omega) | (right; omega) | (right; simp; omega))).al (by first | omega | (simp; done) | (simp; omega)))).mono (by first | omega | (simp; done) | (simp; omega))
      · go_wp2_with fail
        go_meet
        refine ⟨_, _, [.bool s3, .slice a5 i5 c5, .slice a6 i6 c6], [.bool s4, .slice a7 i7 c7, .slice a8 i8 c8], rfl, rfl, by omega, by omega, by omega, ?_, ?_, ?_, ?_, ?_⟩
        · exact (Below.st (Below.st (Below.st (Below.st (Below.st (Below.st b2 (by omega)) (by omega)) (by omega)) (by omega)) (by omega)) (by omega))
        · exact ((((Bx.stored3 (Bx.thru e3 (Bx.newE (by first | omega | (simp; done) | (simp; omega))))).ot (by omega)).ot (by omega)).ot (by omega))
        · exact (t1.keeps (((((((Keeps.thru e3 (((Keeps.refl _ _ _).al (by first | omega | (simp; done) | (simp; omega))).al (by first | omega | (simp; done) | (simp; omega))) (by first | omega | (simp; done) | (simp; omega))).st (by first | (left; omega) | (left; simp; done) | (left; simp; omega) | (right; omega) | (right; simp; omega))).st (by first | (left; omega) | (left; simp; done) | (left; simp; omega) | (right; omega) | (right; simp; omega))).st (by first | (left; omega) | (left; simp; done) | (left; simp; omega) | (right; omega) | (right; simp; omega))).st (by first | (left; omega) | (left; simp; done) | (left; simp; omega) | (right; omega) | (right; simp; omega))).st (by first | (left; omega) | (left; simp; done) | (left; simp; omega) | (right; omega) | (right; simp; omega))).st (by first | (left; omega) | (left; simp; done) | (left; simp; omega) | (right; omega) | (right; simp; omega)))).mono (by first | omega | (simp; done) | (simp; omega))
        · exact (Bx.stored3 ((((Bx.thru e3 (Bx.newE (by first | omega | (simp; done) | (simp; omega))).al).ot (by omega)).ot (by omega)).ot (by omega)))
        · exact (t2.keeps (((((((Keeps.refl _ _ _).st (by first | (left; omega) | (left; simp; done) | (left; simp; omega) | (right; omega) | (right; simp; omega))).st (by first | (left; omega) | (left; simp; done) | (left; simp; omega) | (right; omega) | (right; simp; omega))).st (by first | (left; omega) | (left; simp; done) | (left; simp; omega) | (right; omega) | (right; simp; omega))).st (by first | (left; omega) | (left; simp; done) | (left; simp; omega) | (right; omega) | (right; simp; omega))).st (by first | (left; omega) | (left; simp; done) | (left; simp; omega) | (right; omega) | (right; simp; omega))).st (by first | (left; omega) | (left; simp; done) | (left; simp; omega) | (right; omega) | (right; simp; omega)))).mono (by first | omega | (simp; done) | (simp; omega))
      · go_wp2_with fail
        go_meet
        refine ⟨_, _, [.bool s3, .slice a5 i5 c5, .slice a6 i6 c6], [.bool s4, .slice a7 i7 c7, .slice a8 i8 c8], rfl, rfl, by omega, by omega, by omega, ?_, ?_, ?_, ?_, ?_⟩
        · exact (Below.al (Below.st (Below.st (Below.st b2 (by omega)) (by omega)) (by omega)))
        · exact (Bx.stored3 (Bx.thru e3 (Bx.thru e2 (Bx.newE (by first | omega | (simp; done) | (simp; omega))).dr))).al
        · exact (t1.keeps (((((Keeps.thru e3 (Keeps.refl _ _ _) (by first | omega | (simp; done) | (simp; omega))).st (by first | (left; omega) | (left; simp; done) | (left; simp; omega) | (right; omega) | (right; simp; omega))).st (by first | (left; omega) | (left; simp; done) | (left; simp; omega) | (right; omega) | (right; simp; omega))).st (by first | (left; omega) | (left; simp; done) | (left; simp; omega) | (right; omega) | (right; simp; omega))).al (by first | omega | (simp; done) | (simp; omega)))).mono (by first | omega | (simp; done) | (simp; omega))
        · exact (Bx.newE (by first | omega | (simp; done) | (simp; omega)))
        · exact (t2.keeps (((((Keeps.refl _ _ _).st (by first | (left; omega) | (left; simp; done) | (left; simp; omega) | (right; omega) | (right; simp; omega))).st (by first | (left; omega) | (left; simp; done) | (left; simp; omega) | (right; omega) | (right; simp; omega))).st (by first | (left; omega) | (left; simp; done) | (left; simp; omega) | (right; omega) | (right; simp; omega))).al (by first | omega | (simp; done) | (simp; omega)))).mono (by first | omega | (simp; done) | (simp; omega))
      · go_wp2_with fail
        go_meet
        refine ⟨_, _, [.bool s3, .slice a5 i5 c5, .slice a6 i6 c6], [.bool s4, .slice a7 i7 c7, .slice a8 i8 c8], rfl, rfl, by omega, by omega, by omega, ?_, ?_, ?_, ?_, ?_⟩
        · exact (Below.st (Below.st (Below.st (Below.st (Below.st (Below.st b2 (by omega)) (by omega)) (by omega)) (by omega)) (by omega)) (by omega))
        · exact ((((Bx.stored3 (Bx.thru e3 (Bx.thru e2 (Bx.newE (by first | omega | (simp; done) | (simp; omega))).dr).al)).ot (by omega)).ot (by omega)).ot (by omega))
        · exact (t1.keeps (((((((Keeps.thru e3 ((Keeps.refl _ _ _).al (by first | omega | (simp; done) | (simp; omega))) (by first | omega | (simp; done) | (simp; omega))).st (by first | (left; omega) | (left; simp; done) | (left; simp; omega) | (right; omega) | (right; simp; omega))).st (by first | (left; omega) | (left; simp; done) | (left; simp; omega) | (right; omega) | (right; simp; omega))).st (by first | (left; omega) | (left; simp; done) | (left; simp; omega) | (right; omega) | (right; simp; omega))).st (by first | (left; omega) | (left; simp; done) | (left; simp; omega) | (right; omega) | (right; simp; omega))).st (by first | (left; omega) | (left; simp; done) | (left; simp; omega) | (right; omega) | (right; simp; omega))).st (by first | (left; omega) | (left; simp; done) | (left; simp; omega) | (right; omega) | (right; simp; omega)))).mono (by first | omega | (simp; done) | (simp; omega))
        · exact (Bx.stored3 ((((Bx.thru e3 (Bx.newE (by first | omega | (simp; done) | (simp; omega)))).ot (by omega)).ot (by omega)).ot (by omega)))
        · exact (t2.keeps (((((((Keeps.refl _ _ _).st (by first | (left; omega) | (left; simp; done) | (left; simp; omega) | (right; omega) | (right; simp; omega))).st (by first | (left; omega) | (left; simp; done) | (left; simp; omega) | (right; omega) | (right; simp; omega))).st (by first | (left; omega) | (left; simp; done) | (left; simp; omega) | (right; omega) | (right; simp; omega))).st (by first | (left; omega) | (left; simp; done) | (left; simp; omega) | (right; omega) | (right; simp; omega))).st (by first | (left; omega) | (left; simp; done) | (left; simp; omega) | (right; omega) | (right; simp; omega))).st (by first | (left; omega) | (left; simp; done) | (left; simp; omega) | (right; omega) | (right; simp; omega)))).mono (by first | omega | (simp; done) | (simp; omega))
      · go_wp2_with fail
        go_meet
        refine ⟨_, _, [.bool s3, .slice a5 i5 c5, .slice a6 i6 c6], [.bool s4, .slice a7 i7 c7, .slice a8 i8 c8], rfl, rfl, by omega, by omega, by omega, ?_, ?_, ?_, ?_, ?_⟩
        · exact (Below.st (Below.st (Below.st (Below.st (Below.st (Below.st b2 (by omega)) (by omega)) (by omega)) (by omega)) (by omega)) (by omega))
        · exact ((((Bx.stored3 (Bx.thru e3 (Bx.thru e2 (Bx.newE (by first | omega | (simp; done) | (simp; omega))).al.dr))).ot (by omega)).ot (by omega)).ot (by omega))
        · exact (t1.keeps (((((((Keeps.thru e3 (Keeps.refl _ _ _) (by first | omega | (simp; done) | (simp; omega))).st (by first | (left; omega) | (left; simp; done) | (left; simp; omega) | (right; omega) | (right; simp; omega))).st (by first | (left; omega) | (left; simp; done) | (left; simp; omega) | (right; omega) | (right; simp; omega))).st (by first | (left; omega) | (left; simp; done) | (left; simp; omega) | (right; omega) | (right; simp; omega))).st (by first | (left; omega) | (left; simp; done) | (left; simp; omega) | (right; omega) | (right; simp; omega))).st (by first | (left; omega) | (left; simp; done) | (left; simp; omega) | (right; omega) | (right; simp; omega))).st (by first | (left; omega) | (left; simp; done) | (left; simp; omega) | (right; omega) | (right; simp; omega)))).mono (by first | omega | (simp; done) | (simp; omega))
        · exact (Bx.stored3 ((((Bx.thru e3 (Bx.thru e2 (Bx.newE (by first | omega | (simp; done) | (simp; omega))).dr)).ot (by omega)).ot (by omega)).ot (by omega)))
        · exact (t2.keeps (((((((Keeps.refl _ _ _).st (by first | (left; omega) | (left; simp; done) | (left; simp; omega) | (right; omega) | (right; simp; omega))).st (by first | (left; omega) | (left; simp; done) | (left; simp; omega) | (right; omega) | (right; simp; omega))).st (by first | (left; omega) | (left; simp; done) | (left; simp; omega) | (right; omega) | (right; simp; omega))).st (by first | (left; omega) | (left; simp; done) | (left; simp; omega) | (right; omega) | (right; simp; omega))).st (by first | (left; omega) | (left; simp; done) | (left; simp; omega) | (right; omega) | (right; simp; omega))).st (by first | (left; omega) | (left; simp; done) | (left; simp; omega) | (right; omega) | (right; simp; omega)))).mono (by first | omega | (simp; done) | (simp; omega))
      · go_wp2_with fail
        go_meet
        refine ⟨_, _, [.bool s3, .slice a5 i5 c5, .slice a6 i6 c6], [.bool s4, .slice a7 i7 c7, .slice a8 i8 c8], rfl, rfl, by omega, by omega, by omega, ?_, ?_, ?_, ?_, ?_⟩
        · exact (Below.al (Below.st (Below.st (Below.st b2 (by omega)) (by omega)) (by omega)))
        · exact (Bx.newE (by first | omega | (simp; done) | (simp; omega)))
        · exact (t1.keeps (((((Keeps.thru e3 (Keeps.refl _ _ _) (by first | omega | (simp; done) | (simp; omega))).st (by first | (left; omega) | (left; simp; done) | (left; simp; omega) | (right; omega) | (right; simp; omega))).st (by first | (left; omega) | (left; simp; done) | (left; simp; omega) | (right; omega) | (right; simp; omega))).st (by first | (left; omega) | (left; simp; done) | (left; simp; omega) | (right; omega) | (right; simp; omega))).al (by first | omega | (simp; done) | (simp; omega)))).mono (by first | omega | (simp; done) | (simp; omega))
        · exact (Bx.stored3 (Bx.thru e3 (Bx.thru e2 (Bx.newE (by first | omega | (simp; done) | (simp; omega))).dr))).al
        · exact (t2.keeps (((((Keeps.refl _ _ _).st (by first | (left; omega) | (left; simp; done) | (left; simp; omega) | (right; omega) | (right; simp; omega))).st (by first | (left; omega) | (left; simp; done) | (left; simp; omega) | (right; omega) | (right; simp; omega))).st (by first | (left; omega) | (left; simp; done) | (left; simp; omega) | (right; omega) | (right; simp; omega))).al (by first | omega | (simp; done) | (simp; omega)))).mono (by first | omega | (simp; done) | (simp; omega))
      · go_wp2_with fail
        go_meet
        refine ⟨_, _, [.bool s3, .slice a5 i5 c5, .slice a6 i6 c6], [.bool s4, .slice a7 i7 c7, .slice a8 i8 c8], rfl, rfl, by omega, by omega, by omega, ?_, ?_, ?_, ?_, ?_⟩
        · exact (Below.st (Below.st (Below.st (Below.st (Below.st (Below.st b2 (by omega)) (by omega)) (by omega)) (by omega)) (by omega)) (by omega))
        · exact ((((Bx.stored3 (Bx.thru e3 (Bx.newE (by first | omega | (simp; done) | (simp; omega))))).ot (by omega)).ot (by omega)).ot (by omega))
        · exact (t1.keeps (((((((Keeps.thru e3 ((Keeps.refl _ _ _).al (by first | omega | (simp; done) | (simp; omega))) (by first | omega | (simp; done) | (simp; omega))).st (by first | (left; omega) | (left; simp; done) | (left; simp; omega) | (right; omega) | (right; simp; omega))).st (by first | (left; omega) | (left; simp; done) | (left; simp; omega) | (right; omega) | (right; simp; omega))).st (by first | (left; omega) | (left; simp; done) | (left; simp; omega) | (right; omega) | (right; simp; omega))).st (by first | (left; omega) | (left; simp; done) | (left; simp; omega) | (right; omega) | (right; simp; omega))).st (by first | (left; omega) | (left; simp; done) | (left; simp; omega) | (right; omega) | (right; simp; omega))).st (by first | (left; omega) | (left; simp; done) | (left; simp; omega) | (right; omega) | (right; simp; omega)))).mono (by first | omega | (simp; done) | (simp; omega))
        · exact (Bx.stored3 ((((Bx.thru e3 (Bx.thru e2 (Bx.newE (by first | omega | (simp; done) | (simp; omega))).dr).al).ot (by omega)).ot (by omega)).ot (by omega)))
        · exact (t2.keeps (((((((Keeps.refl _ _ _).st (by first | (left; omega) | (left; simp; done) | (left; simp; omega) | (right; omega) | (right; simp; omega))).st (by first | (left; omega) | (left; simp; done) | (left; simp; omega) | (right; omega) | (right; simp; omega))).st (by first | (left; omega) | (left; simp; done) | (left; simp; omega) | (right; omega) | (right; simp; omega))).st (by first | (left; omega) | (left; simp; done) | (left; simp; omega) | (right; omega) | (right; simp; omega))).st (by first | (left; omega) | (left; simp; done) | (left; simp; omega) | (right; omega) | (right; simp; omega))).st (by first | (left; omega) | (left; simp; done) | (left; simp; omega) | (right; omega) | (right; simp; omega)))).mono (by first | omega | (simp; done) | (simp; omega))
      · go_wp2_with fail
        go_meet
        refine ⟨_, _, [.bool s3, .slice a5 i5 c5, .slice a6 i6 c6], [.bool s4, .slice a7 i7 c7, .slice a8 i8 c8], rfl, rfl, by omega, by omega, by omega, ?_, ?_, ?_, ?_, ?_⟩
        · exact (Below.st (Below.st (Below.st (Below.st (Below.st (Below.st b2 (by omega)) (by omega)) (by omega)) (by omega)) (by omega)) (by omega))
        · exact ((((Bx.stored3 (Bx.thru e3 (Bx.thru e2 (Bx.newE (by first | omega | (simp; done) | (simp; omega))).dr))).ot (by omega)).ot (by omega)).ot (by omega))
        · exact (t1.keeps (((((((Keeps.thru e3 (Keeps.refl _ _ _) (by first | omega | (simp; done) | (simp; omega))).st (by first | (left; omega) | (left; simp; done) | (left; simp; omega) | (right; omega) | (right; simp; omega))).st (by first | (left; omega) | (left; simp; done) | (left; simp; omega) | (right; omega) | (right; simp; omega))).st (by first | (left; omega) | (left; simp; done) | (left; simp; omega) | (right; omega) | (right; simp; omega))).st (by first | (left; omega) | (left; simp; done) | (left; simp; omega) | (right; omega) | (right; simp; omega))).st (by first | (left; omega) | (left; simp; done) | (left; simp; omega) | (right; omega) | (right; simp; omega))).st (by first | (left; omega) | (left; simp; done) | (left; simp; omega) | (right; omega) | (right; simp; omega)))).mono (by first | omega | (simp; done) | (simp; omega))
        · exact (Bx.stored3 ((((Bx.thru e3 (Bx.thru e2 (Bx.newE (by first | omega | (simp; done) | (simp; omega))).al.dr)).ot (by omega)).ot (by omega)).ot (by omega)))
        · exact (t2.keeps (((((((Keeps.refl _ _ _).st (by first | (left; omega) | (left; simp; done) | (left; simp; omega) | (right; omega) | (right; simp; omega))).st (by first | (left; omega) | (left; simp; done) | (left; simp; omega) | (right; omega) | (right; simp; omega))).st (by first | (left; omega) | (left; simp; done) | (left; simp; omega) | (right; omega) | (right; simp; omega))).st (by first | (left; omega) | (left; simp; done) | (left; simp; omega) | (right; omega) | (right; simp; omega))).st (by first | (left; omega) | (left; simp; done) | (left; simp; omega) | (right; omega) | (right; simp; omega))).st (by first | (left; omega) | (left; simp; done) | (left; simp; omega) | (right; omega) | (right; simp; omega)))).mono (by first | omega | (simp; done) | (simp; omega))
    case rest =>
      obtain ⟨g5, g6, l5, l6, rfl, rfl, hg5, hg6, hg56, hbN, Qx5, tx5, Qx6, tx6⟩ := hcut
      clear hS b0
      replace hbT := bthen hbT hbN
      replace h1 := h1.below hbN (Nat.le_refl _)
      replace h2 := h2.below hbN (Nat.le_refl _)
      replace Q6 := Q6.below hbN (Nat.le_refl _)
      replace Q7 := Q7.below hbN (Nat.le_refl _)
      have sz_wc := hbN.size
      clear hbN
      obtain ⟨p5, c5, o5, d5, QA, nA, dA⟩ := boxOpen Qx5 tx5
      obtain ⟨p6, c6, o6, d6, QB, nB, dB⟩ := boxOpen Qx6 tx6
      clear Qx5 tx5 Qx6 tx6 h1 h2
      have la := rs_nm a
      have lb := rs_nm b
      have ma := rs_den a
      have mb := rs_den b
      have kQA_0 := QA.at 0 rfl
      have kQA_1 := QA.at 1 rfl
      have kQA_2 := QA.at 2 rfl
      have kQB_0 := QB.at 0 rfl
      have kQB_1 := QB.at 1 rfl
      have kQB_2 := QB.at 2 rfl
      go_wp2_with fail
      exact bodyPost_ret (v := .bool false) (by simp [results, Try.results34, go_sem]) rfl ⟨rfl, hbT⟩

end Go.Proofs.Ytpppgmgdcpaffaa
