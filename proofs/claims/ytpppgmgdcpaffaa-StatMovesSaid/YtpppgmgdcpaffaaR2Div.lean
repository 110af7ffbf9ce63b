/- Contract of vernierref2.Div. Conditions: at most 10^10 limbs. -/
import Derived.Test.YtpppgmgdcpaffaaGG
namespace Go.Proofs.Ytpppgmgdcpaffaa
open Go.RowKit

set_option maxRecDepth 100000 in
set_option maxHeartbeats 4000000 in
theorem r2Div (w : World) (v1 v2 : Value) (a b : Rat) (h1 : RatR 10000000000 w v1 a) (h2 : RatR 10000000000 w v2 b)  :
    Calls Try.prog 98 #[v1, v2] w (RetRatOk (a / b) (decide (b ≠ 0)) w) := by
  have z1 := h1.size (by omega)
  obtain ⟨s1, p1, i1, c1, o1, j1, d1, rfl⟩ := h1.open
  have z2 := h2.size (by omega)
  obtain ⟨s2, p2, i2, c2, o2, j2, d2, rfl⟩ := h2.open
  by_cases hb0 : b = 0
  · have q1 : (((limbs (nm b)).length : Int) == 0) = true := by rw [hb0]; rfl
    rw [show a / b = 0 by subst hb0; rw [Rat.div_def, Rat.inv_zero, Rat.mul_zero], show decide (b ≠ 0) = false by simp [hb0]]
    clear hb0
    go_enter Try.func98, Try.ntmps98
    go_wp2_with fail
    have hbN : Below w.heap.size w (((w.alloc (.cells #[.bool s1, .slice p1 i1 c1, .slice o1 j1 d1] 24)).alloc (.cells #[.bool s2, .slice p2 i2 c2, .slice o2 j2 d2] 24)).alloc (.cells #[.bool false, .slice none 0 0, .slice none 0 0] 24)) := allocs_below [(.cells #[.bool s1, .slice p1 i1 c1, .slice o1 j1 d1] 24), (.cells #[.bool s2, .slice p2 i2 c2, .slice o2 j2 d2] 24), (.cells #[.bool false, .slice none 0 0, .slice none 0 0] 24)] w
    have Q0 : Bx 24 (((w.alloc (.cells #[.bool s1, .slice p1 i1 c1, .slice o1 j1 d1] 24)).alloc (.cells #[.bool s2, .slice p2 i2 c2, .slice o2 j2 d2] 24)).alloc (.cells #[.bool false, .slice none 0 0, .slice none 0 0] 24)) (w.heap.size) [.bool s1, .slice p1 i1 c1, .slice o1 j1 d1] := allocs_at [(.cells #[.bool s1, .slice p1 i1 c1, .slice o1 j1 d1] 24), (.cells #[.bool s2, .slice p2 i2 c2, .slice o2 j2 d2] 24), (.cells #[.bool false, .slice none 0 0, .slice none 0 0] 24)] w 0 _ rfl
    have Q1 : Bx 24 (((w.alloc (.cells #[.bool s1, .slice p1 i1 c1, .slice o1 j1 d1] 24)).alloc (.cells #[.bool s2, .slice p2 i2 c2, .slice o2 j2 d2] 24)).alloc (.cells #[.bool false, .slice none 0 0, .slice none 0 0] 24)) (w.heap.size + 1) [.bool s2, .slice p2 i2 c2, .slice o2 j2 d2] := allocs_at [(.cells #[.bool s1, .slice p1 i1 c1, .slice o1 j1 d1] 24), (.cells #[.bool s2, .slice p2 i2 c2, .slice o2 j2 d2] 24), (.cells #[.bool false, .slice none 0 0, .slice none 0 0] 24)] w 1 _ rfl
    have Q2 : Bx 24 (((w.alloc (.cells #[.bool s1, .slice p1 i1 c1, .slice o1 j1 d1] 24)).alloc (.cells #[.bool s2, .slice p2 i2 c2, .slice o2 j2 d2] 24)).alloc (.cells #[.bool false, .slice none 0 0, .slice none 0 0] 24)) (w.heap.size + 1 + 1) [.bool false, .slice none 0 0, .slice none 0 0] := allocs_at [(.cells #[.bool s1, .slice p1 i1 c1, .slice o1 j1 d1] 24), (.cells #[.bool s2, .slice p2 i2 c2, .slice o2 j2 d2] 24), (.cells #[.bool false, .slice none 0 0, .slice none 0 0] 24)] w 2 _ rfl
    generalize (((w.alloc (.cells #[.bool s1, .slice p1 i1 c1, .slice o1 j1 d1] 24)).alloc (.cells #[.bool s2, .slice p2 i2 c2, .slice o2 j2 d2] 24)).alloc (.cells #[.bool false, .slice none 0 0, .slice none 0 0] 24)) = w1 at *
    have hbT := hbN
    replace h1 := h1.below hbN (Nat.le_refl _)
    replace h2 := h2.below hbN (Nat.le_refl _)
    have sz_w1 := hbN.size
    clear hbN
    have hgr0 := Q2.lt
    have hS : Hid (∀ w', Below w1.heap.size w1 w' → w'.cell? ⟨w.heap.size, 0, none⟩ = some (.bool s1) ∧ w'.cell? ⟨w.heap.size, 1, none⟩ = some (.slice p1 i1 c1) ∧ w'.cell? ⟨w.heap.size, 2, none⟩ = some (.slice o1 j1 d1) ∧ w'.cell? ⟨w.heap.size + 1, 0, none⟩ = some (.bool s2) ∧ w'.cell? ⟨w.heap.size + 1, 1, none⟩ = some (.slice p2 i2 c2) ∧ w'.cell? ⟨w.heap.size + 1, 2, none⟩ = some (.slice o2 j2 d2) ∧ w'.cell? ⟨w.heap.size + 1 + 1, 0, none⟩ = some (.bool false) ∧ w'.cell? ⟨w.heap.size + 1 + 1, 1, none⟩ = some (.slice none 0 0) ∧ w'.cell? ⟨w.heap.size + 1 + 1, 2, none⟩ = some (.slice none 0 0)) := Lib.hid (fun w' hb => by
      have h0 := Q0.below hb (Nat.le_refl _)
      have h1 := Q1.below hb (Nat.le_refl _)
      have h2 := Q2.below hb (Nat.le_refl _)
      exact ⟨h0.at 0 rfl, h0.at 1 rfl, h0.at 2 rfl, h1.at 0 rfl, h1.at 1 rfl, h1.at 2 rfl, h2.at 0 rfl, h2.at 1 rfl, h2.at 2 rfl⟩)
    have b0 : Below w1.heap.size w1 w1.drew := (Below.refl _ _).drew
    go_cut [6, 7] (fun s5 s6 wx => Lets2 w1 (a) (b) s5 s6 wx)
    case first =>
      go_region_held3 (fun w' => w'.cell? ⟨w.heap.size, 0, none⟩ = some (.bool s1) ∧ w'.cell? ⟨w.heap.size, 1, none⟩ = some (.slice p1 i1 c1) ∧ w'.cell? ⟨w.heap.size, 2, none⟩ = some (.slice o1 j1 d1) ∧ w'.cell? ⟨w.heap.size + 1, 0, none⟩ = some (.bool s2) ∧ w'.cell? ⟨w.heap.size + 1, 1, none⟩ = some (.slice p2 i2 c2) ∧ w'.cell? ⟨w.heap.size + 1, 2, none⟩ = some (.slice o2 j2 d2) ∧ w'.cell? ⟨w.heap.size + 1 + 1, 0, none⟩ = some (.bool false) ∧ w'.cell? ⟨w.heap.size + 1 + 1, 1, none⟩ = some (.slice none 0 0) ∧ w'.cell? ⟨w.heap.size + 1 + 1, 2, none⟩ = some (.slice none 0 0))
        ((refine hS.out _ ?_; repeat (first | with_reducible assumption | (with_reducible refine Below.al ?_) | (with_reducible refine Below.dr ?_) | (with_reducible exact Below.refl _ _) | ((with_reducible refine Below.st ?_ ?_); rotate_left; omega))))
        (first
          | ((go_simp; go_at_call 27; (with_reducible refine (r2Norm _ _ a ((h1.below (by repeat (first | with_reducible assumption | (with_reducible refine Below.al ?_) | (with_reducible refine Below.dr ?_) | (with_reducible exact Below.refl _ _))) (Nat.le_refl _)).more (by omega))).mono ?_); rintro e x2 ⟨u1, rfl, t1, e2⟩; obtain ⟨s3, a5, i5, c5, a6, i6, c6, rfl⟩ := t1.open; have b1 : Below w1.heap.size w1 x2 := bthen (by repeat (first | with_reducible assumption | (with_reducible refine Below.al ?_) | (with_reducible refine Below.dr ?_) | (with_reducible exact Below.refl _ _))) e2; obtain ⟨hc2, hf2⟩ := bcell e2; have hz2 := e2.size; (try simp at hz2); (try have : w1.heap.size < x2.heap.size := by omega); (try have : w1.heap.size + 1 < x2.heap.size := by omega)))
          | ((go_simp; go_at_call 27; (with_reducible refine (r2Norm _ _ b ((h2.below (by repeat (first | with_reducible assumption | (with_reducible refine Below.al ?_) | (with_reducible refine Below.dr ?_) | (with_reducible exact Below.refl _ _))) (Nat.le_refl _)).more (by omega))).mono ?_); rintro e x3 ⟨u2, rfl, t2, e3⟩; obtain ⟨s4, a7, i7, c7, a8, i8, c8, rfl⟩ := t2.open; have b2 : Below w1.heap.size w1 x3 := bthen (by repeat (first | with_reducible assumption | (with_reducible refine Below.al ?_) | (with_reducible refine Below.dr ?_) | (with_reducible exact Below.refl _ _))) e3; obtain ⟨hc3, hf3⟩ := bcell e3; have hz3 := e3.size; (try simp at hz3); (try have : x2.heap.size < x3.heap.size := by omega); (try have : x2.heap.size + 1 < x3.heap.size := by omega); (try have : w1.heap.size < x3.heap.size := by omega); (try have : w1.heap.size + 1 < x3.heap.size := by omega))))
      · go_wp2_with fail
        go_meet
        refine ⟨_, _, [.bool s3, .slice a5 i5 c5, .slice a6 i6 c6], [.bool s4, .slice a7 i7 c7, .slice a8 i8 c8], rfl, rfl, by omega, by omega, by omega, ?_, ?_, ?_, ?_, ?_⟩
        · exact (Below.al (Below.al b2))
        · exact (Bx.newE (by first | omega | (simp; done) | (simp; omega))).al
        · exact (t1.keeps (((Keeps.thru e3 (Keeps.refl _ _ _) (by first | omega | (simp; done) | (simp; omega))).al (by first | omega | (simp; done) | (simp; omega))).al (by first | omega | (simp; done) | (simp; omega)))).mono (by first | omega | (simp; done) | (simp; omega))
        · exact (Bx.newE (by first | omega | (simp; done) | (simp; omega)))
        · exact (t2.keeps (((Keeps.refl _ _ _).al (by first | omega | (simp; done) | (simp; omega))).al (by first | omega | (simp; done) | (simp; omega)))).mono (by first | omega | (simp; done) | (simp; omega))
      · go_wp2_with fail
        go_meet
        refine ⟨_, _, [.bool s3, .slice a5 i5 c5, .slice a6 i6 c6], [.bool s4, .slice a7 i7 c7, .slice a8 i8 c8], rfl, rfl, by omega, by omega, by omega, ?_, ?_, ?_, ?_, ?_⟩
        · exact (Below.al (Below.al b2))
        · exact (Bx.newE (by first | omega | (simp; done) | (simp; omega)))
        · exact (t1.keeps (((Keeps.thru e3 (Keeps.refl _ _ _) (by first | omega | (simp; done) | (simp; omega))).al (by first | omega | (simp; done) | (simp; omega))).al (by first | omega | (simp; done) | (simp; omega)))).mono (by first | omega | (simp; done) | (simp; omega))
        · exact (Bx.newE (by first | omega | (simp; done) | (simp; omega))).al
        · exact (t2.keeps (((Keeps.refl _ _ _).al (by first | omega | (simp; done) | (simp; omega))).al (by first | omega | (simp; done) | (simp; omega)))).mono (by first | omega | (simp; done) | (simp; omega))
      · go_wp2_with fail
        go_meet
        refine ⟨_, _, [.bool s3, .slice a5 i5 c5, .slice a6 i6 c6], [.bool s4, .slice a7 i7 c7, .slice a8 i8 c8], rfl, rfl, by omega, by omega, by omega, ?_, ?_, ?_, ?_, ?_⟩
        · exact (Below.al (Below.st (Below.st (Below.st b2 (by omega)) (by omega)) (by omega)))
        · exact (Bx.stored3 (Bx.thru e3 (Bx.newE (by first | omega | (simp; done) | (simp; omega))))).al
        · exact (t1.keeps (((((Keeps.thru e3 ((Keeps.refl _ _ _).al (by first | omega | (simp; done) | (simp; omega))) (by first | omega | (simp; done) | (simp; omega))).st (by first | (left; omega) | (left; simp; done) | (left; simp; omega) | (right; omega) | (right; simp; omega))).st (by first | (left; omega) | (left; simp; done) | (left; simp; omega) | (right; omega) | (right; simp; omega))).st (by first | (left; omega) | (left; simp; done) | (left; simp; omega) | (right; omega) | (right; simp; omega))).al (by first | omega | (simp; done) | (simp; omega)))).mono (by first | omega | (simp; done) | (simp; omega))
        · exact (Bx.newE (by first | omega | (simp; done) | (simp; omega)))
        · exact (t2.keeps (((((Keeps.refl _ _ _).st (by first | (left; omega) | (left; simp; done) | (left; simp; omega) | (right; omega) | (right; simp; omega))).st (by first | (left; omega) | (left; simp; done) | (left; simp; omega) | (right; omega) | (right; simp; omega))).st (by first | (left; omega) | (left; simp; done) | (left; simp; omega) | (right; omega) | (right; simp; omega))).al (by first | omega | (simp; done) | (simp; omega)))).mono (by first | omega | (simp; done) | (simp; omega))
      · go_wp2_with fail
        go_meet
        refine ⟨_, _, [.bool s3, .slice a5 i5 c5, .slice a6 i6 c6], [.bool s4, .slice a7 i7 c7, .slice a8 i8 c8], rfl, rfl, by omega, by omega, by omega, ?_, ?_, ?_, ?_, ?_⟩
        · exact (Below.st (Below.st (Below.st (Below.st (Below.st (Below.st b2 (by omega)) (by omega)) (by omega)) (by omega)) (by omega)) (by omega))
        · exact ((((Bx.stored3 (Bx.thru e3 (Bx.newE (by first | omega | (simp; done) | (simp; omega))).al)).ot (by omega)).ot (by omega)).ot (by omega))
        · exact (t1.keeps (((((((Keeps.thru e3 (((Keeps.refl _ _ _).al (by first | omega | (simp; done) | (simp; omega))).al (by first | omega | (simp; done) | (simp; omega))) (by first | omega | (simp; done) | (simp; omega))).st (by first | (left; omega) | (left; simp; done) | (left; simp; omega) | (right; omega) | (right; simp; omega))).st (by first | (left; omega) | (left; simp; done) | (left; simp; omega) | (right; omega) | (right; simp; omega))).st (by first | (left; omega) | (left; simp; done) | (left; simp; omega) | (right; omega) | (right; simp; omega))).st (by first | (left; omega) | (left; simp; done) | (left; simp; omega) | (right; omega) | (right; simp; omega))).st (by first | (left; omega) | (left; simp; done) | (left; simp; omega) | (right; omega) | (right; simp; omega))).st (by first | (left; omega) | (left; simp; done) | (left; simp; omega) | (right; omega) | (right; simp; omega)))).mono (by first | omega | (simp; done) | (simp; omega))
        · exact (Bx.stored3 ((((Bx.thru e3 (Bx.newE (by first | omega | (simp; done) | (simp; omega)))).ot (by omega)).ot (by omega)).ot (by omega)))
        · exact (t2.keeps (((((((Keeps.refl _ _ _).st (by first | (left; omega) | (left; simp; done) | (left; simp; omega) | (right; omega) | (right; simp; omega))).st (by first | (left; omega) | (left; simp; done) | (left; simp; omega) | (right; omega) | (right; simp; omega))).st (by first | (left; omega) | (left; simp; done) | (left; simp; omega) | (right; omega) | (right; simp; omega))).st (by first | (left; omega) | (left; simp; done) | (left; simp; omega) | (right; omega) | (right; simp; omega))).st (by first | (left; omega) | (left; simp; done) | (left; simp; omega) | (right; omega) | (right; simp; omega))).st (by first | (left; omega) | (left; simp; done) | (left; simp; omega) | (right; omega) | (right; simp; omega)))).mono (by first | omega | (simp; done) | (simp; omega))
      · go_wp2_with fail
        go_meet
        refine ⟨_, _, [.bool s3, .slice a5 i5 c5, .slice a6 i6 c6], [.bool s4, .slice a7 i7 c7, .slice a8 i8 c8], rfl, rfl, by omega, by omega, by omega, ?_, ?_, ?_, ?_, ?_⟩
        · exact (Below.al (Below.st (Below.st (Below.st b2 (by omega)) (by omega)) (by omega)))
        · exact (Bx.newE (by first | omega | (simp; done) | (simp; omega)))
        · exact (t1.keeps (((((Keeps.thru e3 ((Keeps.refl _ _ _).al (by first | omega | (simp; done) | (simp; omega))) (by first | omega | (simp; done) | (simp; omega))).st (by first | (left; omega) | (left; simp; done) | (left; simp; omega) | (right; omega) | (right; simp; omega))).st (by first | (left; omega) | (left; simp; done) | (left; simp; omega) | (right; omega) | (right; simp; omega))).st (by first | (left; omega) | (left; simp; done) | (left; simp; omega) | (right; omega) | (right; simp; omega))).al (by first | omega | (simp; done) | (simp; omega)))).mono (by first | omega | (simp; done) | (simp; omega))
        · exact (Bx.stored3 (Bx.thru e3 (Bx.newE (by first | omega | (simp; done) | (simp; omega))))).al
        · exact (t2.keeps (((((Keeps.refl _ _ _).st (by first | (left; omega) | (left; simp; done) | (left; simp; omega) | (right; omega) | (right; simp; omega))).st (by first | (left; omega) | (left; simp; done) | (left; simp; omega) | (right; omega) | (right; simp; omega))).st (by first | (left; omega) | (left; simp; done) | (left; simp; omega) | (right; omega) | (right; simp; omega))).al (by first | omega | (simp; done) | (simp; omega)))).mono (by first | omega | (simp; done) | (simp; omega))
      · go_wp2_with fail
        go_meet
        refine ⟨_, _, [.bool s3, .slice a5 i5 c5, .slice a6 i6 c6], [.bool s4, .slice a7 i7 c7, .slice a8 i8 c8], rfl, rfl, by omega, by omega, by omega, ?_, ?_, ?_, ?_, ?_⟩
        · exact (Below.st (Below.st (Below.st (Below.st (Below.st (Below.st b2 (by omega)) (by omega)) (by omega)) (by omega)) (by omega)) (by omega))
        · exact ((((Bx.stored3 (Bx.thru e3 (Bx.newE (by first | omega | (simp; done) | (simp; omega))))).ot (by omega)).ot (by omega)).ot (by omega))
        · exact (t1.keeps (((((((Keeps.thru e3 (((Keeps.refl _ _ _).al (by first | omega | (simp; done) | (simp; omega))).al (by first | omega | (simp; done) | (simp; omega))) (by first | omega | (simp; done) | (simp; omega))).st (by first | (left; omega) | (left; simp; done) | (left; simp; omega) | (right; omega) | (right; simp; omega))).st (by first | (left; omega) | (left; simp; done) | (left; simp; omega) | (right; omega) | (right; simp; omega))).st (by first | (left; omega) | (left; simp; done) | (left; simp; omega) | (right; omega) | (right; simp; omega))).st (by first | (left; omega) | (left; simp; done) | (left; simp; omega) | (right; omega) | (right; simp; omega))).st (by first | (left; omega) | (left; simp; done) | (left; simp; omega) | (right; omega) | (right; simp; omega))).st (by first | (left; omega) | (left; simp; done) | (left; simp; omega) | (right; omega) | (right; simp; omega)))).mono (by first | omega | (simp; done) | (simp; omega))
        · exact (Bx.stored3 ((((Bx.thru e3 (Bx.newE (by first | omega | (simp; done) | (simp; omega))).al).ot (by omega)).ot (by omega)).ot (by omega)))
        · exact (t2.keeps (((((((Keeps.refl _ _ _).st (by first | (left; omega) | (left; simp; done) | (left; simp; omega) | (right; omega) | (right; simp; omega))).st (by first | (left; omega) | (left; simp; done) | (left; simp; omega) | (right; omega) | (right; simp; omega))).st (by first | (left; omega) | (left; simp; done) | (left; simp; omega) | (right; omega) | (right; simp; omega))).st (by first | (left; omega) | (left; simp; done) | (left; simp; omega) | (right; omega) | (right; simp; omega))).st (by first | (left; omega) | (left; simp; done) | (left; simp; omega) | (right; omega) | (right; simp; omega))).st (by first | (left; omega) | (left; simp; done) | (left; simp; omega) | (right; omega) | (right; simp; omega)))).mono (by first | omega | (simp; done) | (simp; omega))
      · go_wp2_with fail
        go_meet
        refine ⟨_, _, [.bool s3, .slice a5 i5 c5, .slice a6 i6 c6], [.bool s4, .slice a7 i7 c7, .slice a8 i8 c8], rfl, rfl, by omega, by omega, by omega, ?_, ?_, ?_, ?_, ?_⟩
        · exact (Below.al (Below.st (Below.st (Below.st b2 (by omega)) (by omega)) (by omega)))
        · exact (Bx.stored3 (Bx.thru e3 (Bx.thru e2 (Bx.newE (by first | omega | (simp; done) | (simp; omega))).dr))).al
        · exact (t1.keeps (((((Keeps.thru e3 (Keeps.refl _ _ _) (by first | omega | (simp; done) | (simp; omega))).st (by first | (left; omega) | (left; simp; done) | (left; simp; omega) | (right; omega) | (right; simp; omega))).st (by first | (left; omega) | (left; simp; done) | (left; simp; omega) | (right; omega) | (right; simp; omega))).st (by first | (left; omega) | (left; simp; done) | (left; simp; omega) | (right; omega) | (right; simp; omega))).al (by first | omega | (simp; done) | (simp; omega)))).mono (by first | omega | (simp; done) | (simp; omega))
        · exact (Bx.newE (by first | omega | (simp; done) | (simp; omega)))
        · exact (t2.keeps (((((Keeps.refl _ _ _).st (by first | (left; omega) | (left; simp; done) | (left; simp; omega) | (right; omega) | (right; simp; omega))).st (by first | (left; omega) | (left; simp; done) | (left; simp; omega) | (right; omega) | (right; simp; omega))).st (by first | (left; omega) | (left; simp; done) | (left; simp; omega) | (right; omega) | (right; simp; omega))).al (by first | omega | (simp; done) | (simp; omega)))).mono (by first | omega | (simp; done) | (simp; omega))
      · go_wp2_with fail
        go_meet
        refine ⟨_, _, [.bool s3, .slice a5 i5 c5, .slice a6 i6 c6], [.bool s4, .slice a7 i7 c7, .slice a8 i8 c8], rfl, rfl, by omega, by omega, by omega, ?_, ?_, ?_, ?_, ?_⟩
        · exact (Below.st (Below.st (Below.st (Below.st (Below.st (Below.st b2 (by omega)) (by omega)) (by omega)) (by omega)) (by omega)) (by omega))
        · exact ((((Bx.stored3 (Bx.thru e3 (Bx.thru e2 (Bx.newE (by first | omega | (simp; done) | (simp; omega))).dr).al)).ot (by omega)).ot (by omega)).ot (by omega))
        · exact (t1.keeps (((((((Keeps.thru e3 ((Keeps.refl _ _ _).al (by first | omega | (simp; done) | (simp; omega))) (by first | omega | (simp; done) | (simp; omega))).st (by first | (left; omega) | (left; simp; done) | (left; simp; omega) | (right; omega) | (right; simp; omega))).st (by first | (left; omega) | (left; simp; done) | (left; simp; omega) | (right; omega) | (right; simp; omega))).st (by first | (left; omega) | (left; simp; done) | (left; simp; omega) | (right; omega) | (right; simp; omega))).st (by first | (left; omega) | (left; simp; done) | (left; simp; omega) | (right; omega) | (right; simp; omega))).st (by first | (left; omega) | (left; simp; done) | (left; simp; omega) | (right; omega) | (right; simp; omega))).st (by first | (left; omega) | (left; simp; done) | (left; simp; omega) | (right; omega) | (right; simp; omega)))).mono (by first | omega | (simp; done) | (simp; omega))
        · exact (Bx.stored3 ((((Bx.thru e3 (Bx.newE (by first | omega | (simp; done) | (simp; omega)))).ot (by omega)).ot (by omega)).ot (by omega)))
        · exact (t2.keeps (((((((Keeps.refl _ _ _).st (by first | (left; omega) | (left; simp; done) | (left; simp; omega) | (right; omega) | (right; simp; omega))).st (by first | (left; omega) | (left; simp; done) | (left; simp; omega) | (right; omega) | (right; simp; omega))).st (by first | (left; omega) | (left; simp; done) | (left; simp; omega) | (right; omega) | (right; simp; omega))).st (by first | (left; omega) | (left; simp; done) | (left; simp; omega) | (right; omega) | (right; simp; omega))).st (by first | (left; omega) | (left; simp; done) | (left; simp; omega) | (right; omega) | (right; simp; omega))).st (by first | (left; omega) | (left; simp; done) | (left; simp; omega) | (right; omega) | (right; simp; omega)))).mono (by first | omega | (simp; done) | (simp; omega))
      · go_wp2_with fail
        go_meet
        refine ⟨_, _, [.bool s3, .slice a5 i5 c5, .slice a6 i6 c6], [.bool s4, .slice a7 i7 c7, .slice a8 i8 c8], rfl, rfl, by omega, by omega, by omega, ?_, ?_, ?_, ?_, ?_⟩
        · exact (Below.st (Below.st (Below.st (Below.st (Below.st (Below.st b2 (by omega)) (by omega)) (by omega)) (by omega)) (by omega)) (by omega))
        · exact ((((Bx.stored3 (Bx.thru e3 (Bx.thru e2 (Bx.newE (by first | omega | (simp; done) | (simp; omega))).al.dr))).ot (by omega)).ot (by omega)).ot (by omega))
        · exact (t1.keeps (((((((Keeps.thru e3 (Keeps.refl _ _ _) (by first | omega | (simp; done) | (simp; omega))).st (by first | (left; omega) | (left; simp; done) | (left; simp; omega) | (right; omega) | (right; simp; omega))).st (by first | (left; omega) | (left; simp; done) | (left; simp; omega) | (right; omega) | (right; simp; omega))).st (by first | (left; omega) | (left; simp; done) | (left; simp; omega) | (right; omega) | (right; simp; omega))).st (by first | (left; omega) | (left; simp; done) | (left; simp; omega) | (right; omega) | (right; simp; omega))).st (by first | (left; omega) | (left; simp; done) | (left; simp; omega) | (right; omega) | (right; simp; omega))).st (by first | (left; omega) | (left; simp; done) | (left; simp; omega) | (right; omega) | (right; simp; omega)))).mono (by first | omega | (simp; done) | (simp; omega))
        · exact (Bx.stored3 ((((Bx.thru e3 (Bx.thru e2 (Bx.newE (by first | omega | (simp; done) | (simp; omega))).dr)).ot (by omega)).ot (by omega)).ot (by omega)))
        · exact (t2.keeps (((((((Keeps.refl _ _ _).st (by first | (left; omega) | (left; simp; done) | (left; simp; omega) | (right; omega) | (right; simp; omega))).st (by first | (left; omega) | (left; simp; done) | (left; simp; omega) | (right; omega) | (right; simp; omega))).st (by first | (left; omega) | (left; simp; done) | (left; simp; omega) | (right; omega) | (right; simp; omega))).st (by first | (left; omega) | (left; simp; done) | (left; simp; omega) | (right; omega) | (right; simp; omega))).st (by first | (left; omega) | (left; simp; done) | (left; simp; omega) | (right; omega) | (right; simp; omega))).st (by first | (left; omega) | (left; simp; done) | (left; simp; omega) | (right; omega) | (right; simp; omega)))).mono (by first | omega | (simp; done) | (simp; omega))
      · go_wp2_with fail
        go_meet
        refine ⟨_, _, [.bool s3, .slice a5 i5 c5, .slice a6 i6 c6], [.bool s4, .slice a7 i7 c7, .slice a8 i8 c8], rfl, rfl, by omega, by omega, by omega, ?_, ?_, ?_, ?_, ?_⟩
        · exact (Below.al (Below.st (Below.st (Below.st b2 (by omega)) (by omega)) (by omega)))
        · exact (Bx.newE (by first | omega | (simp; done) | (simp; omega)))
        · exact (t1.keeps (((((Keeps.thru e3 (Keeps.refl _ _ _) (by first | omega | (simp; done) | (simp; omega))).st (by first | (left; omega) | (left; simp; done) | (left; simp; omega) | (right; omega) | (right; simp; omega))).st (by first | (left; omega) | (left; simp; done) | (left; simp; omega) | (right; omega) | (right; simp; omega))).st (by first | (left; omega) | (left; simp; done) | (left; simp; omega) | (right; omega) | (right; simp; omega))).al (by first | omega | (simp; done) | (simp; omega)))).mono (by first | omega | (simp; done) | (simp; omega))
        · exact (Bx.stored3 (Bx.thru e3 (Bx.thru e2 (Bx.newE (by first | omega | (simp; done) | (simp; omega))).dr))).al
        · exact (t2.keeps (((((Keeps.refl _ _ _).st (by first | (left; omega) | (left; simp; done) | (left; simp; omega) | (right; omega) | (right; simp; omega))).st (by first | (left; omega) | (left; simp; done) | (left; simp; omega) | (right; omega) | (right; simp; omega))).st (by first | (left; omega) | (left; simp; done) | (left; simp; omega) | (right; omega) | (right; simp; omega))).al (by first | omega | (simp; done) | (simp; omega)))).mono (by first | omega | (simp; done) | (simp; omega))
      · go_wp2_with fail
        go_meet
        refine ⟨_, _, [.bool s3, .slice a5 i5 c5, .slice a6 i6 c6], [.bool s4, .slice a7 i7 c7, .slice a8 i8 c8], rfl, rfl, by omega, by omega, by omega, ?_, ?_, ?_, ?_, ?_⟩
        · exact (Below.st (Below.st (Below.st (Below.st (Below.st (Below.st b2 (by omega)) (by omega)) (by omega)) (by omega)) (by omega)) (by omega))
        · exact ((((Bx.stored3 (Bx.thru e3 (Bx.newE (by first | omega | (simp; done) | (simp; omega))))).ot (by omega)).ot (by omega)).ot (by omega))
        · exact (t1.keeps (((((((Keeps.thru e3 ((Keeps.refl _ _ _).al (by first | omega | (simp; done) | (simp; omega))) (by first | omega | (simp; done) | (simp; omega))).st (by first | (left; omega) | (left; simp; done) | (left; simp; omega) | (right; omega) | (right; simp; omega))).st (by first | (left; omega) | (left; simp; done) | (left; simp; omega) | (right; omega) | (right; simp; omega))).st (by first | (left; omega) | (left; simp; done) | (left; simp; omega) | (right; omega) | (right; simp; omega))).st (by first | (left; omega) | (left; simp; done) | (left; simp; omega) | (right; omega) | (right; simp; omega))).st (by first | (left; omega) | (left; simp; done) | (left; simp; omega) | (right; omega) | (right; simp; omega))).st (by first | (left; omega) | (left; simp; done) | (left; simp; omega) | (right; omega) | (right; simp; omega)))).mono (by first | omega | (simp; done) | (simp; omega))
        · exact (Bx.stored3 ((((Bx.thru e3 (Bx.thru e2 (Bx.newE (by first | omega | (simp; done) | (simp; omega))).dr).al).ot (by omega)).ot (by omega)).ot (by omega)))
        · exact (t2.keeps (((((((Keeps.refl _ _ _).st (by first | (left; omega) | (left; simp; done) | (left; simp; omega) | (right; omega) | (right; simp; omega))).st (by first | (left; omega) | (left; simp; done) | (left; simp; omega) | (right; omega) | (right; simp; omega))).st (by first | (left; omega) | (left; simp; done) | (left; simp; omega) | (right; omega) | (right; simp; omega))).st (by first | (left; omega) | (left; simp; done) | (left; simp; omega) | (right; omega) | (right; simp; omega))).st (by first | (left; omega) | (left; simp; done) | (left; simp; omega) | (right; omega) | (right; simp; omega))).st (by first | (left; omega) | (left; simp; done) | (left; simp; omega) | (right; omega) | (right; simp; omega)))).mono (by first | omega | (simp; done) | (simp; omega))
      · go_wp2_with fail
        go_meet
        refine ⟨_, _, [.bool s3, .slice a5 i5 c5, .slice a6 i6 c6], [.bool s4, .slice a7 i7 c7, .slice a8 i8 c8], rfl, rfl, by omega, by omega, by omega, ?_, ?_, ?_, ?_, ?_⟩
        · exact (Below.st (Below.st (Below.st (Below.st (Below.st (Below.st b2 (by omega)) (by omega)) (by omega)) (by omega)) (by omega)) (by omega))
        · exact ((((Bx.stored3 (Bx.thru e3 (Bx.thru e2 (Bx.newE (by first | omega | (simp; done) | (simp; omega))).dr))).ot (by omega)).ot (by omega)).ot (by omega))
        · exact (t1.keeps (((((((Keeps.thru e3 (Keeps.refl _ _ _) (by first | omega | (simp; done) | (simp; omega))).st (by first | (left; omega) | (left; simp; done) | (left; simp; omega) | (right; omega) | (right; simp; omega))).st (by first | (left; omega) | (left; simp; done) | (left; simp; omega) | (right; omega) | (right; simp; omega))).st (by first | (left; omega) | (left; simp; done) | (left; simp; omega) | (right; omega) | (right; simp; omega))).st (by first | (left; omega) | (left; simp; done) | (left; simp; omega) | (right; omega) | (right; simp; omega))).st (by first | (left; omega) | (left; simp; done) | (left; simp; omega) | (right; omega) | (right; simp; omega))).st (by first | (left; omega) | (left; simp; done) | (left; simp; omega) | (right; omega) | (right; simp; omega)))).mono (by first | omega | (simp; done) | (simp; omega))
        · exact (Bx.stored3 ((((Bx.thru e3 (Bx.thru e2 (Bx.newE (by first | omega | (simp; done) | (simp; omega))).al.dr)).ot (by omega)).ot (by omega)).ot (by omega)))
        · exact (t2.keeps (((((((Keeps.refl _ _ _).st (by first | (left; omega) | (left; simp; done) | (left; simp; omega) | (right; omega) | (right; simp; omega))).st (by first | (left; omega) | (left; simp; done) | (left; simp; omega) | (right; omega) | (right; simp; omega))).st (by first | (left; omega) | (left; simp; done) | (left; simp; omega) | (right; omega) | (right; simp; omega))).st (by first | (left; omega) | (left; simp; done) | (left; simp; omega) | (right; omega) | (right; simp; omega))).st (by first | (left; omega) | (left; simp; done) | (left; simp; omega) | (right; omega) | (right; simp; omega))).st (by first | (left; omega) | (left; simp; done) | (left; simp; omega) | (right; omega) | (right; simp; omega)))).mono (by first | omega | (simp; done) | (simp; omega))
    case rest =>
      obtain ⟨g5, g6, l5, l6, rfl, rfl, hg5, hg6, hg56, hbN, Qx5, tx5, Qx6, tx6⟩ := hcut
      clear hS b0
      replace hbT := bthen hbT hbN
      replace h1 := h1.below hbN (Nat.le_refl _)
      replace h2 := h2.below hbN (Nat.le_refl _)
      replace Q0 := Q0.below hbN (Nat.le_refl _)
      replace Q1 := Q1.below hbN (Nat.le_refl _)
      replace Q2 := Q2.below hbN (Nat.le_refl _)
      have sz_wc := hbN.size
      clear hbN
      obtain ⟨p5, c5, o5, d5, QA, nA, dA⟩ := boxOpen Qx5 tx5
      obtain ⟨p6, c6, o6, d6, QB, nB, dB⟩ := boxOpen Qx6 tx6
      clear Qx5 tx5 Qx6 tx6 h1 h2
      have la := rs_nm a
      have lb := rs_nm b
      have ma := rs_den a
      have mb := rs_den b
      have kQ2_0 := Q2.at 0 rfl
      have kQ2_1 := Q2.at 1 rfl
      have kQ2_2 := Q2.at 2 rfl
      have kQA_0 := QA.at 0 rfl
      have kQA_1 := QA.at 1 rfl
      have kQA_2 := QA.at 2 rfl
      have kQB_0 := QB.at 0 rfl
      have kQB_1 := QB.at 1 rfl
      have kQB_2 := QB.at 2 rfl
      go_wp2_with fail
      (try clear kQ2_0); (try clear kQ2_1); (try clear kQ2_2); (try clear kQA_0); (try clear kQA_1); (try clear kQA_2); (try clear kQB_0); (try clear kQB_1); (try clear kQB_2)
      have fr0 := Q2.fr 0
      have fr1 := Q2.fr 1
      have fr2 := Q2.fr 2
      refine (r2Norm wc _ 0 (by exact ⟨false, _, _, [], [], rfl, Nt.nil _ _, Nt.nil _ _, (qv_zero_num false 0).symm, Nat.zero_le _, Nat.zero_le _⟩)).mono ?_
      rintro e wE ⟨uR, rfl, tR, eE⟩
      have hgr := Q2.lt
      obtain ⟨sR, pR, iR, cR, oR, jR, dR, rfl⟩ := tR.open
      have Qr_ := Q2.below eE (Nat.le_refl _)
      have k_0 := Qr_.at 0 rfl
      have f_0 := Qr_.fr 0
      have k_1 := Qr_.at 1 rfl
      have f_1 := Qr_.fr 1
      have k_2 := Qr_.at 2 rfl
      have f_2 := Qr_.fr 2
      have hbE := bthen hbT eE
      go_wp2
      have HR := Bx.stored3 (x := .bool sR) (y := .slice pR iR cR) (z := .slice oR jR dR) Qr_
      have r0 := HR.at 0 rfl
      have r1 := HR.at 1 rfl
      have r2 := HR.at 2 rfl
      exact bodyPost_ret (v := .tuple #[.agg #[.bool sR, .slice pR iR cR, .slice oR jR dR], .bool false]) (by simp [results, Try.results98, go_sem, r0, r1, r2]) rfl
        ⟨_, rfl, (tR.set3 (by omega)).mono (by have := hbT.size; omega), below_set3 hbE (by omega)⟩
  · have q1 : (((limbs (nm b)).length : Int) == 0) = false := beq_eq_false_iff_ne.2 fun hc => hb0 (nm_zero.1 (limbs_len_zero.1 (by omega)))
    rw [show decide (b ≠ 0) = true by simp [hb0]]
    clear hb0
    go_enter Try.func98, Try.ntmps98
    go_wp2_with fail
    have hbN : Below w.heap.size w (((w.alloc (.cells #[.bool s1, .slice p1 i1 c1, .slice o1 j1 d1] 24)).alloc (.cells #[.bool s2, .slice p2 i2 c2, .slice o2 j2 d2] 24)).alloc (.cells #[.bool false, .slice none 0 0, .slice none 0 0] 24)) := allocs_below [(.cells #[.bool s1, .slice p1 i1 c1, .slice o1 j1 d1] 24), (.cells #[.bool s2, .slice p2 i2 c2, .slice o2 j2 d2] 24), (.cells #[.bool false, .slice none 0 0, .slice none 0 0] 24)] w
    have Q4 : Bx 24 (((w.alloc (.cells #[.bool s1, .slice p1 i1 c1, .slice o1 j1 d1] 24)).alloc (.cells #[.bool s2, .slice p2 i2 c2, .slice o2 j2 d2] 24)).alloc (.cells #[.bool false, .slice none 0 0, .slice none 0 0] 24)) (w.heap.size) [.bool s1, .slice p1 i1 c1, .slice o1 j1 d1] := allocs_at [(.cells #[.bool s1, .slice p1 i1 c1, .slice o1 j1 d1] 24), (.cells #[.bool s2, .slice p2 i2 c2, .slice o2 j2 d2] 24), (.cells #[.bool false, .slice none 0 0, .slice none 0 0] 24)] w 0 _ rfl
    have Q5 : Bx 24 (((w.alloc (.cells #[.bool s1, .slice p1 i1 c1, .slice o1 j1 d1] 24)).alloc (.cells #[.bool s2, .slice p2 i2 c2, .slice o2 j2 d2] 24)).alloc (.cells #[.bool false, .slice none 0 0, .slice none 0 0] 24)) (w.heap.size + 1) [.bool s2, .slice p2 i2 c2, .slice o2 j2 d2] := allocs_at [(.cells #[.bool s1, .slice p1 i1 c1, .slice o1 j1 d1] 24), (.cells #[.bool s2, .slice p2 i2 c2, .slice o2 j2 d2] 24), (.cells #[.bool false, .slice none 0 0, .slice none 0 0] 24)] w 1 _ rfl
    have Q6 : Bx 24 (((w.alloc (.cells #[.bool s1, .slice p1 i1 c1, .slice o1 j1 d1] 24)).alloc (.cells #[.bool s2, .slice p2 i2 c2, .slice o2 j2 d2] 24)).alloc (.cells #[.bool false, .slice none 0 0, .slice none 0 0] 24)) (w.heap.size + 1 + 1) [.bool false, .slice none 0 0, .slice none 0 0] := allocs_at [(.cells #[.bool s1, .slice p1 i1 c1, .slice o1 j1 d1] 24), (.cells #[.bool s2, .slice p2 i2 c2, .slice o2 j2 d2] 24), (.cells #[.bool false, .slice none 0 0, .slice none 0 0] 24)] w 2 _ rfl
    generalize (((w.alloc (.cells #[.bool s1, .slice p1 i1 c1, .slice o1 j1 d1] 24)).alloc (.cells #[.bool s2, .slice p2 i2 c2, .slice o2 j2 d2] 24)).alloc (.cells #[.bool false, .slice none 0 0, .slice none 0 0] 24)) = w1 at *
    have hbT := hbN
    replace h1 := h1.below hbN (Nat.le_refl _)
    replace h2 := h2.below hbN (Nat.le_refl _)
    have sz_w1 := hbN.size
    clear hbN
    have hgr0 := Q6.lt
    have hS : Hid (∀ w', Below w1.heap.size w1 w' → w'.cell? ⟨w.heap.size, 0, none⟩ = some (.bool s1) ∧ w'.cell? ⟨w.heap.size, 1, none⟩ = some (.slice p1 i1 c1) ∧ w'.cell? ⟨w.heap.size, 2, none⟩ = some (.slice o1 j1 d1) ∧ w'.cell? ⟨w.heap.size + 1, 0, none⟩ = some (.bool s2) ∧ w'.cell? ⟨w.heap.size + 1, 1, none⟩ = some (.slice p2 i2 c2) ∧ w'.cell? ⟨w.heap.size + 1, 2, none⟩ = some (.slice o2 j2 d2) ∧ w'.cell? ⟨w.heap.size + 1 + 1, 0, none⟩ = some (.bool false) ∧ w'.cell? ⟨w.heap.size + 1 + 1, 1, none⟩ = some (.slice none 0 0) ∧ w'.cell? ⟨w.heap.size + 1 + 1, 2, none⟩ = some (.slice none 0 0)) := Lib.hid (fun w' hb => by
      have h0 := Q4.below hb (Nat.le_refl _)
      have h1 := Q5.below hb (Nat.le_refl _)
      have h2 := Q6.below hb (Nat.le_refl _)
      exact ⟨h0.at 0 rfl, h0.at 1 rfl, h0.at 2 rfl, h1.at 0 rfl, h1.at 1 rfl, h1.at 2 rfl, h2.at 0 rfl, h2.at 1 rfl, h2.at 2 rfl⟩)
    have b0 : Below w1.heap.size w1 w1.drew := (Below.refl _ _).drew
    go_cut [6, 7] (fun s5 s6 wx => Lets2 w1 (a) (b) s5 s6 wx)
    case first =>
      go_region_held3 (fun w' => w'.cell? ⟨w.heap.size, 0, none⟩ = some (.bool s1) ∧ w'.cell? ⟨w.heap.size, 1, none⟩ = some (.slice p1 i1 c1) ∧ w'.cell? ⟨w.heap.size, 2, none⟩ = some (.slice o1 j1 d1) ∧ w'.cell? ⟨w.heap.size + 1, 0, none⟩ = some (.bool s2) ∧ w'.cell? ⟨w.heap.size + 1, 1, none⟩ = some (.slice p2 i2 c2) ∧ w'.cell? ⟨w.heap.size + 1, 2, none⟩ = some (.slice o2 j2 d2) ∧ w'.cell? ⟨w.heap.size + 1 + 1, 0, none⟩ = some (.bool false) ∧ w'.cell? ⟨w.heap.size + 1 + 1, 1, none⟩ = some (.slice none 0 0) ∧ w'.cell? ⟨w.heap.size + 1 + 1, 2, none⟩ = some (.slice none 0 0))
        ((refine hS.out _ ?_; repeat (first | with_reducible assumption | (with_reducible refine Below.al ?_) | (with_reducible refine Below.dr ?_) | (with_reducible exact Below.refl _ _) | ((with_reducible refine Below.st ?_ ?_); rotate_left; omega))))
        (first
          | ((go_simp; go_at_call 27; (with_reducible refine (r2Norm _ _ a ((h1.below (by repeat (first | with_reducible assumption | (with_reducible refine Below.al ?_) | (with_reducible refine Below.dr ?_) | (with_reducible exact Below.refl _ _))) (Nat.le_refl _)).more (by omega))).mono ?_); rintro e x2 ⟨u1, rfl, t1, e2⟩; obtain ⟨s3, a5, i5, c5, a6, i6, c6, rfl⟩ := t1.open; have b1 : Below w1.heap.size w1 x2 := bthen (by repeat (first | with_reducible assumption | (with_reducible refine Below.al ?_) | (with_reducible refine Below.dr ?_) | (with_reducible exact Below.refl _ _))) e2; obtain ⟨hc2, hf2⟩ := bcell e2; have hz2 := e2.size; (try simp at hz2); (try have : w1.heap.size < x2.heap.size := by omega); (try have : w1.heap.size + 1 < x2.heap.size := by omega)))
          | ((go_simp; go_at_call 27; (with_reducible refine (r2Norm _ _ b ((h2.below (by repeat (first | with_reducible assumption | (with_reducible refine Below.al ?_) | (with_reducible refine Below.dr ?_) | (with_reducible exact Below.refl _ _))) (Nat.le_refl _)).more (by omega))).mono ?_); rintro e x3 ⟨u2, rfl, t2, e3⟩; obtain ⟨s4, a7, i7, c7, a8, i8, c8, rfl⟩ := t2.open; have b2 : Below w1.heap.size w1 x3 := bthen (by repeat (first | with_reducible assumption | (with_reducible refine Below.al ?_) | (with_reducible refine Below.dr ?_) | (with_reducible exact Below.refl _ _))) e3; obtain ⟨hc3, hf3⟩ := bcell e3; have hz3 := e3.size; (try simp at hz3); (try have : x2.heap.size < x3.heap.size := by omega); (try have : x2.heap.size + 1 < x3.heap.size := by omega); (try have : w1.heap.size < x3.heap.size := by omega); (try have : w1.heap.size + 1 < x3.heap.size := by omega))))
      · go_wp2_with fail
        go_meet
        refine ⟨_, _, [.bool s3, .slice a5 i5 c5, .slice a6 i6 c6], [.bool s4, .slice a7 i7 c7, .slice a8 i8 c8], rfl, rfl, by omega, by omega, by omega, ?_, ?_, ?_, ?_, ?_⟩
        · exact (Below.al (Below.al b2))
        · exact (Bx.newE (by first | omega | (simp; done) | (simp; omega))).al
        · exact (t1.keeps (((Keeps.thru e3 (Keeps.refl _ _ _) (by first | omega | (simp; done) | (simp; omega))).al (by first | omega | (simp; done) | (simp; omega))).al (by first | omega | (simp; done) | (simp; omega)))).mono (by first | omega | (simp; done) | (simp; omega))
        · exact (Bx.newE (by first | omega | (simp; done) | (simp; omega)))
        · exact (t2.keeps (((Keeps.refl _ _ _).al (by first | omega | (simp; done) | (simp; omega))).al (by first | omega | (simp; done) | (simp; omega)))).mono (by first | omega | (simp; done) | (simp; omega))
      · go_wp2_with fail
        go_meet
        refine ⟨_, _, [.bool s3, .slice a5 i5 c5, .slice a6 i6 c6], [.bool s4, .slice a7 i7 c7, .slice a8 i8 c8], rfl, rfl, by omega, by omega, by omega, ?_, ?_, ?_, ?_, ?_⟩
        · exact (Below.al (Below.al b2))
        · exact (Bx.newE (by first | omega | (simp; done) | (simp; omega)))
        · exact (t1.keeps (((Keeps.thru e3 (Keeps.refl _ _ _) (by first | omega | (simp; done) | (simp; omega))).al (by first | omega | (simp; done) | (simp; omega))).al (by first | omega | (simp; done) | (simp; omega)))).mono (by first | omega | (simp; done) | (simp; omega))
        · exact (Bx.newE (by first | omega | (simp; done) | (simp; omega))).al
        · exact (t2.keeps (((Keeps.refl _ _ _).al (by first | omega | (simp; done) | (simp; omega))).al (by first | omega | (simp; done) | (simp; omega)))).mono (by first | omega | (simp; done) | (simp; omega))
      · go_wp2_with fail
        go_meet
        refine ⟨_, _, [.bool s3, .slice a5 i5 c5, .slice a6 i6 c6], [.bool s4, .slice a7 i7 c7, .slice a8 i8 c8], rfl, rfl, by omega, by omega, by omega, ?_, ?_, ?_, ?_, ?_⟩
        · exact (Below.al (Below.st (Below.st (Below.st b2 (by omega)) (by omega)) (by omega)))
        · exact (Bx.stored3 (Bx.thru e3 (Bx.newE (by first | omega | (simp; done) | (simp; omega))))).al
        · exact (t1.keeps (((((Keeps.thru e3 ((Keeps.refl _ _ _).al (by first | omega | (simp; done) | (simp; omega))) (by first | omega | (simp; done) | (simp; omega))).st (by first | (left; omega) | (left; simp; done) | (left; simp; omega) | (right; omega) | (right; simp; omega))).st (by first | (left; omega) | (left; simp; done) | (left; simp; omega) | (right; omega) | (right; simp; omega))).st (by first | (left; omega) | (left; simp; done) | (left; simp; omega) | (right; omega) | (right; simp; omega))).al (by first | omega | (simp; done) | (simp; omega)))).mono (by first | omega | (simp; done) | (simp; omega))
        · exact (Bx.newE (by first | omega | (simp; done) | (simp; omega)))
        · exact (t2.keeps (((((Keeps.refl _ _ _).st (by first | (left; omega) | (left; simp; done) | (left; simp; omega) | (right; omega) | (right; simp; omega))).st (by first | (left; omega) | (left; simp; done) | (left; simp; omega) | (right; omega) | (right; simp; omega))).st (by first | (left; omega) | (left; simp; done) | (left; simp; omega) | (right; omega) | (right; simp; omega))).al (by first | omega | (simp; done) | (simp; omega)))).mono (by first | omega | (simp; done) | (simp; omega))
      · go_wp2_with fail
        go_meet
        refine ⟨_, _, [.bool s3, .slice a5 i5 c5, .slice a6 i6 c6], [.bool s4, .slice a7 i7 c7, .slice a8 i8 c8], rfl, rfl, by omega, by omega, by omega, ?_, ?_, ?_, ?_, ?_⟩
        · exact (Below.st (Below.st (Below.st (Below.st (Below.st (Below.st b2 (by omega)) (by omega)) (by omega)) (by omega)) (by omega)) (by omega))
        · exact ((((Bx.stored3 (Bx.thru e3 (Bx.newE (by first | omega | (simp; done) | (simp; omega))).al)).ot (by omega)).ot (by omega)).ot (by omega))
        · exact (t1.keeps (((((((Keeps.thru e3 (((Keeps.refl _ _ _).al (by first | omega | (simp; done) | (simp; omega))).al (by first | omega | (simp; done) | (simp; omega))) (by first | omega | (simp; done) | (simp; omega))).st (by first | (left; omega) | (left; simp; done) | (left; simp; omega) | (right; omega) | (right; simp; omega))).st (by first | (left; omega) | (left; simp; done) | (left; simp; omega) | (right; omega) | (right; simp; omega))).st (by first | (left; omega) | (left; simp; done) | (left; simp; omega) | (right; omega) | (right; simp; omega))).st (by first | (left; omega) | (left; simp; done) | (left; simp; omega) | (right; omega) | (right; simp; omega))).st (by first | (left; omega) | (left; simp; done) | (left; simp; omega) | (right; omega) | (right; simp; omega))).st (by first | (left; omega) | (left; simp; done) | (left; simp; omega) | (right; omega) | (right; simp; omega)))).mono (by first | omega | (simp; done) | (simp; omega))
        · exact (Bx.stored3 ((((Bx.thru e3 (Bx.newE (by first | omega | (simp; done) | (simp; omega)))).ot (by omega)).ot (by omega)).ot (by omega)))
        · exact (t2.keeps (((((((Keeps.refl _ _ _).st (by first | (left; omega) | (left; simp; done) | (left; simp; omega) | (right; omega) | (right; simp; omega))).st (by first | (left; omega) | (left; simp; done) | (left; simp; omega) | (right; omega) | (right; simp; omega))).st (by first | (left; omega) | (left; simp; done) | (left; simp; omega) | (right; omega) | (right; simp; omega))).st (by first | (left; omega) | (left; simp; done) | (left; simp; omega) | (right; omega) | (right; simp; omega))).st (by first | (left; omega) | (left; simp; done) | (left; simp; omega) | (right; omega) | (right; simp; omega))).st (by first | (left; omega) | (left; simp; done) | (left; simp; omega) | (right; omega) | (right; simp; omega)))).mono (by first | omega | (simp; done) | (simp; omega))
      · go_wp2_with fail
        go_meet
        refine ⟨_, _, [.bool s3, .slice a5 i5 c5, .slice a6 i6 c6], [.bool s4, .slice a7 i7 c7, .slice a8 i8 c8], rfl, rfl, by omega, by omega, by omega, ?_, ?_, ?_, ?_, ?_⟩
        · exact (Below.al (Below.st (Below.st (Below.st b2 (by omega)) (by omega)) (by omega)))
        · exact (Bx.newE (by first | omega | (simp; done) | (simp; omega)))
        · exact (t1.keeps (((((Keeps.thru e3 ((Keeps.refl _ _ _).al (by first | omega | (simp; done) | (simp; omega))) (by first | omega | (simp; done) | (simp; omega))).st (by first | (left; omega) | (left; simp; done) | (left; simp; omega) | (right; omega) | (right; simp; omega))).st (by first | (left; omega) | (left; simp; done) | (left; simp; omega) | (right; omega) | (right; simp; omega))).st (by first | (left; omega) | (left; simp; done) | (left; simp; omega) | (right; omega) | (right; simp; omega))).al (by first | omega | (simp; done) | (simp; omega)))).mono (by first | omega | (simp; done) | (simp; omega))
        · exact (Bx.stored3 (Bx.thru e3 (Bx.newE (by first | omega | (simp; done) | (simp; omega))))).al
        · exact (t2.keeps (((((Keeps.refl _ _ _).st (by first | (left; omega) | (left; simp; done) | (left; simp; omega) | (right; omega) | (right; simp; omega))).st (by first | (left; omega) | (left; simp; done) | (left; simp; omega) | (right; omega) | (right; simp; omega))).st (by first | (left; omega) | (left; simp; done) | (left; simp; omega) | (right; omega) | (right; simp; omega))).al (by first | omega | (simp; done) | (simp; omega)))).mono (by first | omega | (simp; done) | (simp; omega))
      · go_wp2_with fail
        go_meet
        refine ⟨_, _, [.bool s3, .slice a5 i5 c5, .slice a6 i6 c6], [.bool s4, .slice a7 i7 c7, .slice a8 i8 c8], rfl, rfl, by omega, by omega, by omega, ?_, ?_, ?_, ?_, ?_⟩
        · exact (Below.st (Below.st (Below.st (Below.st (Below.st (Below.st b2 (by omega)) (by omega)) (by omega)) (by omega)) (by omega)) (by omega))
        · exact ((((Bx.stored3 (Bx.thru e3 (Bx.newE (by first | omega | (simp; done) | (simp; omega))))).ot (by omega)).ot (by omega)).ot (by omega))
        · exact (t1.keeps (((((((Keeps.thru e3 (((Keeps.refl _ _ _).al (by first | omega | (simp; done) | (simp; omega))).al (by first | omega | (simp; done) | (simp; omega))) (by first | omega | (simp; done) | (simp; omega))).st (by first | (left; omega) | (left; simp; done) | (left; simp; omega) | (right; omega) | (right; simp; omega))).st (by first | (left; omega) | (left; simp; done) | (left; simp; omega) | (right; omega) | (right; simp; omega))).st (by first | (left; omega) | (left; simp; done) | (left; simp; omega) | (right; omega) | (right; simp; omega))).st (by first | (left; omega) | (left; simp; done) | (left; simp; omega) | (right; omega) | (right; simp; omega))).st (by first | (left; omega) | (left; simp; done) | (left; simp; omega) | (right; omega) | (right; simp; omega))).st (by first | (left; omega) | (left; simp; done) | (left; simp; omega) | (right; omega) | (right; simp; omega)))).mono (by first | omega | (simp; done) | (simp; omega))
        · exact (Bx.stored3 ((((Bx.thru e3 (Bx.newE (by first | omega | (simp; done) | (simp; omega))).al).ot (by omega)).ot (by omega)).ot (by omega)))
        · exact (t2.keeps (((((((Keeps.refl _ _ _).st (by first | (left; omega) | (left; simp; done) | (left; simp; omega) | (right; omega) | (right; simp; omega))).st (by first | (left; omega) | (left; simp; done) | (left; simp; omega) | (right; omega) | (right; simp; omega))).st (by first | (left; omega) | (left; simp; done) | (left; simp; omega) | (right; omega) | (right; simp; omega))).st (by first | (left; omega) | (left; simp; done) | (left; simp; omega) | (right; omega) | (right; simp; omega))).st (by first | (left; omega) | (left; simp; done) | (left; simp; omega) | (right; omega) | (right; simp; omega))).st (by first | (left; omega) | (left; simp; done) | (left; simp; omega) | (right; omega) | (right; simp; omega)))).mono (by first | omega | (simp; done) | (simp; omega))
      · go_wp2_with fail
        go_meet
        refine ⟨_, _, [.bool s3, .slice a5 i5 c5, .slice a6 i6 c6], [.bool s4, .slice a7 i7 c7, .slice a8 i8 c8], rfl, rfl, by omega, by omega, by omega, ?_, ?_, ?_, ?_, ?_⟩
        · exact (Below.al (Below.st (Below.st (Below.st b2 (by omega)) (by omega)) (by omega)))
        · exact (Bx.stored3 (Bx.thru e3 (Bx.thru e2 (Bx.newE (by first | omega | (simp; done) | (simp; omega))).dr))).al
        · exact (t1.keeps (((((Keeps.thru e3 (Keeps.refl _ _ _) (by first | omega | (simp; done) | (simp; omega))).st (by first | (left; omega) | (left; simp; done) | (left; simp; omega) | (right; omega) | (right; simp; omega))).st (by first | (left; omega) | (left; simp; done) | (left; simp; omega) | (right; omega) | (right; simp; omega))).st (by first | (left; omega) | (left; simp; done) | (left; simp; omega) | (right; omega) | (right; simp; omega))).al (by first | omega | (simp; done) | (simp; omega)))).mono (by first | omega | (simp; done) | (simp; omega))
        · exact (Bx.newE (by first | omega | (simp; done) | (simp; omega)))
        · exact (t2.keeps (((((Keeps.refl _ _ _).st (by first | (left; omega) | (left; simp; done) | (left; simp; omega) | (right; omega) | (right; simp; omega))).st (by first | (left; omega) | (left; simp; done) | (left; simp; omega) | (right; omega) | (right; simp; omega))).st (by first | (left; omega) | (left; simp; done) | (left; simp; omega) | (right; omega) | (right; simp; omega))).al (by first | omega | (simp; done) | (simp; omega)))).mono (by first | omega | (simp; done) | (simp; omega))
      · go_wp2_with fail
        go_meet
        refine ⟨_, _, [.bool s3, .slice a5 i5 c5, .slice a6 i6 c6], [.bool s4, .slice a7 i7 c7, .slice a8 i8 c8], rfl, rfl, by omega, by omega, by omega, ?_, ?_, ?_, ?_, ?_⟩
        · exact (Below.st (Below.st (Below.st (Below.st (Below.st (Below.st b2 (by omega)) (by omega)) (by omega)) (by omega)) (by omega)) (by omega))
        · exact ((((Bx.stored3 (Bx.thru e3 (Bx.thru e2 (Bx.newE (by first | omega | (simp; done) | (simp; omega))).dr).al)).ot (by omega)).ot (by omega)).ot (by omega))
        · exact (t1.keeps (((((((Keeps.thru e3 ((Keeps.refl _ _ _).al (by first | omega | (simp; done) | (simp; omega))) (by first | omega | (simp; done) | (simp; omega))).st (by first | (left; omega) | (left; simp; done) | (left; simp; omega) | (right; omega) | (right; simp; omega))).st (by first | (left; omega) | (left; simp; done) | (left; simp; omega) | (right; omega) | (right; simp; omega))).st (by first | (left; omega) | (left; simp; done) | (left; simp; omega) | (right; omega) | (right; simp; omega))).st (by first | (left; omega) | (left; simp; done) | (left; simp; omega) | (right; omega) | (right; simp; omega))).st (by first | (left; omega) | (left; simp; done) | (left; simp; omega) | (right; omega) | (right; simp; omega))).st (by first | (left; omega) | (left; simp; done) | (left; simp; omega) | (right; omega) | (right; simp; omega)))).mono (by first | omega | (simp; done) | (simp; omega))
        · exact (Bx.stored3 ((((Bx.thru e3 (Bx.newE (by first | omega | (simp; done) | (simp; omega)))).ot (by omega)).ot (by omega)).ot (by omega)))
        · exact (t2.keeps (((((((Keeps.refl _ _ _).st (by first | (left; omega) | (left; simp; done) | (left; simp; omega) | (right; omega) | (right; simp; omega))).st (by first | (left; omega) | (left; simp; done) | (left; simp; omega) | (right; omega) | (right; simp; omega))).st (by first | (left; omega) | (left; simp; done) | (left; simp; omega) | (right; omega) | (right; simp; omega))).st (by first | (left; omega) | (left; simp; done) | (left; simp; omega) | (right; omega) | (right; simp; omega))).st (by first | (left; omega) | (left; simp; done) | (left; simp; omega) | (right; omega) | (right; simp; omega))).st (by first | (left; omega) | (left; simp; done) | (left; simp; omega) | (right; omega) | (right; simp; omega)))).mono (by first | omega | (simp; done) | (simp; omega))
      · go_wp2_with fail
        go_meet
        refine ⟨_, _, [.bool s3, .slice a5 i5 c5, .slice a6 i6 c6], [.bool s4, .slice a7 i7 c7, .slice a8 i8 c8], rfl, rfl, by omega, by omega, by omega, ?_, ?_, ?_, ?_, ?_⟩
        · exact (Below.st (Below.st (Below.st (Below.st (Below.st (Below.st b2 (by omega)) (by omega)) (by omega)) (by omega)) (by omega)) (by omega))
        · exact ((((Bx.stored3 (Bx.thru e3 (Bx.thru e2 (Bx.newE (by first | omega | (simp; done) | (simp; omega))).al.dr))).ot (by omega)).ot (by omega)).ot (by omega))
        · exact (t1.keeps (((((((Keeps.thru e3 (Keeps.refl _ _ _) (by first | omega | (simp; done) | (simp; omega))).st (by first | (left; omega) | (left; simp; done) | (left; simp; omega) | (right; omega) | (right; simp; omega))).st (by first | (left; omega) | (left; simp; done) | (left; simp; omega) | (right; omega) | (right; simp; omega))).st (by first | (left; omega) | (left; simp; done) | (left; simp; omega) | (right; omega) | (right; simp; omega))).st (by first | (left; omega) | (left; simp; done) | (left; simp; omega) | (right; omega) | (right; simp; omega))).st (by first | (left; omega) | (left; simp; done) | (left; simp; omega) | (right; omega) | (right; simp; omega))).st (by first | (left; omega) | (left; simp; done) | (left; simp; omega) | (right; omega) | (right; simp; omega)))).mono (by first | omega | (simp; done) | (simp; omega))
        · exact (Bx.stored3 ((((Bx.thru e3 (Bx.thru e2 (Bx.newE (by first | omega | (simp; done) | (simp; omega))).dr)).ot (by omega)).ot (by omega)).ot (by omega)))
        · exact (t2.keeps (((((((Keeps.refl _ _ _).st (by first | (left; omega) | (left; simp; done) | (left; simp; omega) | (right; omega) | (right; simp; omega))).st (by first | (left; omega) | (left; simp; done) | (left; simp; omega) | (right; omega) | (right; simp; omega))).st (by first | (left; omega) | (left; simp; done) | (left; simp; omega) | (right; omega) | (right; simp; omega))).st (by first | (left; omega) | (left; simp; done) | (left; simp; omega) | (right; omega) | (right; simp; omega))).st (by first | (left; omega) | (left; simp; done) | (left; simp; omega) | (right; omega) | (right; simp; omega))).st (by first | (left; omega) | (left; simp; done) | (left; simp; omega) | (right; omega) | (right; simp; omega)))).mono (by first | omega | (simp; done) | (simp; omega))
      · go_wp2_with fail
        go_meet
        refine ⟨_, _, [.bool s3, .slice a5 i5 c5, .slice a6 i6 c6], [.bool s4, .slice a7 i7 c7, .slice a8 i8 c8], rfl, rfl, by omega, by omega, by omega, ?_, ?_, ?_, ?_, ?_⟩
        · exact (Below.al (Below.st (Below.st (Below.st b2 (by omega)) (by omega)) (by omega)))
        · exact (Bx.newE (by first | omega | (simp; done) | (simp; omega)))
        · exact (t1.keeps (((((Keeps.thru e3 (Keeps.refl _ _ _) (by first | omega | (simp; done) | (simp; omega))).st (by first | (left; omega) | (left; simp; done) | (left; simp; omega) | (right; omega) | (right; simp; omega))).st (by first | (left; omega) | (left; simp; done) | (left; simp; omega) | (right; omega) | (right; simp; omega))).st (by first | (left; omega) | (left; simp; done) | (left; simp; omega) | (right; omega) | (right; simp; omega))).al (by first | omega | (simp; done) | (simp; omega)))).mono (by first | omega | (simp; done) | (simp; omega))
        · exact (Bx.stored3 (Bx.thru e3 (Bx.thru e2 (Bx.newE (by first | omega | (simp; done) | (simp; omega))).dr))).al
        · exact (t2.keeps (((((Keeps.refl _ _ _).st (by first | (left; omega) | (left; simp; done) | (left; simp; omega) | (right; omega) | (right; simp; omega))).st (by first | (left; omega) | (left; simp; done) | (left; simp; omega) | (right; omega) | (right; simp; omega))).st (by first | (left; omega) | (left; simp; done) | (left; simp; omega) | (right; omega) | (right; simp; omega))).al (by first | omega | (simp; done) | (simp; omega)))).mono (by first | omega | (simp; done) | (simp; omega))
      · go_wp2_with fail
        go_meet
        refine ⟨_, _, [.bool s3, .slice a5 i5 c5, .slice a6 i6 c6], [.bool s4, .slice a7 i7 c7, .slice a8 i8 c8], rfl, rfl, by omega, by omega, by omega, ?_, ?_, ?_, ?_, ?_⟩
        · exact (Below.st (Below.st (Below.st (Below.st (Below.st (Below.st b2 (by omega)) (by omega)) (by omega)) (by omega)) (by omega)) (by omega))
        · exact ((((Bx.stored3 (Bx.thru e3 (Bx.newE (by first | omega | (simp; done) | (simp; omega))))).ot (by omega)).ot (by omega)).ot (by omega))
        · exact (t1.keeps (((((((Keeps.thru e3 ((Keeps.refl _ _ _).al (by first | omega | (simp; done) | (simp; omega))) (by first | omega | (simp; done) | (simp; omega))).st (by first | (left; omega) | (left; simp; done) | (left; simp; omega) | (right; omega) | (right; simp; omega))).st (by first | (left; omega) | (left; simp; done) | (left; simp; omega) | (right; omega) | (right; simp; omega))).st (by first | (left; omega) | (left; simp; done) | (left; simp; omega) | (right; omega) | (right; simp; omega))).st (by first | (left; omega) | (left; simp; done) | (left; simp; omega) | (right; omega) | (right; simp; omega))).st (by first | (left; omega) | (left; simp; done) | (left; simp; omega) | (right; omega) | (right; simp; omega))).st (by first | (left; omega) | (left; simp; done) | (left; simp; omega) | (right; omega) | (right; simp; omega)))).mono (by first | omega | (simp; done) | (simp; omega))
        · exact (Bx.stored3 ((((Bx.thru e3 (Bx.thru e2 (Bx.newE (by first | omega | (simp; done) | (simp; omega))).dr).al).ot (by omega)).ot (by omega)).ot (by omega)))
        · exact (t2.keeps (((((((Keeps.refl _ _ _).st (by first | (left; omega) | (left; simp; done) | (left; simp; omega) | (right; omega) | (right; simp; omega))).st (by first | (left; omega) | (left; simp; done) | (left; simp; omega) | (right; omega) | (right; simp; omega))).st (by first | (left; omega) | (left; simp; done) | (left; simp; omega) | (right; omega) | (right; simp; omega))).st (by first | (left; omega) | (left; simp; done) | (left; simp; omega) | (right; omega) | (right; simp; omega))).st (by first | (left; omega) | (left; simp; done) | (left; simp; omega) | (right; omega) | (right; simp; omega))).st (by first | (left; omega) | (left; simp; done) | (left; simp; omega) | (right; omega) | (right; simp; omega)))).mono (by first | omega | (simp; done) | (simp; omega))
      · go_wp2_with fail
        go_meet
        refine ⟨_, _, [.bool s3, .slice a5 i5 c5, .slice a6 i6 c6], [.bool s4, .slice a7 i7 c7, .slice a8 i8 c8], rfl, rfl, by omega, by omega, by omega, ?_, ?_, ?_, ?_, ?_⟩
        · exact (Below.st (Below.st (Below.st (Below.st (Below.st (Below.st b2 (by omega)) (by omega)) (by omega)) (by omega)) (by omega)) (by omega))
        · exact ((((Bx.stored3 (Bx.thru e3 (Bx.thru e2 (Bx.newE (by first | omega | (simp; done) | (simp; omega))).dr))).ot (by omega)).ot (by omega)).ot (by omega))
        · exact (t1.keeps (((((((Keeps.thru e3 (Keeps.refl _ _ _) (by first | omega | (simp; done) | (simp; omega))).st (by first | (left; omega) | (left; simp; done) | (left; simp; omega) | (right; omega) | (right; simp; omega))).st (by first | (left; omega) | (left; simp; done) | (left; simp; omega) | (right; omega) | (right; simp; omega))).st (by first | (left; omega) | (left; simp; done) | (left; simp; omega) | (right; omega) | (right; simp; omega))).st (by first | (left; omega) | (left; simp; done) | (left; simp; omega) | (right; omega) | (right; simp; omega))).st (by first | (left; omega) | (left; simp; done) | (left; simp; omega) | (right; omega) | (right; simp; omega))).st (by first | (left; omega) | (left; simp; done) | (left; simp; omega) | (right; omega) | (right; simp; omega)))).mono (by first | omega | (simp; done) | (simp; omega))
        · exact (Bx.stored3 ((((Bx.thru e3 (Bx.thru e2 (Bx.newE (by first | omega | (simp; done) | (simp; omega))).al.dr)).ot (by omega)).ot (by omega)).ot (by omega)))
        · exact (t2.keeps (((((((Keeps.refl _ _ _).st (by first | (left; omega) | (left; simp; done) | (left; simp; omega) | (right; omega) | (right; simp; omega))).st (by first | (left; omega) | (left; simp; done) | (left; simp; omega) | (right; omega) | (right; simp; omega))).st (by first | (left; omega) | (left; simp; done) | (left; simp; omega) | (right; omega) | (right; simp; omega))).st (by first | (left; omega) | (left; simp; done) | (left; simp; omega) | (right; omega) | (right; simp; omega))).st (by first | (left; omega) | (left; simp; done) | (left; simp; omega) | (right; omega) | (right; simp; omega))).st (by first | (left; omega) | (left; simp; done) | (left; simp; omega) | (right; omega) | (right; simp; omega)))).mono (by first | omega | (simp; done) | (simp; omega))
    case rest =>
      obtain ⟨g5, g6, l5, l6, rfl, rfl, hg5, hg6, hg56, hbN, Qx5, tx5, Qx6, tx6⟩ := hcut
      clear hS b0
      replace hbT := bthen hbT hbN
      replace h1 := h1.below hbN (Nat.le_refl _)
      replace h2 := h2.below hbN (Nat.le_refl _)
      replace Q4 := Q4.below hbN (Nat.le_refl _)
      replace Q5 := Q5.below hbN (Nat.le_refl _)
      replace Q6 := Q6.below hbN (Nat.le_refl _)
      have sz_wc := hbN.size
      clear hbN
      obtain ⟨p5, c5, o5, d5, QA, nA, dA⟩ := boxOpen Qx5 tx5
      obtain ⟨p6, c6, o6, d6, QB, nB, dB⟩ := boxOpen Qx6 tx6
      clear Qx5 tx5 Qx6 tx6 h1 h2
      have la := rs_nm a
      have lb := rs_nm b
      have ma := rs_den a
      have mb := rs_den b
      have lN := limbs_len_mul (nm a) b.den
      have lD := limbs_len_mul a.den (nm b)
      have kQ6_0 := Q6.at 0 rfl
      have kQ6_1 := Q6.at 1 rfl
      have kQ6_2 := Q6.at 2 rfl
      have kQA_0 := QA.at 0 rfl
      have kQA_1 := QA.at 1 rfl
      have kQA_2 := QA.at 2 rfl
      have kQB_0 := QB.at 0 rfl
      have kQB_1 := QB.at 1 rfl
      have kQB_2 := QB.at 2 rfl
      go_wp2_with fail
      (try clear kQ6_0); (try clear kQ6_1); (try clear kQ6_2); (try clear kQA_0); (try clear kQA_1); (try clear kQA_2); (try clear kQB_0); (try clear kQB_1); (try clear kQB_2)
      have hS : Hid (∀ w', Below wc.heap.size wc w' → w'.cell? ⟨g5, 0, none⟩ = some (.bool (ng a)) ∧ w'.cell? ⟨g5, 1, none⟩ = some (.slice p5 (limbs (nm a)).length c5) ∧ w'.cell? ⟨g5, 2, none⟩ = some (.slice o5 (limbs a.den).length d5) ∧ w'.cell? ⟨g6, 0, none⟩ = some (.bool (ng b)) ∧ w'.cell? ⟨g6, 1, none⟩ = some (.slice p6 (limbs (nm b)).length c6) ∧ w'.cell? ⟨g6, 2, none⟩ = some (.slice o6 (limbs b.den).length d6)) := Lib.hid (fun w' hb => by
        have h0 := QA.below hb (Nat.le_refl _)
        have h1 := QB.below hb (Nat.le_refl _)
        exact ⟨h0.at 0 rfl, h0.at 1 rfl, h0.at 2 rfl, h1.at 0 rfl, h1.at 1 rfl, h1.at 2 rfl⟩)
      have b0_3 : Below wc.heap.size wc wc.drew := (Below.refl _ _).drew
      have hgr := Q6.lt
      have hlt_QA := QA.lt
      have hlt_QB := QB.lt
      go_region_held3 (fun w' => w'.cell? ⟨g5, 0, none⟩ = some (.bool (ng a)) ∧ w'.cell? ⟨g5, 1, none⟩ = some (.slice p5 (limbs (nm a)).length c5) ∧ w'.cell? ⟨g5, 2, none⟩ = some (.slice o5 (limbs a.den).length d5) ∧ w'.cell? ⟨g6, 0, none⟩ = some (.bool (ng b)) ∧ w'.cell? ⟨g6, 1, none⟩ = some (.slice p6 (limbs (nm b)).length c6) ∧ w'.cell? ⟨g6, 2, none⟩ = some (.slice o6 (limbs b.den).length d6))
        (first | exact hS.out _ b0_3 | exact hS.out _ b3_1 | exact hS.out _ b3_2 | exact hS.out _ b3_3 | exact ⟨(cS3 (by omega)).trans (hS.out _ b3_3).1, (cS3 (by omega)).trans (hS.out _ b3_3).2.1, (cS3 (by omega)).trans (hS.out _ b3_3).2.2.1, (cS3 (by omega)).trans (hS.out _ b3_3).2.2.2.1, (cS3 (by omega)).trans (hS.out _ b3_3).2.2.2.2.1, (cS3 (by omega)).trans (hS.out _ b3_3).2.2.2.2.2⟩)
        (first
          | ((go_simp; go_at_call 82; (with_reducible refine (cMul wc.drew _ _ (nm a) (b.den) _ _ (nA.below b0_3 (Nat.le_refl _)) (dB.below b0_3 (Nat.le_refl _)) (by omega) (by omega)).mono ?_); rintro e x3_1 ⟨u_n, rfl, t_n, e3_0⟩; have b3_1 := bthen b0_3 e3_0))
          | ((go_simp; go_at_call 82; (with_reducible refine (cMul x3_1 _ _ (a.den) (nm b) _ _ (dA.below b3_1 (Nat.le_refl _)) (nB.below b3_1 (Nat.le_refl _)) (by omega) (by omega)).mono ?_); rintro e x3_2 ⟨u_d, rfl, t_d, e3_1⟩; have b3_2 := bthen b3_1 e3_1))
          | ((go_simp; go_at_call 36; (with_reducible refine (r2OfE x3_2 (!(ng a == ng b)) _ _ (nm a * b.den) (a.den * nm b) _ _ (a / b) (t_n.below e3_1 (Nat.le_refl _)) t_d (by omega) (by omega) (div_qv a b)).mono ?_); rintro e x3_3 ⟨uR, rfl, tR, e3_2⟩; have b3_3 := bthen b3_2 e3_2; obtain ⟨sR, pR, iR, cR, oR, jR, dR, rfl⟩ := tR.open; have Qr_ := Q6.below b3_3 (Nat.le_refl _); have k_0 := Qr_.at 0 rfl; have k_1 := Qr_.at 1 rfl; have k_2 := Qr_.at 2 rfl; have f_0 := Qr_.fr 0; have f_1 := Qr_.fr 1; have f_2 := Qr_.fr 2)))
      clear hS
      have hbE := bthen hbT b3_3
      go_wp2_with fail
      have HR := Bx.stored3 (x := .bool sR) (y := .slice pR iR cR) (z := .slice oR jR dR) Qr_
      have r0 := HR.at 0 rfl
      have r1 := HR.at 1 rfl
      have r2 := HR.at 2 rfl
      have hzb := b3_2.size
      exact bodyPost_ret (v := .tuple #[.agg #[.bool sR, .slice pR iR cR, .slice oR jR dR], .bool true]) (by simp [results, Try.results98, go_sem, r0, r1, r2]) rfl
        ⟨_, rfl, (tR.set3 (by omega)).mono (by have := hbT.size; omega), below_set3 hbE (by omega)⟩

end Go.Proofs.Ytpppgmgdcpaffaa
