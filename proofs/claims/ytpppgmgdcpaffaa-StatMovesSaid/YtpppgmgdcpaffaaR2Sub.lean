/- Contract of vernierref2.Sub. Conditions: at most 10^10 limbs. -/
import Derived.Test.YtpppgmgdcpaffaaR2Add
import Derived.Test.YtpppgmgdcpaffaaGG
namespace Go.Proofs.Ytpppgmgdcpaffaa
open Go.RowKit

set_option maxRecDepth 100000 in
set_option maxHeartbeats 4000000 in
theorem r2Sub (w : World) (v1 v2 : Value) (a b : Rat) (h1 : RatR 10000000000 w v1 a) (h2 : RatR 10000000000 w v2 b)  :
    Calls Try.prog 41 #[v1, v2] w (RetRat (a - b) w) := by
  rw [Rat.sub_eq_add_neg]
  have z1 := h1.size (by omega)
  obtain ⟨s1, p1, i1, c1, o1, j1, d1, rfl⟩ := h1.open
  have z2 := h2.size (by omega)
  obtain ⟨s2, p2, i2, c2, o2, j2, d2, rfl⟩ := h2.open
  go_enter Try.func41, Try.ntmps41
  go_wp2_with fail
  have hbN : Below w.heap.size w (((w.alloc (.cells #[.bool s1, .slice p1 i1 c1, .slice o1 j1 d1] 24)).alloc (.cells #[.bool s2, .slice p2 i2 c2, .slice o2 j2 d2] 24)).alloc (.cells #[.bool false, .slice none 0 0, .slice none 0 0] 24)) := allocs_below [(.cells #[.bool s1, .slice p1 i1 c1, .slice o1 j1 d1] 24), (.cells #[.bool s2, .slice p2 i2 c2, .slice o2 j2 d2] 24), (.cells #[.bool false, .slice none 0 0, .slice none 0 0] 24)] w
  have Q0 : Bx 24 (((w.alloc (.cells #[.bool s1, .slice p1 i1 c1, .slice o1 j1 d1] 24)).alloc (.cells #[.bool s2, .slice p2 i2 c2, .slice o2 j2 d2] 24)).alloc (.cells #[.bool false, .slice none 0 0, .slice none 0 0] 24)) (w.heap.size) [.bool s1, .slice p1 i1 c1, .slice o1 j1 d1] := allocs_at [(.cells #[.bool s1, .slice p1 i1 c1, .slice o1 j1 d1] 24), (.cells #[.bool s2, .slice p2 i2 c2, .slice o2 j2 d2] 24), (.cells #[.bool false, .slice none 0 0, .slice none 0 0] 24)] w 0 _ rfl
  have Q1 : Bx 24 (((w.alloc (.cells #[.bool s1, .slice p1 i1 c1, .slice o1 j1 d1] 24)).alloc (.cells #[.bool s2, .slice p2 i2 c2, .slice o2 j2 d2] 24)).alloc (.cells #[.bool false, .slice none 0 0, .slice none 0 0] 24)) (w.heap.size + 1) [.bool s2, .slice p2 i2 c2, .slice o2 j2 d2] := allocs_at [(.cells #[.bool s1, .slice p1 i1 c1, .slice o1 j1 d1] 24), (.cells #[.bool s2, .slice p2 i2 c2, .slice o2 j2 d2] 24), (.cells #[.bool false, .slice none 0 0, .slice none 0 0] 24)] w 1 _ rfl
  have Q2 : Bx 24 (((w.alloc (.cells #[.bool s1, .slice p1 i1 c1, .slice o1 j1 d1] 24)).alloc (.cells #[.bool s2, .slice p2 i2 c2, .slice o2 j2 d2] 24)).alloc (.cells #[.bool false, .slice none 0 0, .slice none 0 0] 24)) (w.heap.size + 1 + 1) [.bool false, .slice none 0 0, .slice none 0 0] := allocs_at [(.cells #[.bool s1, .slice p1 i1 c1, .slice o1 j1 d1] 24), (.cells #[.bool s2, .slice p2 i2 c2, .slice o2 j2 d2] 24), (.cells #[.bool false, .slice none 0 0, .slice none 0 0] 24)] w 2 _ rfl
  generalize (((w.alloc (.cells #[.bool s1, .slice p1 i1 c1, .slice o1 j1 d1] 24)).alloc (.cells #[.bool s2, .slice p2 i2 c2, .slice o2 j2 d2] 24)).alloc (.cells #[.bool false, .slice none 0 0, .slice none 0 0] 24)) = w1 at *
  have hbT := hbN
  replace h1 := h1.below hbN (Nat.le_refl _)
  replace h2 := h2.below hbN (Nat.le_refl _)
  have sz_w1 := hbN.size
  clear hbN
  have hgr0 := Q2.lt
  have zn : rs (-b) ≤ 10000000000 := by rw [rs_neg]; exact z2
  have hS : Hid (∀ w', Below w1.heap.size w1 w' → w'.cell? ⟨w.heap.size, 0, none⟩ = some (.bool s1) ∧ w'.cell? ⟨w.heap.size, 1, none⟩ = some (.slice p1 i1 c1) ∧ w'.cell? ⟨w.heap.size, 2, none⟩ = some (.slice o1 j1 d1) ∧ w'.cell? ⟨w.heap.size + 1, 0, none⟩ = some (.bool s2) ∧ w'.cell? ⟨w.heap.size + 1, 1, none⟩ = some (.slice p2 i2 c2) ∧ w'.cell? ⟨w.heap.size + 1, 2, none⟩ = some (.slice o2 j2 d2)) := Lib.hid (fun w' hb => by
    have h0 := Q0.below hb (Nat.le_refl _)
    have h1 := Q1.below hb (Nat.le_refl _)
    exact ⟨h0.at 0 rfl, h0.at 1 rfl, h0.at 2 rfl, h1.at 0 rfl, h1.at 1 rfl, h1.at 2 rfl⟩)
  have b0_2 : Below w1.heap.size w1 w1.drew := (Below.refl _ _).drew
  have hgr := Q2.lt
  have hlt_Q0 := Q0.lt
  have hlt_Q1 := Q1.lt
  go_region_held3 (fun w' => w'.cell? ⟨w.heap.size, 0, none⟩ = some (.bool s1) ∧ w'.cell? ⟨w.heap.size, 1, none⟩ = some (.slice p1 i1 c1) ∧ w'.cell? ⟨w.heap.size, 2, none⟩ = some (.slice o1 j1 d1) ∧ w'.cell? ⟨w.heap.size + 1, 0, none⟩ = some (.bool s2) ∧ w'.cell? ⟨w.heap.size + 1, 1, none⟩ = some (.slice p2 i2 c2) ∧ w'.cell? ⟨w.heap.size + 1, 2, none⟩ = some (.slice o2 j2 d2))
    (first | exact hS.out _ b0_2 | exact hS.out _ b2_1 | exact hS.out _ b2_2 | exact ⟨(cS3 (by omega)).trans (hS.out _ b2_2).1, (cS3 (by omega)).trans (hS.out _ b2_2).2.1, (cS3 (by omega)).trans (hS.out _ b2_2).2.2.1, (cS3 (by omega)).trans (hS.out _ b2_2).2.2.2.1, (cS3 (by omega)).trans (hS.out _ b2_2).2.2.2.2.1, (cS3 (by omega)).trans (hS.out _ b2_2).2.2.2.2.2⟩)
    (first
      | ((go_simp; go_at_call 40; (with_reducible refine (r2Neg w1.drew _ b ((h2.below b0_2 (Nat.le_refl _)).more (by omega))).mono ?_); rintro e x2_1 ⟨u_n, rfl, t_n, e2_0⟩; have b2_1 := bthen b0_2 e2_0))
      | ((go_simp; go_at_call 28; (with_reducible refine (r2Add x2_1 _ _ a (-b) ((h1.below b2_1 (Nat.le_refl _)).more (by omega)) (t_n.rawK (Nat.le_trans zn (by omega)))).mono ?_); rintro e x2_2 ⟨uR, rfl, tR, e2_1⟩; have b2_2 := bthen b2_1 e2_1; obtain ⟨sR, pR, iR, cR, oR, jR, dR, rfl⟩ := tR.open; have Qr_ := Q2.below b2_2 (Nat.le_refl _); have k_0 := Qr_.at 0 rfl; have k_1 := Qr_.at 1 rfl; have k_2 := Qr_.at 2 rfl; have f_0 := Qr_.fr 0; have f_1 := Qr_.fr 1; have f_2 := Qr_.fr 2)))
  clear hS
  have hbE := bthen hbT b2_2
  go_wp2_with fail
  have HR := Bx.stored3 (x := .bool sR) (y := .slice pR iR cR) (z := .slice oR jR dR) Qr_
  have r0 := HR.at 0 rfl
  have r1 := HR.at 1 rfl
  have r2 := HR.at 2 rfl
  have hzb := b2_1.size
  exact bodyPost_ret (v := .agg #[.bool sR, .slice pR iR cR, .slice oR jR dR]) (by simp [results, Try.results41, go_sem, r0, r1, r2]) rfl
    ⟨_, rfl, (tR.set3 (by omega)).mono (by have := hbT.size; omega), below_set3 hbE (by omega)⟩

end Go.Proofs.Ytpppgmgdcpaffaa
