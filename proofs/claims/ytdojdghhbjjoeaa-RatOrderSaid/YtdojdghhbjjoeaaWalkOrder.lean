/- The walk of the law RatOrder. Conditions: rows shorter than 10^14. -/
import Derived.Test.YtdojdghhbjjoeaaGH
import Derived.Test.YtdojdghhbjjoeaaEqs
namespace Go.Proofs.Ytdojdghhbjjoeaa
open Go.RowKit

set_option maxRecDepth 100000 in
set_option maxHeartbeats 8000000 in
theorem walkOrder (w : World) (s1 s2 s3 : Bool) (x1 y1 x2 y2 x3 y3 : Value) (A1 B1 A2 B2 A3 B3 : List Nat) (n1 : Nt 0 w x1 A1) (m1 : Nt 0 w y1 B1) (n2 : Nt 0 w x2 A2) (m2 : Nt 0 w y2 B2) (n3 : Nt 0 w x3 A3) (m3 : Nt 0 w y3 B3) (la1 : A1.length ≤ 100000000000000) (lb1 : B1.length ≤ 100000000000000) (la2 : A2.length ≤ 100000000000000) (lb2 : B2.length ≤ 100000000000000) (la3 : A3.length ≤ 100000000000000) (lb3 : B3.length ≤ 100000000000000) :
    Calls Try.prog 11 #[.agg #[.bool s1, x1, y1], .agg #[.bool s2, x2, y2], .agg #[.bool s3, x3, y3]] w fun e w' => e = .returned (.bool true) ∧ Below w.heap.size w w' := by
  have r1 := raw_of s1 n1 m1
  have r2 := raw_of s2 n2 m2
  have r3 := raw_of s3 n3 m3
  generalize qv s1 (val A1) (val B1) = a at *
  obtain ⟨p1, c1, rfl, _⟩ := n1.open
  obtain ⟨o1, d1, rfl, _⟩ := m1.open
  generalize qv s2 (val A2) (val B2) = b at *
  obtain ⟨p2, c2, rfl, _⟩ := n2.open
  obtain ⟨o2, d2, rfl, _⟩ := m2.open
  generalize qv s3 (val A3) (val B3) = c at *
  obtain ⟨p3, c3, rfl, _⟩ := n3.open
  obtain ⟨o3, d3, rfl, _⟩ := m3.open
  clear n1 m1 n2 m2 n3 m3
  generalize A1.length = i1 at *
  generalize B1.length = j1 at *
  generalize A2.length = i2 at *
  generalize B2.length = j2 at *
  generalize A3.length = i3 at *
  generalize B3.length = j3 at *
  go_enter Try.func11, Try.ntmps11
  go_wp2_with fail
  have hb0 : Below w.heap.size w ((((w.alloc (.cells #[.bool s1, .slice p1 i1 c1, .slice o1 j1 d1] 24)).alloc (.cells #[.bool s2, .slice p2 i2 c2, .slice o2 j2 d2] 24)).alloc (.cells #[.bool s3, .slice p3 i3 c3, .slice o3 j3 d3] 24)).alloc (.cells #[.bool s1, .slice p1 i1 c1, .slice o1 j1 d1, .bool s2, .slice p2 i2 c2, .slice o2 j2 d2, .bool s3, .slice p3 i3 c3, .slice o3 j3 d3] 24)) := allocs_below [(.cells #[.bool s1, .slice p1 i1 c1, .slice o1 j1 d1] 24), (.cells #[.bool s2, .slice p2 i2 c2, .slice o2 j2 d2] 24), (.cells #[.bool s3, .slice p3 i3 c3, .slice o3 j3 d3] 24), (.cells #[.bool s1, .slice p1 i1 c1, .slice o1 j1 d1, .bool s2, .slice p2 i2 c2, .slice o2 j2 d2, .bool s3, .slice p3 i3 c3, .slice o3 j3 d3] 24)] w
  have P0 : Bx 24 ((((w.alloc (.cells #[.bool s1, .slice p1 i1 c1, .slice o1 j1 d1] 24)).alloc (.cells #[.bool s2, .slice p2 i2 c2, .slice o2 j2 d2] 24)).alloc (.cells #[.bool s3, .slice p3 i3 c3, .slice o3 j3 d3] 24)).alloc (.cells #[.bool s1, .slice p1 i1 c1, .slice o1 j1 d1, .bool s2, .slice p2 i2 c2, .slice o2 j2 d2, .bool s3, .slice p3 i3 c3, .slice o3 j3 d3] 24)) (w.heap.size) [.bool s1, .slice p1 i1 c1, .slice o1 j1 d1] := allocs_at [(.cells #[.bool s1, .slice p1 i1 c1, .slice o1 j1 d1] 24), (.cells #[.bool s2, .slice p2 i2 c2, .slice o2 j2 d2] 24), (.cells #[.bool s3, .slice p3 i3 c3, .slice o3 j3 d3] 24), (.cells #[.bool s1, .slice p1 i1 c1, .slice o1 j1 d1, .bool s2, .slice p2 i2 c2, .slice o2 j2 d2, .bool s3, .slice p3 i3 c3, .slice o3 j3 d3] 24)] w 0 _ rfl
  have P1 : Bx 24 ((((w.alloc (.cells #[.bool s1, .slice p1 i1 c1, .slice o1 j1 d1] 24)).alloc (.cells #[.bool s2, .slice p2 i2 c2, .slice o2 j2 d2] 24)).alloc (.cells #[.bool s3, .slice p3 i3 c3, .slice o3 j3 d3] 24)).alloc (.cells #[.bool s1, .slice p1 i1 c1, .slice o1 j1 d1, .bool s2, .slice p2 i2 c2, .slice o2 j2 d2, .bool s3, .slice p3 i3 c3, .slice o3 j3 d3] 24)) (w.heap.size + 1) [.bool s2, .slice p2 i2 c2, .slice o2 j2 d2] := allocs_at [(.cells #[.bool s1, .slice p1 i1 c1, .slice o1 j1 d1] 24), (.cells #[.bool s2, .slice p2 i2 c2, .slice o2 j2 d2] 24), (.cells #[.bool s3, .slice p3 i3 c3, .slice o3 j3 d3] 24), (.cells #[.bool s1, .slice p1 i1 c1, .slice o1 j1 d1, .bool s2, .slice p2 i2 c2, .slice o2 j2 d2, .bool s3, .slice p3 i3 c3, .slice o3 j3 d3] 24)] w 1 _ rfl
  have P2 : Bx 24 ((((w.alloc (.cells #[.bool s1, .slice p1 i1 c1, .slice o1 j1 d1] 24)).alloc (.cells #[.bool s2, .slice p2 i2 c2, .slice o2 j2 d2] 24)).alloc (.cells #[.bool s3, .slice p3 i3 c3, .slice o3 j3 d3] 24)).alloc (.cells #[.bool s1, .slice p1 i1 c1, .slice o1 j1 d1, .bool s2, .slice p2 i2 c2, .slice o2 j2 d2, .bool s3, .slice p3 i3 c3, .slice o3 j3 d3] 24)) (w.heap.size + 1 + 1) [.bool s3, .slice p3 i3 c3, .slice o3 j3 d3] := allocs_at [(.cells #[.bool s1, .slice p1 i1 c1, .slice o1 j1 d1] 24), (.cells #[.bool s2, .slice p2 i2 c2, .slice o2 j2 d2] 24), (.cells #[.bool s3, .slice p3 i3 c3, .slice o3 j3 d3] 24), (.cells #[.bool s1, .slice p1 i1 c1, .slice o1 j1 d1, .bool s2, .slice p2 i2 c2, .slice o2 j2 d2, .bool s3, .slice p3 i3 c3, .slice o3 j3 d3] 24)] w 2 _ rfl
  have P3 : Bx 24 ((((w.alloc (.cells #[.bool s1, .slice p1 i1 c1, .slice o1 j1 d1] 24)).alloc (.cells #[.bool s2, .slice p2 i2 c2, .slice o2 j2 d2] 24)).alloc (.cells #[.bool s3, .slice p3 i3 c3, .slice o3 j3 d3] 24)).alloc (.cells #[.bool s1, .slice p1 i1 c1, .slice o1 j1 d1, .bool s2, .slice p2 i2 c2, .slice o2 j2 d2, .bool s3, .slice p3 i3 c3, .slice o3 j3 d3] 24)) (w.heap.size + 1 + 1 + 1) [.bool s1, .slice p1 i1 c1, .slice o1 j1 d1, .bool s2, .slice p2 i2 c2, .slice o2 j2 d2, .bool s3, .slice p3 i3 c3, .slice o3 j3 d3] := allocs_at [(.cells #[.bool s1, .slice p1 i1 c1, .slice o1 j1 d1] 24), (.cells #[.bool s2, .slice p2 i2 c2, .slice o2 j2 d2] 24), (.cells #[.bool s3, .slice p3 i3 c3, .slice o3 j3 d3] 24), (.cells #[.bool s1, .slice p1 i1 c1, .slice o1 j1 d1, .bool s2, .slice p2 i2 c2, .slice o2 j2 d2, .bool s3, .slice p3 i3 c3, .slice o3 j3 d3] 24)] w 3 _ rfl
  generalize ((((w.alloc (.cells #[.bool s1, .slice p1 i1 c1, .slice o1 j1 d1] 24)).alloc (.cells #[.bool s2, .slice p2 i2 c2, .slice o2 j2 d2] 24)).alloc (.cells #[.bool s3, .slice p3 i3 c3, .slice o3 j3 d3] 24)).alloc (.cells #[.bool s1, .slice p1 i1 c1, .slice o1 j1 d1, .bool s2, .slice p2 i2 c2, .slice o2 j2 d2, .bool s3, .slice p3 i3 c3, .slice o3 j3 d3] 24)) = w0 at *
  have CB := Lib.hid (lawBig w0 (w.heap.size + 1 + 1 + 1) 3 _ (lens3 P3 la1 lb1 la2 lb2 la3 lb3) P3.lt (by simp))
  refine CB.out.mono ?_
  rintro e w1 ⟨rfl, hb1⟩
  have hb01 := bthen hb0 hb1
  by_cases hbig : 16 < (i1 + j1) + (i2 + j2) + (i3 + j3)
  · have hd : decide (16 < ([i1 + j1, i2 + j2, i3 + j3] : List Nat).sum) = true := decide_eq_true (by simp; omega)
    rw [hd]
    clear CB
    go_wp2
    go_ret
    exact ⟨rfl, hb01⟩
  have hd : decide (16 < ([i1 + j1, i2 + j2, i3 + j3] : List Nat).sum) = false := decide_eq_false (by simp; omega)
  rw [hd]
  clear CB hd P3
  replace P0 := P0.below hb1 (Nat.le_refl _)
  replace P1 := P1.below hb1 (Nat.le_refl _)
  replace P2 := P2.below hb1 (Nat.le_refl _)
  have kP0_0 := P0.at 0 rfl
  have kP0_1 := P0.at 1 rfl
  have kP0_2 := P0.at 2 rfl
  have kP1_0 := P1.at 0 rfl
  have kP1_1 := P1.at 1 rfl
  have kP1_2 := P1.at 2 rfl
  have kP2_0 := P2.at 0 rfl
  have kP2_1 := P2.at 1 rfl
  have kP2_2 := P2.at 2 rfl
  have u_i2 := wrap_add (a := i1) (b := i2) (by omega)
  have u_i3 := wrap_add (a := i1 + i2) (b := i3) (by omega)
  have u_j1 := wrap_add (a := i1 + i2 + i3) (b := j1) (by omega)
  have u_j2 := wrap_add (a := i1 + i2 + i3 + j1) (b := j2) (by omega)
  have u_j3 := wrap_add (a := i1 + i2 + i3 + j1 + j2) (b := j3) (by omega)
  by_cases hsec : 8 < i1 + i2 + i3 + j1 + j2 + j3
  · have hi : (8 : Int) < ((i1 + i2 + i3 + j1 + j2 + j3 : Nat) : Int) := by omega
    go_wp2
    go_ret
    exact ⟨rfl, hb01⟩
  have hi : ¬ (8 : Int) < ((i1 + i2 + i3 + j1 + j2 + j3 : Nat) : Int) := by omega
  have R1 := (r1.below hb01 (Nat.le_refl _)).more (K' := 8) (by omega)
  have R2 := (r2.below hb01 (Nat.le_refl _)).more (K' := 8) (by omega)
  have R3 := (r3.below hb01 (Nat.le_refl _)).more (K' := 8) (by omega)
  have z1 : rs a ≤ 8 := R1.size (by omega)
  have z2 : rs b ≤ 8 := R2.size (by omega)
  have z3 : rs c ≤ 8 := R3.size (by omega)
  clear r1 r2 r3 la1 lb1 la2 lb2 la3 lb3 hb0 hb1 hbig hsec
  have hbT := hb01
  clear hb01
  have M := cmpQ_bd a b
  have E1 := Lib.hid (cmpQ_neg a b)
  have E2 : Hid (decide (a = b) = (cmpQ a b == 0)) := Lib.hid (by rw [Bool.eq_iff_iff]; simp [cmpQ_zero])
  have E3 := Lib.hid (cmpQ_add a b c)
  generalize hk : cmpQ a b = k at *
  replace hk := Lib.hid hk
  have wk : IntKind.i64.wrap (-k) = -k := IntWalk.i64_in _ (by omega)
  go_wp2_with fail
  refine (ratCmpE w1 _ _ a b (R1.more (by omega)) (R2.more (by omega)) hk.out).mono ?_
  rintro e w2 ⟨rfl, hbN⟩
  replace hbT := bthen hbT hbN
  replace R1 := R1.below hbN (Nat.le_refl _)
  replace R2 := R2.below hbN (Nat.le_refl _)
  replace R3 := R3.below hbN (Nat.le_refl _)
  replace P0 := P0.below hbN (Nat.le_refl _)
  replace P1 := P1.below hbN (Nat.le_refl _)
  replace P2 := P2.below hbN (Nat.le_refl _)
  have sz_w2 := hbN.size
  clear hbN
  (try clear kP0_0); (try clear kP0_1); (try clear kP0_2); (try clear kP1_0); (try clear kP1_1); (try clear kP1_2); (try clear kP2_0); (try clear kP2_1); (try clear kP2_2)
  have kP0_0 := P0.at 0 rfl
  have kP0_1 := P0.at 1 rfl
  have kP0_2 := P0.at 2 rfl
  have kP1_0 := P1.at 0 rfl
  have kP1_1 := P1.at 1 rfl
  have kP1_2 := P1.at 2 rfl
  have kP2_0 := P2.at 0 rfl
  have kP2_1 := P2.at 1 rfl
  have kP2_2 := P2.at 2 rfl
  go_wp2_with fail
  (try clear kP0_0); (try clear kP0_1); (try clear kP0_2); (try clear kP1_0); (try clear kP1_1); (try clear kP1_2); (try clear kP2_0); (try clear kP2_1); (try clear kP2_2)
  have hS : Hid (∀ w', Below w2.heap.size w2 w' → w'.cell? ⟨w.heap.size, 0, none⟩ = some (.bool s1) ∧ w'.cell? ⟨w.heap.size, 1, none⟩ = some (.slice p1 i1 c1) ∧ w'.cell? ⟨w.heap.size, 2, none⟩ = some (.slice o1 j1 d1) ∧ w'.cell? ⟨w.heap.size + 1, 0, none⟩ = some (.bool s2) ∧ w'.cell? ⟨w.heap.size + 1, 1, none⟩ = some (.slice p2 i2 c2) ∧ w'.cell? ⟨w.heap.size + 1, 2, none⟩ = some (.slice o2 j2 d2) ∧ w'.cell? ⟨w.heap.size + 1 + 1, 0, none⟩ = some (.bool s3) ∧ w'.cell? ⟨w.heap.size + 1 + 1, 1, none⟩ = some (.slice p3 i3 c3) ∧ w'.cell? ⟨w.heap.size + 1 + 1, 2, none⟩ = some (.slice o3 j3 d3)) := Lib.hid (fun w' hb => by
    have h0 := P0.below hb (Nat.le_refl _)
    have h1 := P1.below hb (Nat.le_refl _)
    have h2 := P2.below hb (Nat.le_refl _)
    exact ⟨h0.at 0 rfl, h0.at 1 rfl, h0.at 2 rfl, h1.at 0 rfl, h1.at 1 rfl, h1.at 2 rfl, h2.at 0 rfl, h2.at 1 rfl, h2.at 2 rfl⟩)
  have b0_3 : Below w2.heap.size w2 w2.drew := (Below.refl _ _).drew
  have zz2 : rs (a + c) ≤ 17 := by have h := rs_add (a) (c); omega
  have zz3 : rs (b + c) ≤ 17 := by have h := rs_add (b) (c); omega
  go_region_held3 (fun w' => w'.cell? ⟨w.heap.size, 0, none⟩ = some (.bool s1) ∧ w'.cell? ⟨w.heap.size, 1, none⟩ = some (.slice p1 i1 c1) ∧ w'.cell? ⟨w.heap.size, 2, none⟩ = some (.slice o1 j1 d1) ∧ w'.cell? ⟨w.heap.size + 1, 0, none⟩ = some (.bool s2) ∧ w'.cell? ⟨w.heap.size + 1, 1, none⟩ = some (.slice p2 i2 c2) ∧ w'.cell? ⟨w.heap.size + 1, 2, none⟩ = some (.slice o2 j2 d2) ∧ w'.cell? ⟨w.heap.size + 1 + 1, 0, none⟩ = some (.bool s3) ∧ w'.cell? ⟨w.heap.size + 1 + 1, 1, none⟩ = some (.slice p3 i3 c3) ∧ w'.cell? ⟨w.heap.size + 1 + 1, 2, none⟩ = some (.slice o3 j3 d3))
    (first | exact hS.out _ b0_3 | exact hS.out _ b3_1 | exact hS.out _ b3_2 | exact hS.out _ b3_3 | exact hS.out _ b3_4 | exact hS.out _ b3_5 | exact hS.out _ b3_6)
    (first
      | ((go_simp; go_at_call 28; (with_reducible refine (ratCmpE w2.drew _ _ b a ((R2.below b0_3 (Nat.le_refl _)).more (by omega)) ((R1.below b0_3 (Nat.le_refl _)).more (by omega)) E1.out).mono ?_); rintro e x3_1 ⟨rfl, e3_0⟩; have b3_1 := bthen b0_3 e3_0))
      | ((go_simp; go_at_call 51; (with_reducible refine (ratSameE x3_1 _ _ a b ((R1.below b3_1 (Nat.le_refl _)).more (by omega)) ((R2.below b3_1 (Nat.le_refl _)).more (by omega)) E2.out).mono ?_); rintro e x3_2 ⟨rfl, e3_1⟩; have b3_2 := bthen b3_1 e3_1))
      | ((go_simp; go_at_call 19; (with_reducible refine (ratAdd x3_2 _ _ a c ((R1.below b3_2 (Nat.le_refl _)).more (by omega)) ((R3.below b3_2 (Nat.le_refl _)).more (by omega))).mono ?_); rintro e x3_3 ⟨y0, rfl, t0, e3_2⟩; have b3_3 := bthen b3_2 e3_2))
      | ((go_simp; go_at_call 19; (with_reducible refine (ratAdd x3_3 _ _ b c ((R2.below b3_3 (Nat.le_refl _)).more (by omega)) ((R3.below b3_3 (Nat.le_refl _)).more (by omega))).mono ?_); rintro e x3_4 ⟨y1, rfl, t1, e3_3⟩; have b3_4 := bthen b3_3 e3_3))
      | ((go_simp; go_at_call 28; (with_reducible refine (ratCmpE x3_4 _ _ (a + c) (b + c) ((t0.below e3_3 (Nat.le_refl _)).rawK (Nat.le_trans zz2 (by omega))) (t1.rawK (Nat.le_trans zz3 (by omega))) E3.out).mono ?_); rintro e x3_5 ⟨rfl, e3_4⟩; have b3_5 := bthen b3_4 e3_4))
      | ((go_simp; go_at_call 21; (with_reducible refine (lawKnown x3_5).mono ?_); rintro e x3_6 ⟨rfl, e3_5⟩; have b3_6 := bthen b3_5 e3_5)))
  clear hS
  replace R1 := R1.below b3_6 (Nat.le_refl _)
  replace R2 := R2.below b3_6 (Nat.le_refl _)
  replace R3 := R3.below b3_6 (Nat.le_refl _)
  replace t0 := t0.below (bthen (bthen e3_3 e3_4) e3_5) (Nat.le_refl _)
  replace t1 := t1.below (bthen e3_4 e3_5) (Nat.le_refl _)
  replace P0 := P0.below b3_6 (Nat.le_refl _)
  replace P1 := P1.below b3_6 (Nat.le_refl _)
  replace P2 := P2.below b3_6 (Nat.le_refl _)
  replace hbT := bthen hbT b3_6
  have sz_b3_1 := b3_1.size
  have sz_b3_2 := b3_2.size
  have sz_b3_3 := b3_3.size
  have sz_b3_4 := b3_4.size
  have sz_b3_5 := b3_5.size
  have sz_b3_6 := b3_6.size
  go_wp2
  go_ret
  exact ⟨by simp, hbT⟩

end Go.Proofs.Ytdojdghhbjjoeaa
