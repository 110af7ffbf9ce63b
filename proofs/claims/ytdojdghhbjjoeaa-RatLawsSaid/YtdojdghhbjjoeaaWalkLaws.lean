/- The walk of the law RatLaws. Conditions: rows shorter than 10^14. -/
import Derived.Test.YtdojdghhbjjoeaaLens
namespace Go.Proofs.Ytdojdghhbjjoeaa
open Go.RowKit

set_option maxRecDepth 100000 in
set_option maxHeartbeats 4000000 in
theorem walkLaws (w : World) (s1 s2 s3 : Bool) (x1 y1 x2 y2 x3 y3 : Value) (A1 B1 A2 B2 A3 B3 : List Nat) (n1 : Nt 0 w x1 A1) (m1 : Nt 0 w y1 B1) (n2 : Nt 0 w x2 A2) (m2 : Nt 0 w y2 B2) (n3 : Nt 0 w x3 A3) (m3 : Nt 0 w y3 B3) (la1 : A1.length ≤ 100000000000000) (lb1 : B1.length ≤ 100000000000000) (la2 : A2.length ≤ 100000000000000) (lb2 : B2.length ≤ 100000000000000) (la3 : A3.length ≤ 100000000000000) (lb3 : B3.length ≤ 100000000000000) :
    Calls Try.prog 3 #[.agg #[.bool s1, x1, y1], .agg #[.bool s2, x2, y2], .agg #[.bool s3, x3, y3]] w fun e w' => e = .returned (.bool true) ∧ Below w.heap.size w w' := by
  have r1 := raw_of s1 n1 m1
  have r2 := raw_of s2 n2 m2
  have r3 := raw_of s3 n3 m3
  generalize qv s1 (val A1) (val B1) = a at *
  obtain ⟨p1, c1, rfl, _⟩ := n1.open
  obtain ⟨o1, d1, rfl, _⟩ := m1.open
  generalize qv s2 (val A2) (val B2) = b at *
  obtain ⟨p2, c2, rfl, _⟩ := n2.open
  obtain ⟨o2, d2, rfl, _⟩ := m2.open
  generalize qv s3 (val A3) (val B3) = c at *
  obtain ⟨p3, c3, rfl, _⟩ := n3.open
  obtain ⟨o3, d3, rfl, _⟩ := m3.open
  clear n1 m1 n2 m2 n3 m3
  generalize A1.length = i1 at *
  generalize B1.length = j1 at *
  generalize A2.length = i2 at *
  generalize B2.length = j2 at *
  generalize A3.length = i3 at *
  generalize B3.length = j3 at *
  go_enter Try.func3, Try.ntmps3
  go_wp2_with fail
  have hb0 : Below w.heap.size w ((((w.alloc (.cells #[.bool s1, .slice p1 i1 c1, .slice o1 j1 d1] 24)).alloc (.cells #[.bool s2, .slice p2 i2 c2, .slice o2 j2 d2] 24)).alloc (.cells #[.bool s3, .slice p3 i3 c3, .slice o3 j3 d3] 24)).alloc (.cells #[.bool s1, .slice p1 i1 c1, .slice o1 j1 d1, .bool s2, .slice p2 i2 c2, .slice o2 j2 d2, .bool s3, .slice p3 i3 c3, .slice o3 j3 d3] 24)) := allocs_below [(.cells #[.bool s1, .slice p1 i1 c1, .slice o1 j1 d1] 24), (.cells #[.bool s2, .slice p2 i2 c2, .slice o2 j2 d2] 24), (.cells #[.bool s3, .slice p3 i3 c3, .slice o3 j3 d3] 24), (.cells #[.bool s1, .slice p1 i1 c1, .slice o1 j1 d1, .bool s2, .slice p2 i2 c2, .slice o2 j2 d2, .bool s3, .slice p3 i3 c3, .slice o3 j3 d3] 24)] w
  have Q0 : Bx 24 ((((w.alloc (.cells #[.bool s1, .slice p1 i1 c1, .slice o1 j1 d1] 24)).alloc (.cells #[.bool s2, .slice p2 i2 c2, .slice o2 j2 d2] 24)).alloc (.cells #[.bool s3, .slice p3 i3 c3, .slice o3 j3 d3] 24)).alloc (.cells #[.bool s1, .slice p1 i1 c1, .slice o1 j1 d1, .bool s2, .slice p2 i2 c2, .slice o2 j2 d2, .bool s3, .slice p3 i3 c3, .slice o3 j3 d3] 24)) (w.heap.size) [.bool s1, .slice p1 i1 c1, .slice o1 j1 d1] := allocs_at [(.cells #[.bool s1, .slice p1 i1 c1, .slice o1 j1 d1] 24), (.cells #[.bool s2, .slice p2 i2 c2, .slice o2 j2 d2] 24), (.cells #[.bool s3, .slice p3 i3 c3, .slice o3 j3 d3] 24), (.cells #[.bool s1, .slice p1 i1 c1, .slice o1 j1 d1, .bool s2, .slice p2 i2 c2, .slice o2 j2 d2, .bool s3, .slice p3 i3 c3, .slice o3 j3 d3] 24)] w 0 _ rfl
  have Q1 : Bx 24 ((((w.alloc (.cells #[.bool s1, .slice p1 i1 c1, .slice o1 j1 d1] 24)).alloc (.cells #[.bool s2, .slice p2 i2 c2, .slice o2 j2 d2] 24)).alloc (.cells #[.bool s3, .slice p3 i3 c3, .slice o3 j3 d3] 24)).alloc (.cells #[.bool s1, .slice p1 i1 c1, .slice o1 j1 d1, .bool s2, .slice p2 i2 c2, .slice o2 j2 d2, .bool s3, .slice p3 i3 c3, .slice o3 j3 d3] 24)) (w.heap.size + 1) [.bool s2, .slice p2 i2 c2, .slice o2 j2 d2] := allocs_at [(.cells #[.bool s1, .slice p1 i1 c1, .slice o1 j1 d1] 24), (.cells #[.bool s2, .slice p2 i2 c2, .slice o2 j2 d2] 24), (.cells #[.bool s3, .slice p3 i3 c3, .slice o3 j3 d3] 24), (.cells #[.bool s1, .slice p1 i1 c1, .slice o1 j1 d1, .bool s2, .slice p2 i2 c2, .slice o2 j2 d2, .bool s3, .slice p3 i3 c3, .slice o3 j3 d3] 24)] w 1 _ rfl
  have Q2 : Bx 24 ((((w.alloc (.cells #[.bool s1, .slice p1 i1 c1, .slice o1 j1 d1] 24)).alloc (.cells #[.bool s2, .slice p2 i2 c2, .slice o2 j2 d2] 24)).alloc (.cells #[.bool s3, .slice p3 i3 c3, .slice o3 j3 d3] 24)).alloc (.cells #[.bool s1, .slice p1 i1 c1, .slice o1 j1 d1, .bool s2, .slice p2 i2 c2, .slice o2 j2 d2, .bool s3, .slice p3 i3 c3, .slice o3 j3 d3] 24)) (w.heap.size + 1 + 1) [.bool s3, .slice p3 i3 c3, .slice o3 j3 d3] := allocs_at [(.cells #[.bool s1, .slice p1 i1 c1, .slice o1 j1 d1] 24), (.cells #[.bool s2, .slice p2 i2 c2, .slice o2 j2 d2] 24), (.cells #[.bool s3, .slice p3 i3 c3, .slice o3 j3 d3] 24), (.cells #[.bool s1, .slice p1 i1 c1, .slice o1 j1 d1, .bool s2, .slice p2 i2 c2, .slice o2 j2 d2, .bool s3, .slice p3 i3 c3, .slice o3 j3 d3] 24)] w 2 _ rfl
  have Q3 : Bx 24 ((((w.alloc (.cells #[.bool s1, .slice p1 i1 c1, .slice o1 j1 d1] 24)).alloc (.cells #[.bool s2, .slice p2 i2 c2, .slice o2 j2 d2] 24)).alloc (.cells #[.bool s3, .slice p3 i3 c3, .slice o3 j3 d3] 24)).alloc (.cells #[.bool s1, .slice p1 i1 c1, .slice o1 j1 d1, .bool s2, .slice p2 i2 c2, .slice o2 j2 d2, .bool s3, .slice p3 i3 c3, .slice o3 j3 d3] 24)) (w.heap.size + 1 + 1 + 1) [.bool s1, .slice p1 i1 c1, .slice o1 j1 d1, .bool s2, .slice p2 i2 c2, .slice o2 j2 d2, .bool s3, .slice p3 i3 c3, .slice o3 j3 d3] := allocs_at [(.cells #[.bool s1, .slice p1 i1 c1, .slice o1 j1 d1] 24), (.cells #[.bool s2, .slice p2 i2 c2, .slice o2 j2 d2] 24), (.cells #[.bool s3, .slice p3 i3 c3, .slice o3 j3 d3] 24), (.cells #[.bool s1, .slice p1 i1 c1, .slice o1 j1 d1, .bool s2, .slice p2 i2 c2, .slice o2 j2 d2, .bool s3, .slice p3 i3 c3, .slice o3 j3 d3] 24)] w 3 _ rfl
  generalize ((((w.alloc (.cells #[.bool s1, .slice p1 i1 c1, .slice o1 j1 d1] 24)).alloc (.cells #[.bool s2, .slice p2 i2 c2, .slice o2 j2 d2] 24)).alloc (.cells #[.bool s3, .slice p3 i3 c3, .slice o3 j3 d3] 24)).alloc (.cells #[.bool s1, .slice p1 i1 c1, .slice o1 j1 d1, .bool s2, .slice p2 i2 c2, .slice o2 j2 d2, .bool s3, .slice p3 i3 c3, .slice o3 j3 d3] 24)) = w0 at *
  have CB := Lib.hid (lawBig w0 (w.heap.size + 1 + 1 + 1) 3 _ (lens3 Q3 la1 lb1 la2 lb2 la3 lb3) Q3.lt (by simp))
  refine CB.out.mono ?_
  rintro e w1 ⟨rfl, hb1⟩
  have hb01 := bthen hb0 hb1
  by_cases hbig : 16 < (i1 + j1) + (i2 + j2) + (i3 + j3)
  · have hd : decide (16 < ([i1 + j1, i2 + j2, i3 + j3] : List Nat).sum) = true := decide_eq_true (by simp; omega)
    rw [hd]
    clear CB
    go_wp2
    go_ret
    exact ⟨rfl, hb01⟩
  · have hd : decide (16 < ([i1 + j1, i2 + j2, i3 + j3] : List Nat).sum) = false := decide_eq_false (by simp; omega)
    rw [hd]
    clear CB hd
    have P0 := Q0.below hb1 (Nat.le_refl _)
    have P1 := Q1.below hb1 (Nat.le_refl _)
    have P2 := Q2.below hb1 (Nat.le_refl _)
    have k0_0 := P0.at 0 rfl
    have k0_1 := P0.at 1 rfl
    have k0_2 := P0.at 2 rfl
    have k1_0 := P1.at 0 rfl
    have k1_1 := P1.at 1 rfl
    have k1_2 := P1.at 2 rfl
    have k2_0 := P2.at 0 rfl
    have k2_1 := P2.at 1 rfl
    have k2_2 := P2.at 2 rfl
    clear Q0 Q1 Q2 Q3
    have u_i2 := wrap_add (a := i1) (b := i2) (by omega)
    have u_i3 := wrap_add (a := i1 + i2) (b := i3) (by omega)
    have u_j1 := wrap_add (a := i1 + i2 + i3) (b := j1) (by omega)
    have u_j2 := wrap_add (a := i1 + i2 + i3 + j1) (b := j2) (by omega)
    have u_j3 := wrap_add (a := i1 + i2 + i3 + j1 + j2) (b := j3) (by omega)
    by_cases hsec : 8 < i1 + i2 + i3 + j1 + j2 + j3
    · have hi : (8 : Int) < ((i1 + i2 + i3 + j1 + j2 + j3 : Nat) : Int) := by omega
      go_wp2
      go_ret
      exact ⟨rfl, hb01⟩
    · have hi : ¬ (8 : Int) < ((i1 + i2 + i3 + j1 + j2 + j3 : Nat) : Int) := by omega
      have R1 := Lib.hid (fun w' (hb : Below w1.heap.size w1 w') => (((r1.below hb01 (Nat.le_refl _)).below hb (Nat.le_refl _)).more (K' := 8) (by omega)))
      have R2 := Lib.hid (fun w' (hb : Below w1.heap.size w1 w') => (((r2.below hb01 (Nat.le_refl _)).below hb (Nat.le_refl _)).more (K' := 8) (by omega)))
      have R3 := Lib.hid (fun w' (hb : Below w1.heap.size w1 w') => (((r3.below hb01 (Nat.le_refl _)).below hb (Nat.le_refl _)).more (K' := 8) (by omega)))
      have z1 : rs a ≤ 8 := ((R1.out _ (Below.refl _ _)).size (by omega))
      have z2 : rs b ≤ 8 := ((R2.out _ (Below.refl _ _)).size (by omega))
      have z3 : rs c ≤ 8 := ((R3.out _ (Below.refl _ _)).size (by omega))
      clear r1 r2 r3 la1 lb1 la2 lb2 la3 lb3
      have hgs := hb01.size
      go_wp2_with fail
      have hS : Hid (∀ w', Below w1.heap.size w1 w' → w'.cell? ⟨w.heap.size, 0, none⟩ = some (.bool s1) ∧ w'.cell? ⟨w.heap.size, 1, none⟩ = some (.slice p1 i1 c1) ∧ w'.cell? ⟨w.heap.size, 2, none⟩ = some (.slice o1 j1 d1) ∧ w'.cell? ⟨w.heap.size + 1, 0, none⟩ = some (.bool s2) ∧ w'.cell? ⟨w.heap.size + 1, 1, none⟩ = some (.slice p2 i2 c2) ∧ w'.cell? ⟨w.heap.size + 1, 2, none⟩ = some (.slice o2 j2 d2) ∧ w'.cell? ⟨w.heap.size + 1 + 1, 0, none⟩ = some (.bool s3) ∧ w'.cell? ⟨w.heap.size + 1 + 1, 1, none⟩ = some (.slice p3 i3 c3) ∧ w'.cell? ⟨w.heap.size + 1 + 1, 2, none⟩ = some (.slice o3 j3 d3)) := Lib.hid (fun w' hb => by
        have h0 := P0.below hb (Nat.le_refl _)
        have h1 := P1.below hb (Nat.le_refl _)
        have h2 := P2.below hb (Nat.le_refl _)
        exact ⟨h0.at 0 rfl, h0.at 1 rfl, h0.at 2 rfl, h1.at 0 rfl, h1.at 1 rfl, h1.at 2 rfl, h2.at 0 rfl, h2.at 1 rfl, h2.at 2 rfl⟩)
      clear k0_0 k0_1 k0_2 k1_0 k1_1 k1_2 k2_0 k2_1 k2_2
      have b0 : Below w1.heap.size w1 w1.drew := (Below.refl _ _).drew
      have z_0 : rs (a + b) ≤ 17 := by have h := rs_add (a) (b); omega
      have z_1 : rs (b + a) ≤ 17 := by have h := rs_add (b) (a); omega
      have z_3 : rs (a * b) ≤ 17 := by have h := rs_mul (a) (b); omega
      have z_4 : rs (b * a) ≤ 17 := by have h := rs_mul (b) (a); omega
      have z_6 : rs (a + b) ≤ 17 := by have h := rs_add (a) (b); omega
      have z_7 : rs (a + b + c) ≤ 27 := by have h := rs_add (a + b) (c); omega
      have z_8 : rs (b + c) ≤ 17 := by have h := rs_add (b) (c); omega
      have z_9 : rs (a + (b + c)) ≤ 27 := by have h := rs_add (a) (b + c); omega
      have z_11 : rs (a + b) ≤ 17 := by have h := rs_add (a) (b); omega
      have z_12 : rs ((a + b) * c) ≤ 27 := by have h := rs_mul (a + b) (c); omega
      have z_13 : rs (a * c) ≤ 17 := by have h := rs_mul (a) (c); omega
      have z_14 : rs (b * c) ≤ 17 := by have h := rs_mul (b) (c); omega
      have z_15 : rs (a * c + b * c) ≤ 40 := by have h := rs_add (a * c) (b * c); omega
      go_region_held3 (fun w' => w'.cell? ⟨w.heap.size, 0, none⟩ = some (.bool s1) ∧ w'.cell? ⟨w.heap.size, 1, none⟩ = some (.slice p1 i1 c1) ∧ w'.cell? ⟨w.heap.size, 2, none⟩ = some (.slice o1 j1 d1) ∧ w'.cell? ⟨w.heap.size + 1, 0, none⟩ = some (.bool s2) ∧ w'.cell? ⟨w.heap.size + 1, 1, none⟩ = some (.slice p2 i2 c2) ∧ w'.cell? ⟨w.heap.size + 1, 2, none⟩ = some (.slice o2 j2 d2) ∧ w'.cell? ⟨w.heap.size + 1 + 1, 0, none⟩ = some (.bool s3) ∧ w'.cell? ⟨w.heap.size + 1 + 1, 1, none⟩ = some (.slice p3 i3 c3) ∧ w'.cell? ⟨w.heap.size + 1 + 1, 2, none⟩ = some (.slice o3 j3 d3))
        (first | exact hS.out _ b0 | exact hS.out _ b1 | exact hS.out _ b2 | exact hS.out _ b3 | exact hS.out _ b4 | exact hS.out _ b5 | exact hS.out _ b6 | exact hS.out _ b7 | exact hS.out _ b8 | exact hS.out _ b9 | exact hS.out _ b10 | exact hS.out _ b11 | exact hS.out _ b12 | exact hS.out _ b13 | exact hS.out _ b14 | exact hS.out _ b15 | exact hS.out _ b16 | exact hS.out _ b17 | exact hS.out _ b18)
        (first
          | ((go_simp; go_at_call 19; (with_reducible refine ((ratAdd w1.drew _ _ (a) (b) ((R1.out _ b0).more (by omega)) ((R2.out _ b0).more (by omega)))).mono ?_); rintro e v1 ⟨y0, rfl, t0, e0⟩; have b1 := bthen b0 e0))
          | ((go_simp; go_at_call 19; (with_reducible refine ((ratAdd v1 _ _ (b) (a) ((R2.out _ b1).more (by omega)) ((R1.out _ b1).more (by omega)))).mono ?_); rintro e v2 ⟨y1, rfl, t1, e1⟩; have b2 := bthen b1 e1))
          | ((go_simp; go_at_call 18; (with_reducible refine ((lawOneT v2 _ _ (a + b) (b + a) _ _ (t0.below e1 (Nat.le_refl _)) (t1.below (Below.refl _ _) (Nat.le_refl _)) (Nat.le_trans z_0 (by omega)) (Rat.add_comm _ _))).mono ?_); rintro e v3 ⟨rfl, e2⟩; have b3 := bthen b2 e2))
          | ((go_simp; go_at_call 20; (with_reducible refine ((ratMul v3 _ _ (a) (b) ((R1.out _ b3).more (by omega)) ((R2.out _ b3).more (by omega)))).mono ?_); rintro e v4 ⟨y3, rfl, t3, e3⟩; have b4 := bthen b3 e3))
          | ((go_simp; go_at_call 20; (with_reducible refine ((ratMul v4 _ _ (b) (a) ((R2.out _ b4).more (by omega)) ((R1.out _ b4).more (by omega)))).mono ?_); rintro e v5 ⟨y4, rfl, t4, e4⟩; have b5 := bthen b4 e4))
          | ((go_simp; go_at_call 18; (with_reducible refine ((lawOneT v5 _ _ (a * b) (b * a) _ _ (t3.below e4 (Nat.le_refl _)) (t4.below (Below.refl _ _) (Nat.le_refl _)) (Nat.le_trans z_3 (by omega)) (Rat.mul_comm _ _))).mono ?_); rintro e v6 ⟨rfl, e5⟩; have b6 := bthen b5 e5))
          | ((go_simp; go_at_call 19; (with_reducible refine ((ratAdd v6 _ _ (a) (b) ((R1.out _ b6).more (by omega)) ((R2.out _ b6).more (by omega)))).mono ?_); rintro e v7 ⟨y6, rfl, t6, e6⟩; have b7 := bthen b6 e6))
          | ((go_simp; go_at_call 19; (with_reducible refine ((ratAdd v7 _ _ (a + b) (c) ((t6.below (Below.refl _ _) (Nat.le_refl _)).rawK (Nat.le_trans z_6 (by omega))) ((R3.out _ b7).more (by omega)))).mono ?_); rintro e v8 ⟨y7, rfl, t7, e7⟩; have b8 := bthen b7 e7))
          | ((go_simp; go_at_call 19; (with_reducible refine ((ratAdd v8 _ _ (b) (c) ((R2.out _ b8).more (by omega)) ((R3.out _ b8).more (by omega)))).mono ?_); rintro e v9 ⟨y8, rfl, t8, e8⟩; have b9 := bthen b8 e8))
          | ((go_simp; go_at_call 19; (with_reducible refine ((ratAdd v9 _ _ (a) (b + c) ((R1.out _ b9).more (by omega)) ((t8.below (Below.refl _ _) (Nat.le_refl _)).rawK (Nat.le_trans z_8 (by omega))))).mono ?_); rintro e v10 ⟨y9, rfl, t9, e9⟩; have b10 := bthen b9 e9))
          | ((go_simp; go_at_call 18; (with_reducible refine ((lawOneT v10 _ _ (a + b + c) (a + (b + c)) _ _ (t7.below (bthen e8 e9) (Nat.le_refl _)) (t9.below (Below.refl _ _) (Nat.le_refl _)) (Nat.le_trans z_7 (by omega)) (Rat.add_assoc _ _ _))).mono ?_); rintro e v11 ⟨rfl, e10⟩; have b11 := bthen b10 e10))
          | ((go_simp; go_at_call 19; (with_reducible refine ((ratAdd v11 _ _ (a) (b) ((R1.out _ b11).more (by omega)) ((R2.out _ b11).more (by omega)))).mono ?_); rintro e v12 ⟨y11, rfl, t11, e11⟩; have b12 := bthen b11 e11))
          | ((go_simp; go_at_call 20; (with_reducible refine ((ratMul v12 _ _ (a + b) (c) ((t11.below (Below.refl _ _) (Nat.le_refl _)).rawK (Nat.le_trans z_11 (by omega))) ((R3.out _ b12).more (by omega)))).mono ?_); rintro e v13 ⟨y12, rfl, t12, e12⟩; have b13 := bthen b12 e12))
          | ((go_simp; go_at_call 20; (with_reducible refine ((ratMul v13 _ _ (a) (c) ((R1.out _ b13).more (by omega)) ((R3.out _ b13).more (by omega)))).mono ?_); rintro e v14 ⟨y13, rfl, t13, e13⟩; have b14 := bthen b13 e13))
          | ((go_simp; go_at_call 20; (with_reducible refine ((ratMul v14 _ _ (b) (c) ((R2.out _ b14).more (by omega)) ((R3.out _ b14).more (by omega)))).mono ?_); rintro e v15 ⟨y14, rfl, t14, e14⟩; have b15 := bthen b14 e14))
          | ((go_simp; go_at_call 19; (with_reducible refine ((ratAdd v15 _ _ (a * c) (b * c) ((t13.below e14 (Nat.le_refl _)).rawK (Nat.le_trans z_13 (by omega))) ((t14.below (Below.refl _ _) (Nat.le_refl _)).rawK (Nat.le_trans z_14 (by omega))))).mono ?_); rintro e v16 ⟨y15, rfl, t15, e15⟩; have b16 := bthen b15 e15))
          | ((go_simp; go_at_call 18; (with_reducible refine ((lawOneT v16 _ _ ((a + b) * c) (a * c + b * c) _ _ (t12.below (bthen (bthen e13 e14) e15) (Nat.le_refl _)) (t15.below (Below.refl _ _) (Nat.le_refl _)) (Nat.le_trans z_12 (by omega)) (Rat.add_mul _ _ _))).mono ?_); rintro e v17 ⟨rfl, e16⟩; have b17 := bthen b16 e16))
          | ((go_simp; go_at_call 21; (with_reducible refine ((lawKnown v17)).mono ?_); rintro e v18 ⟨rfl, e17⟩; have b18 := bthen b17 e17)))
      go_wp2
      go_ret
      exact ⟨by simp, bthen hb01 b18⟩

end Go.Proofs.Ytdojdghhbjjoeaa
