/- Contract of vernierref2.Cmp. Conditions: at most 10^10 limbs. -/
import Derived.Test.YtpppgmgdcpaffaaR2Sub
namespace Go.Proofs.Ytpppgmgdcpaffaa
open Go.RowKit

set_option maxRecDepth 100000 in
set_option maxHeartbeats 4000000 in
theorem r2Cmp (w : World) (v1 v2 : Value) (a b : Rat) (h1 : RatR 10000000000 w v1 a) (h2 : RatR 10000000000 w v2 b)  :
    Calls Try.prog 38 #[v1, v2] w fun e w' => e = .returned (.int .i64 (cmpQ a b)) ∧ Below w.heap.size w w' := by
  have z1 := h1.size (by omega)
  obtain ⟨s1, p1, i1, c1, o1, j1, d1, rfl⟩ := h1.open
  have z2 := h2.size (by omega)
  obtain ⟨s2, p2, i2, c2, o2, j2, d2, rfl⟩ := h2.open
  have hcz := cmpQ_cases a b
  rcases hcz with ⟨q1, q2⟩ | ⟨q1, q3, q2⟩ | ⟨q1, q3, q2⟩
  · rw [q2]
    go_enter Try.func38, Try.ntmps38
    go_wp2_with fail
    have hbN : Below w.heap.size w ((w.alloc (.cells #[.bool s1, .slice p1 i1 c1, .slice o1 j1 d1] 24)).alloc (.cells #[.bool s2, .slice p2 i2 c2, .slice o2 j2 d2] 24)) := allocs_below [(.cells #[.bool s1, .slice p1 i1 c1, .slice o1 j1 d1] 24), (.cells #[.bool s2, .slice p2 i2 c2, .slice o2 j2 d2] 24)] w
    have Q0 : Bx 24 ((w.alloc (.cells #[.bool s1, .slice p1 i1 c1, .slice o1 j1 d1] 24)).alloc (.cells #[.bool s2, .slice p2 i2 c2, .slice o2 j2 d2] 24)) (w.heap.size) [.bool s1, .slice p1 i1 c1, .slice o1 j1 d1] := allocs_at [(.cells #[.bool s1, .slice p1 i1 c1, .slice o1 j1 d1] 24), (.cells #[.bool s2, .slice p2 i2 c2, .slice o2 j2 d2] 24)] w 0 _ rfl
    have Q1 : Bx 24 ((w.alloc (.cells #[.bool s1, .slice p1 i1 c1, .slice o1 j1 d1] 24)).alloc (.cells #[.bool s2, .slice p2 i2 c2, .slice o2 j2 d2] 24)) (w.heap.size + 1) [.bool s2, .slice p2 i2 c2, .slice o2 j2 d2] := allocs_at [(.cells #[.bool s1, .slice p1 i1 c1, .slice o1 j1 d1] 24), (.cells #[.bool s2, .slice p2 i2 c2, .slice o2 j2 d2] 24)] w 1 _ rfl
    generalize ((w.alloc (.cells #[.bool s1, .slice p1 i1 c1, .slice o1 j1 d1] 24)).alloc (.cells #[.bool s2, .slice p2 i2 c2, .slice o2 j2 d2] 24)) = w1 at *
    have hbT := hbN
    replace h1 := h1.below hbN (Nat.le_refl _)
    replace h2 := h2.below hbN (Nat.le_refl _)
    have sz_w1 := hbN.size
    clear hbN
    have kQ0_0 := Q0.at 0 rfl
    have kQ0_1 := Q0.at 1 rfl
    have kQ0_2 := Q0.at 2 rfl
    have kQ1_0 := Q1.at 0 rfl
    have kQ1_1 := Q1.at 1 rfl
    have kQ1_2 := Q1.at 2 rfl
    have zz3 : rs (a - b) ≤ 30000000000 := by have h := rs_sub a b; omega
    refine (r2Sub w1 _ _ (a) (b) (h1.more (by omega)) (h2.more (by omega))).mono ?_
    rintro e w2 ⟨u2, rfl, t2, hbN⟩
    replace hbT := bthen hbT hbN
    replace h1 := h1.below hbN (Nat.le_refl _)
    replace h2 := h2.below hbN (Nat.le_refl _)
    replace Q0 := Q0.below hbN (Nat.le_refl _)
    replace Q1 := Q1.below hbN (Nat.le_refl _)
    have sz_w2 := hbN.size
    clear hbN
    (try clear kQ0_0); (try clear kQ0_1); (try clear kQ0_2); (try clear kQ1_0); (try clear kQ1_1); (try clear kQ1_2)
    obtain ⟨x1, x2, rfl, n1, n2⟩ := t2
    obtain ⟨p3, c3, rfl, _⟩ := n1.open
    obtain ⟨o3, d3, rfl, _⟩ := n2.open
    have q5 : (((limbs (nm (a - b))).length : Int) == 0) = false := beq_eq_false_iff_ne.2 (fun hc => by have h0 := (sub_len a b).1 (by omega); subst h0; have := ng_sub a a; rw [q1] at this; simp at this)
    rw [q1] at *
    generalize (limbs (nm (a - b))).length = n5 at *
    generalize (limbs (a - b).den).length = n6 at *
    clear q1 q2
    go_wp2
    exact bodyPost_ret (by simp [results, Try.results38, go_sem]) rfl ⟨rfl, Below.al hbT⟩
  · rw [q2]
    go_enter Try.func38, Try.ntmps38
    go_wp2_with fail
    have hbN : Below w.heap.size w ((w.alloc (.cells #[.bool s1, .slice p1 i1 c1, .slice o1 j1 d1] 24)).alloc (.cells #[.bool s2, .slice p2 i2 c2, .slice o2 j2 d2] 24)) := allocs_below [(.cells #[.bool s1, .slice p1 i1 c1, .slice o1 j1 d1] 24), (.cells #[.bool s2, .slice p2 i2 c2, .slice o2 j2 d2] 24)] w
    have Q4 : Bx 24 ((w.alloc (.cells #[.bool s1, .slice p1 i1 c1, .slice o1 j1 d1] 24)).alloc (.cells #[.bool s2, .slice p2 i2 c2, .slice o2 j2 d2] 24)) (w.heap.size) [.bool s1, .slice p1 i1 c1, .slice o1 j1 d1] := allocs_at [(.cells #[.bool s1, .slice p1 i1 c1, .slice o1 j1 d1] 24), (.cells #[.bool s2, .slice p2 i2 c2, .slice o2 j2 d2] 24)] w 0 _ rfl
    have Q5 : Bx 24 ((w.alloc (.cells #[.bool s1, .slice p1 i1 c1, .slice o1 j1 d1] 24)).alloc (.cells #[.bool s2, .slice p2 i2 c2, .slice o2 j2 d2] 24)) (w.heap.size + 1) [.bool s2, .slice p2 i2 c2, .slice o2 j2 d2] := allocs_at [(.cells #[.bool s1, .slice p1 i1 c1, .slice o1 j1 d1] 24), (.cells #[.bool s2, .slice p2 i2 c2, .slice o2 j2 d2] 24)] w 1 _ rfl
    generalize ((w.alloc (.cells #[.bool s1, .slice p1 i1 c1, .slice o1 j1 d1] 24)).alloc (.cells #[.bool s2, .slice p2 i2 c2, .slice o2 j2 d2] 24)) = w1 at *
    have hbT := hbN
    replace h1 := h1.below hbN (Nat.le_refl _)
    replace h2 := h2.below hbN (Nat.le_refl _)
    have sz_w1 := hbN.size
    clear hbN
    have kQ4_0 := Q4.at 0 rfl
    have kQ4_1 := Q4.at 1 rfl
    have kQ4_2 := Q4.at 2 rfl
    have kQ5_0 := Q5.at 0 rfl
    have kQ5_1 := Q5.at 1 rfl
    have kQ5_2 := Q5.at 2 rfl
    have zz7 : rs (a - b) ≤ 30000000000 := by have h := rs_sub a b; omega
    refine (r2Sub w1 _ _ (a) (b) (h1.more (by omega)) (h2.more (by omega))).mono ?_
    rintro e w2 ⟨u6, rfl, t6, hbN⟩
    replace hbT := bthen hbT hbN
    replace h1 := h1.below hbN (Nat.le_refl _)
    replace h2 := h2.below hbN (Nat.le_refl _)
    replace Q4 := Q4.below hbN (Nat.le_refl _)
    replace Q5 := Q5.below hbN (Nat.le_refl _)
    have sz_w2 := hbN.size
    clear hbN
    (try clear kQ4_0); (try clear kQ4_1); (try clear kQ4_2); (try clear kQ5_0); (try clear kQ5_1); (try clear kQ5_2)
    obtain ⟨x1, x2, rfl, n1, n2⟩ := t6
    obtain ⟨p3, c3, rfl, _⟩ := n1.open
    obtain ⟨o3, d3, rfl, _⟩ := n2.open
    have q5 : (((limbs (nm (a - b))).length : Int) == 0) = false := beq_eq_false_iff_ne.2 (by omega)
    rw [q1] at *
    generalize (limbs (nm (a - b))).length = n5 at *
    generalize (limbs (a - b).den).length = n6 at *
    clear q1 q2 q3
    go_wp2
    exact bodyPost_ret (by simp [results, Try.results38, go_sem]) rfl ⟨rfl, Below.al hbT⟩
  · rw [q2]
    go_enter Try.func38, Try.ntmps38
    go_wp2_with fail
    have hbN : Below w.heap.size w ((w.alloc (.cells #[.bool s1, .slice p1 i1 c1, .slice o1 j1 d1] 24)).alloc (.cells #[.bool s2, .slice p2 i2 c2, .slice o2 j2 d2] 24)) := allocs_below [(.cells #[.bool s1, .slice p1 i1 c1, .slice o1 j1 d1] 24), (.cells #[.bool s2, .slice p2 i2 c2, .slice o2 j2 d2] 24)] w
    have Q8 : Bx 24 ((w.alloc (.cells #[.bool s1, .slice p1 i1 c1, .slice o1 j1 d1] 24)).alloc (.cells #[.bool s2, .slice p2 i2 c2, .slice o2 j2 d2] 24)) (w.heap.size) [.bool s1, .slice p1 i1 c1, .slice o1 j1 d1] := allocs_at [(.cells #[.bool s1, .slice p1 i1 c1, .slice o1 j1 d1] 24), (.cells #[.bool s2, .slice p2 i2 c2, .slice o2 j2 d2] 24)] w 0 _ rfl
    have Q9 : Bx 24 ((w.alloc (.cells #[.bool s1, .slice p1 i1 c1, .slice o1 j1 d1] 24)).alloc (.cells #[.bool s2, .slice p2 i2 c2, .slice o2 j2 d2] 24)) (w.heap.size + 1) [.bool s2, .slice p2 i2 c2, .slice o2 j2 d2] := allocs_at [(.cells #[.bool s1, .slice p1 i1 c1, .slice o1 j1 d1] 24), (.cells #[.bool s2, .slice p2 i2 c2, .slice o2 j2 d2] 24)] w 1 _ rfl
    generalize ((w.alloc (.cells #[.bool s1, .slice p1 i1 c1, .slice o1 j1 d1] 24)).alloc (.cells #[.bool s2, .slice p2 i2 c2, .slice o2 j2 d2] 24)) = w1 at *
    have hbT := hbN
    replace h1 := h1.below hbN (Nat.le_refl _)
    replace h2 := h2.below hbN (Nat.le_refl _)
    have sz_w1 := hbN.size
    clear hbN
    have kQ8_0 := Q8.at 0 rfl
    have kQ8_1 := Q8.at 1 rfl
    have kQ8_2 := Q8.at 2 rfl
    have kQ9_0 := Q9.at 0 rfl
    have kQ9_1 := Q9.at 1 rfl
    have kQ9_2 := Q9.at 2 rfl
    have zz11 : rs (a - b) ≤ 30000000000 := by have h := rs_sub a b; omega
    refine (r2Sub w1 _ _ (a) (b) (h1.more (by omega)) (h2.more (by omega))).mono ?_
    rintro e w2 ⟨u10, rfl, t10, hbN⟩
    replace hbT := bthen hbT hbN
    replace h1 := h1.below hbN (Nat.le_refl _)
    replace h2 := h2.below hbN (Nat.le_refl _)
    replace Q8 := Q8.below hbN (Nat.le_refl _)
    replace Q9 := Q9.below hbN (Nat.le_refl _)
    have sz_w2 := hbN.size
    clear hbN
    (try clear kQ8_0); (try clear kQ8_1); (try clear kQ8_2); (try clear kQ9_0); (try clear kQ9_1); (try clear kQ9_2)
    obtain ⟨x1, x2, rfl, n1, n2⟩ := t10
    obtain ⟨p3, c3, rfl, _⟩ := n1.open
    obtain ⟨o3, d3, rfl, _⟩ := n2.open
    have q5 : (((limbs (nm (a - b))).length : Int) == 0) = true := by rw [q3]; rfl
    rw [q1] at *
    generalize (limbs (nm (a - b))).length = n5 at *
    generalize (limbs (a - b).den).length = n6 at *
    clear q1 q2 q3
    go_wp2
    exact bodyPost_ret (by simp [results, Try.results38, go_sem]) rfl ⟨rfl, Below.al hbT⟩

end Go.Proofs.Ytpppgmgdcpaffaa
