/- Contracts of rat.Int, rat.Div. Conditions: at most 10^11 limbs. Contract of rat.Div. Conditions: at most 10^11 limbs. Contract of rat.Floor. Conditions: at most 10^11 limbs. Contracts of the three functions that compare rows of limbs: slices.Equal, and limbs of the law and of the reference. Conditions: at most 8*10^12 limbs. Contract of rat.Same. Conditions: at most 10^11 limbs. -/
import Derived.Test.YtjfaefgabaimaaaGreatGE
import Derived.Test.YtjfaefgabaimaaaGreatGD
import Derived.Deep.DeepCutAuto
namespace Go.Proofs.YtjfaefgabaimaaaGreat
open Go.RowKit
theorem int_parts (n : Int) : nm (n : Rat) = n.natAbs ∧ ((n : Rat)).den = 1 ∧ ng (n : Rat) = decide (n < 0) := ⟨rfl, rfl, rfl⟩
set_option maxRecDepth 100000 in
set_option maxHeartbeats 1000000 in
theorem ratInt (w : World) (n : Int) (h1 : -9223372036854775808 ≤ n) (h2 : n < 9223372036854775808) :
    Calls Tryz.prog 24 #[.int .i64 n] w (RetRat (n : Rat) w) := by
  have G1 := Lib.hid (fun w1 => natOf w1 n.natAbs (by omega))
  have G2 := Lib.hid (fun w1 => natOf w1 1 (by omega))
  have hE : Hid (∀ w' v1 v2, Nt w.heap.size w' v1 (limbs n.natAbs) → Nt w.heap.size w' v2 (limbs 1) → RatC w.heap.size w' (.agg #[.bool (decide (n < 0)), v1, v2]) (n : Rat)) :=
    Lib.hid (fun w' v1 v2 m1 m2 => ⟨_, _, by rw [(int_parts n).2.2], m1, m2⟩)
  have hcast : ((n.natAbs : Nat) : Int) = if n < 0 then -n else n := by split <;> omega
  by_cases hn : n < 0
  · have e1 : IntKind.u64.wrap n = n + 18446744073709551616 := by rw [IntKind.wrap_u64]; omega
    rw [if_pos hn] at hcast
    have e2 : IntKind.u64.wrap (-(n + 18446744073709551616)) = -n := by rw [IntKind.wrap_u64]; omega
    rw [decide_eq_true hn] at hE
    simp only [hcast] at G1
    go_enter Tryz.func24, Tryz.ntmps24
    go_wp2_with fail
    have hb0 : Below w.heap.size w (w.alloc (.cells #[.bool false, .slice none 0 0, .slice none 0 0] 24)) := (Below.refl _ _).alloc (Nat.le_refl _) _
    have hB0 := Box3.new 24 w (.bool false) (.slice none 0 0) (.slice none 0 0)
    generalize (w.alloc (.cells #[.bool false, .slice none 0 0, .slice none 0 0] 24)) = w0 at *
    have hg0 : w.heap.size < w0.heap.size := hB0.cells.2.2.2.2.2.2
    refine (G1.out w0).mono ?_
    rintro e w1 ⟨u1, rfl, t1, hb1⟩
    obtain ⟨ao1, c1, rfl, _⟩ := t1.open
    go_wp2_with fail
    refine (G2.out w1).mono ?_
    rintro e w2 ⟨u2, rfl, t2, hb2⟩
    obtain ⟨ao2, c2, rfl, _⟩ := t2.open
    have hg1 : w.heap.size < w1.heap.size := Nat.lt_of_lt_of_le hg0 hb1.size
    have hb3 := bthen hb1 hb2
    obtain ⟨k0, k1, k2, f0, f1, f2, hg2⟩ := (hB0.below hb3 hg0).cells
    go_wp2
    obtain ⟨r0, r1, r2, _⟩ := ((hB0.below hb3 hg0).stored (.bool true) (.slice ao1 (limbs n.natAbs).length c1) (.slice ao2 (limbs 1).length c2)).cells
    exact bodyPost_ret (v := .agg #[.bool true, .slice ao1 (limbs n.natAbs).length c1, .slice ao2 (limbs 1).length c2]) (by simp [results, Tryz.results24, go_sem, r0, r1, r2]) rfl
      ⟨_, rfl, hE.out _ _ _ (((t1.below hb2 (Nat.le_refl _)).set3 hg0).mono (by omega)) ((t2.set3 hg1).mono (by omega)), below_set3 (bthen hb0 hb3) (by omega)⟩
  · have e1 : IntKind.u64.wrap n = n := by rw [IntKind.wrap_u64]; omega
    rw [if_neg hn] at hcast
    rw [decide_eq_false hn] at hE
    simp only [hcast] at G1
    go_enter Tryz.func24, Tryz.ntmps24
    go_wp2_with fail
    have hb0 : Below w.heap.size w (w.alloc (.cells #[.bool false, .slice none 0 0, .slice none 0 0] 24)) := (Below.refl _ _).alloc (Nat.le_refl _) _
    have hB0 := Box3.new 24 w (.bool false) (.slice none 0 0) (.slice none 0 0)
    generalize (w.alloc (.cells #[.bool false, .slice none 0 0, .slice none 0 0] 24)) = w0 at *
    have hg0 : w.heap.size < w0.heap.size := hB0.cells.2.2.2.2.2.2
    refine (G1.out w0).mono ?_
    rintro e w1 ⟨u1, rfl, t1, hb1⟩
    obtain ⟨ao1, c1, rfl, _⟩ := t1.open
    go_wp2_with fail
    refine (G2.out w1).mono ?_
    rintro e w2 ⟨u2, rfl, t2, hb2⟩
    obtain ⟨ao2, c2, rfl, _⟩ := t2.open
    have hg1 : w.heap.size < w1.heap.size := Nat.lt_of_lt_of_le hg0 hb1.size
    have hb3 := bthen hb1 hb2
    obtain ⟨k0, k1, k2, f0, f1, f2, hg2⟩ := (hB0.below hb3 hg0).cells
    go_wp2
    obtain ⟨r0, r1, r2, _⟩ := ((hB0.below hb3 hg0).stored (.bool false) (.slice ao1 (limbs n.natAbs).length c1) (.slice ao2 (limbs 1).length c2)).cells
    exact bodyPost_ret (v := .agg #[.bool false, .slice ao1 (limbs n.natAbs).length c1, .slice ao2 (limbs 1).length c2]) (by simp [results, Tryz.results24, go_sem, r0, r1, r2]) rfl
      ⟨_, rfl, hE.out _ _ _ (((t1.below hb2 (Nat.le_refl _)).set3 hg0).mono (by omega)) ((t2.set3 hg1).mono (by omega)), below_set3 (bthen hb0 hb3) (by omega)⟩
end Go.Proofs.YtjfaefgabaimaaaGreat
namespace Go.Proofs.YtjfaefgabaimaaaGreat
open Go.RowKit
end Go.Proofs.YtjfaefgabaimaaaGreat
namespace Go.Proofs.YtjfaefgabaimaaaGreat
open Go.RowKit
end Go.Proofs.YtjfaefgabaimaaaGreat
namespace Go.Proofs.YtjfaefgabaimaaaGreat
open Go.RowKit
theorem take_step {A C : List Nat} {k : Nat} (h1 : k < A.length) (h2 : k < C.length) (h : A.take k = C.take k) (he : A.getD k 0 = C.getD k 0) : A.take (k + 1) = C.take (k + 1) := by
  rw [List.take_succ_eq_append_getElem h1, List.take_succ_eq_append_getElem h2, h]
  rw [List.getD_eq_getElem?_getD, List.getD_eq_getElem?_getD, List.getElem?_eq_getElem h1, List.getElem?_eq_getElem h2] at he
  simp at he
  rw [he]
theorem getD_ne {A C : List Nat} {k : Nat} (h : ¬ A.getD k 0 = C.getD k 0) : decide (A = C) = false := decide_eq_false fun e => h (by rw [e])
set_option maxRecDepth 100000 in
set_option maxHeartbeats 1000000 in
theorem refLimbs (w : World) (v1 v2 : Value) (A C : List Nat) (b1 b2 : Nat) (h1 : Nt b1 w v1 A) (h2 : Nt b2 w v2 C) (hL1 : A.length ≤ 8000000000000) :
    Calls Tryz.prog 96 #[v1, v2] w fun e w' => e = .returned (.bool (decide (A = C))) ∧ Below w.heap.size w w' := by
  have X1 := Lib.hid h1.lt
  have X2 := Lib.hid h2.lt
  obtain ⟨ao1, c1, rfl, hc1⟩ := h1.open
  obtain ⟨ao2, c2, rfl, hc2⟩ := h2.open
  by_cases hne : A.length = C.length
  · have hq : ((A.length : Int) != C.length) = false := by simp; omega
    have HE := Lib.hid hne
    clear hne
    go_enter Tryz.func96, Tryz.ntmps96
    go_wp2
    go_loopw [5] (fun i wr => ∃ k : Nat, k ≤ A.length ∧ i = .int .i64 (k : Int) ∧ Hid (A.take k = C.take k) ∧ Below w.heap.size w wr) (fun i _ => A.length - (intOf i).toNat)
    case atStart => exact ⟨0, Nat.zero_le _, rfl, (by show A.take 0 = C.take 0; rfl), Below.refl _ _⟩
    case round =>
      obtain ⟨k, hk, rfl, hd, hBw⟩ := hrel
      by_cases hlt : k < A.length
      · obtain ⟨b3, o3, rfl, _, hb3, hc3⟩ := h1.at_some hlt
        obtain ⟨b4, o4, rfl, _, hb4, hc4⟩ := h2.at_some (k := k) (by have := HE.out; omega)
        have d1 : wr.cell? ⟨b3, o3 + k, none⟩ = some (.int .u32 ((A.getD k 0 : Nat) : Int)) := by rw [hBw.cell hb3]; exact hc3 k hlt
        have d2 : wr.cell? ⟨b4, o4 + k, none⟩ = some (.int .u32 ((C.getD k 0 : Nat) : Int)) := by rw [hBw.cell hb4]; exact hc4 k (by have := HE.out; omega)
        have s1 := Lib.hid (take_step hlt (by have := HE.out; omega) hd.out)
        have s2 := Lib.hid (getD_ne (A := A) (C := C) (k := k))
        have hltC : k < C.length := by have := HE.out; omega
        have q0 : (0 : Int) ≤ (k : Int) := by omega
        have q1 : (k : Int) < (A.length : Int) := by omega
        have q2 : (k : Int) < (C.length : Int) := by omega
        have q3 : IntKind.i64.wrap ((k : Int) + 1) = ((k + 1 : Nat) : Int) := by rw [IntWalk.i64_in _ (by omega)]; rfl
        clear hc3 hc4 hd
        generalize A.getD k 0 = x at *
        generalize C.getD k 0 = y at *
        by_cases hxy : x = y
        · have h3 := Lib.hid (s1.out hxy)
          have hq : ((x : Int) != y) = false := by simp; omega
          clear hxy s1 s2
          go_wp2
          go_quiet (fail)
          go_wp2
          go_roundw
          case rel => exact ⟨k + 1, by omega, by first | rfl | (simp; done) | (rw [q3]) | (push_cast; rfl), h3, below_drewN hBw _⟩
          case measure => simp [intOf]; omega
        · have hq : ((x : Int) != y) = true := by simp; omega
          have hr := Lib.hid (s2.out hxy)
          clear hxy s1 s2
          go_wp2
          go_quiet (fail)
          go_wp2
          go_ret
          exact ⟨by rw [hr.out]; rfl, below_drewN hBw _⟩
      · have hr : Hid (decide (A = C) = true) := Lib.hid (decide_eq_true (by
          have h := hd.out
          rw [List.take_of_length_le (by omega), List.take_of_length_le (by have := HE.out; omega)] at h
          exact h))
        have q1 : ¬ (k : Int) < (A.length : Int) := by omega
        clear hd
        go_wp2
        go_ret
        exact ⟨by rw [hr.out]; rfl, hBw⟩
  · have hq : ((A.length : Int) != C.length) = true := by simp; omega
    have hr : Hid (decide (A = C) = false) := Lib.hid (decide_eq_false fun h => hne (congrArg List.length h))
    clear hne
    go_enter Tryz.func96, Tryz.ntmps96
    go_wp2
    go_ret
    exact ⟨by rw [hr.out]; rfl, Below.refl _ _⟩
set_option maxRecDepth 100000 in
set_option maxHeartbeats 1000000 in
theorem slicesEqual (w : World) (v1 v2 : Value) (A C : List Nat) (b1 b2 : Nat) (h1 : Nt b1 w v1 A) (h2 : Nt b2 w v2 C) (hL1 : A.length ≤ 8000000000000) :
    Calls Tryz.prog 85 #[v1, v2] w fun e w' => e = .returned (.bool (decide (A = C))) ∧ Below w.heap.size w w' := by
  have X1 := Lib.hid h1.lt
  have X2 := Lib.hid h2.lt
  obtain ⟨ao1, c1, rfl, hc1⟩ := h1.open
  obtain ⟨ao2, c2, rfl, hc2⟩ := h2.open
  by_cases hne : A.length = C.length
  · have hq : ((A.length : Int) != C.length) = false := by simp; omega
    have HE := Lib.hid hne
    clear hne
    go_enter Tryz.func85, Tryz.ntmps85
    go_wp2
    go_loopw [13] (fun i wr => ∃ k : Nat, k ≤ A.length ∧ i = .int .i64 (k : Int) ∧ Hid (A.take k = C.take k) ∧ Below w.heap.size w wr) (fun i _ => A.length - (intOf i).toNat)
    case atStart => exact ⟨0, Nat.zero_le _, rfl, (by show A.take 0 = C.take 0; rfl), Below.refl _ _⟩
    case round =>
      obtain ⟨k, hk, rfl, hd, hBw⟩ := hrel
      by_cases hlt : k < A.length
      · obtain ⟨b3, o3, rfl, _, hb3, hc3⟩ := h1.at_some hlt
        obtain ⟨b4, o4, rfl, _, hb4, hc4⟩ := h2.at_some (k := k) (by have := HE.out; omega)
        have d1 : wr.cell? ⟨b3, o3 + k, none⟩ = some (.int .u32 ((A.getD k 0 : Nat) : Int)) := by rw [hBw.cell hb3]; exact hc3 k hlt
        have d2 : wr.cell? ⟨b4, o4 + k, none⟩ = some (.int .u32 ((C.getD k 0 : Nat) : Int)) := by rw [hBw.cell hb4]; exact hc4 k (by have := HE.out; omega)
        have s1 := Lib.hid (take_step hlt (by have := HE.out; omega) hd.out)
        have s2 := Lib.hid (getD_ne (A := A) (C := C) (k := k))
        have hltC : k < C.length := by have := HE.out; omega
        have q0 : (0 : Int) ≤ (k : Int) := by omega
        have q1 : (k : Int) < (A.length : Int) := by omega
        have q2 : (k : Int) < (C.length : Int) := by omega
        have q3 : IntKind.i64.wrap ((k : Int) + 1) = ((k + 1 : Nat) : Int) := by rw [IntWalk.i64_in _ (by omega)]; rfl
        clear hc3 hc4 hd
        generalize A.getD k 0 = x at *
        generalize C.getD k 0 = y at *
        by_cases hxy : x = y
        · have h3 := Lib.hid (s1.out hxy)
          have hq : ((x : Int) != y) = false := by simp; omega
          clear hxy s1 s2
          go_wp2
          go_quiet (fail)
          go_wp2
          go_roundw
          case rel => exact ⟨k + 1, by omega, by first | rfl | (simp; done) | (rw [q3]) | (push_cast; rfl), h3, below_drewN hBw _⟩
          case measure => simp [intOf]; omega
        · have hq : ((x : Int) != y) = true := by simp; omega
          have hr := Lib.hid (s2.out hxy)
          clear hxy s1 s2
          go_wp2
          go_quiet (fail)
          go_wp2
          go_ret
          exact ⟨by rw [hr.out]; rfl, below_drewN hBw _⟩
      · have hr : Hid (decide (A = C) = true) := Lib.hid (decide_eq_true (by
          have h := hd.out
          rw [List.take_of_length_le (by omega), List.take_of_length_le (by have := HE.out; omega)] at h
          exact h))
        have q1 : ¬ (k : Int) < (A.length : Int) := by omega
        clear hd
        go_wp2
        go_ret
        exact ⟨by rw [hr.out]; rfl, hBw⟩
  · have hq : ((A.length : Int) != C.length) = true := by simp; omega
    have hr : Hid (decide (A = C) = false) := Lib.hid (decide_eq_false fun h => hne (congrArg List.length h))
    clear hne
    go_enter Tryz.func85, Tryz.ntmps85
    go_wp2
    go_ret
    exact ⟨by rw [hr.out]; rfl, Below.refl _ _⟩
end Go.Proofs.YtjfaefgabaimaaaGreat
namespace Go.Proofs.YtjfaefgabaimaaaGreat
open Go.RowKit
/-- two boxes hold rationals, normal -/
def Boxes2 (w : World) (K : Nat) (a b : Rat) (wx : World) : Prop := Below K w wx ∧ BoxQ K wx K a ∧ BoxQ K wx (K + 1) b
theorem boxes2_end {w w2 w3 : World} {K L M : Nat} {a b : Rat} {s5 s7 : Bool} {x5 x6 x7 x8 y0 y1 y2 z0 z1 z2 : Value}
    (hC1 : RatC L w2 (.agg #[.bool s5, x5, x6]) a) (hL : K + 1 < L) (hM : K + 1 < M) (hb3 : Below w2.heap.size w2 w3) (hC2 : RatC M w3 (.agg #[.bool s7, x7, x8]) b)
    (hb : Below K w w3) (h1 : Box3 24 w3 K y0 y1 y2) (h2 : Box3 24 w3 (K + 1) z0 z1 z2) :
    Boxes2 w K a b (S3 (S3 w3 K (.bool s5) x5 x6) (K + 1) (.bool s7) x7 x8) := by
  obtain ⟨v1, v2, e1, n1, n2⟩ := hC1
  obtain ⟨v3, v4, e2, n3, n4⟩ := hC2
  simp only [Value.agg.injEq, Array.mk.injEq, List.cons.injEq, Value.bool.injEq, and_true] at e1 e2
  obtain ⟨rfl, rfl, rfl⟩ := e1
  obtain ⟨rfl, rfl, rfl⟩ := e2
  replace n1 := (n1.below hb3 (Nat.le_refl _))
  replace n2 := (n2.below hb3 (Nat.le_refl _))
  refine ⟨below_set3 (below_set3 hb (Nat.le_refl _)) (by omega), ⟨_, _, (h1.stored _ _ _).other (by omega), ?_, ?_⟩, ⟨_, _, (h2.other (by omega)).stored _ _ _, ?_, ?_⟩⟩
  · exact ((n1.set3 (by omega)).set3 (by omega)).mono (by omega)
  · exact ((n2.set3 (by omega)).set3 (by omega)).mono (by omega)
  · exact ((n3.set3 (by omega)).set3 (by omega)).mono (by omega)
  · exact ((n4.set3 (by omega)).set3 (by omega)).mono (by omega)
theorem limbs_inj {m n : Nat} : limbs m = limbs n ↔ m = n := ⟨fun h => by rw [← val_limbs m, h, val_limbs], fun h => by rw [h]⟩
theorem rat_parts {a b : Rat} (h1 : ng a = ng b) (h2 : nm a = nm b) (h3 : a.den = b.den) : a = b := by rw [← qv_self a, ← qv_self b, h1, h2, h3]
set_option maxRecDepth 100000 in
set_option maxHeartbeats 1000000 in
theorem ratSame (w : World) (v1 v2 : Value) (a b : Rat) (h1 : RatR 100000000000 w v1 a) (h2 : RatR 100000000000 w v2 b) :
    Calls Tryz.prog 49 #[v1, v2] w fun e w' => e = .returned (.bool (decide (a = b))) ∧ Below w.heap.size w w' := by
  have N1 := Lib.hid (fun w1 (hb : Below w.heap.size w w1) => ratNorm w1 v1 a ((h1.below hb (Nat.le_refl _)).more (by omega)))
  have N2 := Lib.hid (fun w1 (hb : Below w.heap.size w w1) => ratNorm w1 v2 b ((h2.below hb (Nat.le_refl _)).more (by omega)))
  have z1 := h1.size (by omega)
  have z2 := h2.size (by omega)
  obtain ⟨s1, ao1, n1, c1, ao2, n2, c2, rfl⟩ := h1.open
  obtain ⟨s2, ao3, n3, c3, ao4, n4, c4, rfl⟩ := h2.open
  clear h1 h2
  go_enter Tryz.func49, Tryz.ntmps49
  go_upto_region 1 with fail
  obtain ⟨K, rfl, hb0, hB1, hB2⟩ := boxesAB w (.bool s1) (.slice ao1 n1 c1) (.slice ao2 n2 c2) (.bool s2) (.slice ao3 n3 c3) (.slice ao4 n4 c4)
  generalize ((w.alloc (.cells #[.bool s1, .slice ao1 n1 c1, .slice ao2 n2 c2] 24)).alloc (.cells #[.bool s2, .slice ao3 n3 c3, .slice ao4 n4 c4] 24)) = w0 at *
  go_cut [] (fun wx => Boxes2 w w.heap.size a b wx)
  case first =>
    obtain ⟨k0, k1, k2, f0, f1, f2, hg1⟩ := hB1.cells
    obtain ⟨l0, l1, l2, g0, g1, g2, hg2⟩ := hB2.cells
    go_region_with (first
      | (go_at_call 22; ((with_reducible refine (N1.out w0.drew hb0.drew).mono ?_); rintro e w2 ⟨u, rfl, hC1, hb2⟩; have hb2' : Below w0.heap.size w0 w2 := (Below.refl _ _).drew.trans hb2; have hB1' := hB1.below hb2' hg1; have hB2' := hB2.below hb2' hg2; have hb02 := bthen hb0 hb2'; obtain ⟨s5, ao5, n5, c5, ao6, n6, c6, rfl⟩ := hC1.open; obtain ⟨m0, m1, m2, e0, e1, e2, hg4⟩ := hB2'.cells))
      | (go_at_call 22; (with_reducible refine (N2.out w2 hb02).mono ?_); rintro e w3 ⟨u, rfl, hC2, hb3⟩; have hB1'' := hB1'.below hb3 (Nat.lt_of_lt_of_le hg1 hb2'.size); have hB2'' := hB2'.below hb3 hg4; have hb03 := bthen hb02 hb3; obtain ⟨s7, ao7, n7, c7, ao8, n8, c8, rfl⟩ := hC2.open; obtain ⟨o0, o1, o2, i0, i1, i2, hg5⟩ := hB1''.cells; obtain ⟨p0, p1, p2, q0, q1, q2, hg6⟩ := hB2''.cells))
    all_goals
      go_wp2_with fail
      go_meet
      exact boxes2_end hC1 hg2 (Nat.lt_of_lt_of_le hg2 hb2'.size) hb3 hC2 hb03 hB1'' hB2''
  case rest =>
    obtain ⟨hb1, ⟨x1, x2, hB1', n1, n2⟩, ⟨y1, y2, hB2', n3, n4⟩⟩ := hcut
    have hla := rs_nm a
    have hda := rs_den a
    have CE1 := Lib.hid (fun w1 (hb : Below wc.heap.size wc w1) => slicesEqual w1 x1 y1 _ _ _ _ (n1.below hb (Nat.le_refl _)) (n3.below hb (Nat.le_refl _)) (by omega))
    have CE2 := Lib.hid (fun w1 (hb : Below wc.heap.size wc w1) => slicesEqual w1 x2 y2 _ _ _ _ (n2.below hb (Nat.le_refl _)) (n4.below hb (Nat.le_refl _)) (by omega))
    have e1 : decide (limbs (nm a) = limbs (nm b)) = decide (nm a = nm b) := by simp only [limbs_inj]
    have e2 : decide (limbs a.den = limbs b.den) = decide (a.den = b.den) := by simp only [limbs_inj]
    rw [e1] at CE1
    rw [e2] at CE2
    obtain ⟨k0, k1, k2, f0, f1, f2, hg1⟩ := hB1'.cells
    obtain ⟨l0, l1, l2, g0, g1, g2, hg2⟩ := hB2'.cells
    by_cases hs : ng a = ng b
    · have q1 : (ng a == ng b) = true := by simp [hs]
      by_cases hn : nm a = nm b
      · rw [decide_eq_true hn] at CE1
        have hr : Hid (decide (a = b) = decide (a.den = b.den)) := Lib.hid (by
          by_cases hd : a.den = b.den
          · rw [decide_eq_true hd, decide_eq_true (rat_parts hs hn hd)]
          · rw [decide_eq_false hd, decide_eq_false (fun h => hd (by rw [h]))])
        clear N1 N2 e1 e2 z1 z2 n1 n2 n3 n4 hla hda hs hn
        generalize decide (a.den = b.den) = dd at *
        generalize ng a = sa at *
        generalize ng b = sb at *
        go_wp2_with fail
        refine (CE1.out wc (Below.refl _ _)).mono ?_
        rintro e w2 ⟨rfl, hb2⟩
        obtain ⟨i0, i1, i2, _, _, _, hg3⟩ := (hB1'.below hb2 hg1).cells
        obtain ⟨j0, j1, j2, _, _, _, hg4⟩ := (hB2'.below hb2 hg2).cells
        go_wp2_with fail
        refine (CE2.out w2 hb2).mono ?_
        rintro e w3 ⟨rfl, hb3⟩
        go_wp2
        exact bodyPost_ret (v := .bool dd) (by simp [results, Tryz.results49, go_sem]) rfl ⟨by rw [hr.out], bthen hb1 (bthen hb2 hb3)⟩
      · rw [decide_eq_false hn] at CE1
        have hr : Hid (decide (a = b) = false) := Lib.hid (decide_eq_false fun h => hn (by rw [h]))
        clear N1 N2 CE2 e1 e2 z1 z2 n1 n2 n3 n4 hla hda hs hn
        generalize ng a = sa at *
        generalize ng b = sb at *
        go_wp2_with fail
        refine (CE1.out wc (Below.refl _ _)).mono ?_
        rintro e w2 ⟨rfl, hb2⟩
        go_wp2
        exact bodyPost_ret (v := .bool false) (by simp [results, Tryz.results49, go_sem]) rfl ⟨by rw [hr.out], bthen hb1 hb2⟩
    · have q1 : (ng a == ng b) = false := by simp [hs]
      have hr : Hid (decide (a = b) = false) := Lib.hid (decide_eq_false fun h => hs (by rw [h]))
      clear N1 N2 CE1 CE2 e1 e2 z1 z2 n1 n2 n3 n4 hla hda hs
      generalize ng a = sa at *
      generalize ng b = sb at *
      go_wp2
      exact bodyPost_ret (v := .bool false) (by simp [results, Tryz.results49, go_sem]) rfl ⟨by rw [hr.out], hb1⟩
end Go.Proofs.YtjfaefgabaimaaaGreat
