/- Contracts of rat.Int, rat.Div. Conditions: at most 10^11 limbs. Contract of rat.Div. Conditions: at most 10^11 limbs. Contract of rat.Floor. Conditions: at most 10^11 limbs. Contracts of the three functions that compare rows of limbs: slices.Equal, and limbs of the law and of the reference. Conditions: at most 8*10^12 limbs. Contract of rat.Same. Conditions: at most 10^11 limbs. -/
import Derived.Test.YtnjgliojkoeneaaGreatGE
import Derived.Test.YtnjgliojkoeneaaGreatGD
import Derived.Deep.DeepCutAuto
namespace Go.Proofs.YtnjgliojkoeneaaGreat
open Go.RowKit
theorem int_parts (n : Int) : nm (n : Rat) = n.natAbs ∧ ((n : Rat)).den = 1 ∧ ng (n : Rat) = decide (n < 0) := ⟨rfl, rfl, rfl⟩
set_option maxRecDepth 100000 in
set_option maxHeartbeats 1000000 in
theorem ratInt (w : World) (n : Int) (h1 : -9223372036854775808 ≤ n) (h2 : n < 9223372036854775808) :
    Calls Tryz.prog 29 #[.int .i64 n] w (RetRat (n : Rat) w) := by
  have G1 := Lib.hid (fun w1 => natOf w1 n.natAbs (by omega))
  have G2 := Lib.hid (fun w1 => natOf w1 1 (by omega))
  have hE : Hid (∀ w' v1 v2, Nt w.heap.size w' v1 (limbs n.natAbs) → Nt w.heap.size w' v2 (limbs 1) → RatC w.heap.size w' (.agg #[.bool (decide (n < 0)), v1, v2]) (n : Rat)) :=
    Lib.hid (fun w' v1 v2 m1 m2 => ⟨_, _, by rw [(int_parts n).2.2], m1, m2⟩)
  have hcast : ((n.natAbs : Nat) : Int) = if n < 0 then -n else n := by split <;> omega
  by_cases hn : n < 0
  · have e1 : IntKind.u64.wrap n = n + 18446744073709551616 := by rw [IntKind.wrap_u64]; omega
    rw [if_pos hn] at hcast
    have e2 : IntKind.u64.wrap (-(n + 18446744073709551616)) = -n := by rw [IntKind.wrap_u64]; omega
    rw [decide_eq_true hn] at hE
    simp only [hcast] at G1
    go_enter Tryz.func29, Tryz.ntmps29
    go_wp2_with fail
    have hb0 : Below w.heap.size w (w.alloc (.cells #[.bool false, .slice none 0 0, .slice none 0 0] 24)) := (Below.refl _ _).alloc (Nat.le_refl _) _
    have hB0 := Box3.new 24 w (.bool false) (.slice none 0 0) (.slice none 0 0)
    generalize (w.alloc (.cells #[.bool false, .slice none 0 0, .slice none 0 0] 24)) = w0 at *
    have hg0 : w.heap.size < w0.heap.size := hB0.cells.2.2.2.2.2.2
    refine (G1.out w0).mono ?_
    rintro e w1 ⟨u1, rfl, t1, hb1⟩
    obtain ⟨ao1, c1, rfl, _⟩ := t1.open
    go_wp2_with fail
    refine (G2.out w1).mono ?_
    rintro e w2 ⟨u2, rfl, t2, hb2⟩
    obtain ⟨ao2, c2, rfl, _⟩ := t2.open
    have hg1 : w.heap.size < w1.heap.size := Nat.lt_of_lt_of_le hg0 hb1.size
    have hb3 := bthen hb1 hb2
    obtain ⟨k0, k1, k2, f0, f1, f2, hg2⟩ := (hB0.below hb3 hg0).cells
    go_wp2
    obtain ⟨r0, r1, r2, _⟩ := ((hB0.below hb3 hg0).stored (.bool true) (.slice ao1 (limbs n.natAbs).length c1) (.slice ao2 (limbs 1).length c2)).cells
    exact bodyPost_ret (v := .agg #[.bool true, .slice ao1 (limbs n.natAbs).length c1, .slice ao2 (limbs 1).length c2]) (by simp [results, Tryz.results29, go_sem, r0, r1, r2]) rfl
      ⟨_, rfl, hE.out _ _ _ (((t1.below hb2 (Nat.le_refl _)).set3 hg0).mono (by omega)) ((t2.set3 hg1).mono (by omega)), below_set3 (bthen hb0 hb3) (by omega)⟩
  · have e1 : IntKind.u64.wrap n = n := by rw [IntKind.wrap_u64]; omega
    rw [if_neg hn] at hcast
    rw [decide_eq_false hn] at hE
    simp only [hcast] at G1
    go_enter Tryz.func29, Tryz.ntmps29
    go_wp2_with fail
    have hb0 : Below w.heap.size w (w.alloc (.cells #[.bool false, .slice none 0 0, .slice none 0 0] 24)) := (Below.refl _ _).alloc (Nat.le_refl _) _
    have hB0 := Box3.new 24 w (.bool false) (.slice none 0 0) (.slice none 0 0)
    generalize (w.alloc (.cells #[.bool false, .slice none 0 0, .slice none 0 0] 24)) = w0 at *
    have hg0 : w.heap.size < w0.heap.size := hB0.cells.2.2.2.2.2.2
    refine (G1.out w0).mono ?_
    rintro e w1 ⟨u1, rfl, t1, hb1⟩
    obtain ⟨ao1, c1, rfl, _⟩ := t1.open
    go_wp2_with fail
    refine (G2.out w1).mono ?_
    rintro e w2 ⟨u2, rfl, t2, hb2⟩
    obtain ⟨ao2, c2, rfl, _⟩ := t2.open
    have hg1 : w.heap.size < w1.heap.size := Nat.lt_of_lt_of_le hg0 hb1.size
    have hb3 := bthen hb1 hb2
    obtain ⟨k0, k1, k2, f0, f1, f2, hg2⟩ := (hB0.below hb3 hg0).cells
    go_wp2
    obtain ⟨r0, r1, r2, _⟩ := ((hB0.below hb3 hg0).stored (.bool false) (.slice ao1 (limbs n.natAbs).length c1) (.slice ao2 (limbs 1).length c2)).cells
    exact bodyPost_ret (v := .agg #[.bool false, .slice ao1 (limbs n.natAbs).length c1, .slice ao2 (limbs 1).length c2]) (by simp [results, Tryz.results29, go_sem, r0, r1, r2]) rfl
      ⟨_, rfl, hE.out _ _ _ (((t1.below hb2 (Nat.le_refl _)).set3 hg0).mono (by omega)) ((t2.set3 hg1).mono (by omega)), below_set3 (bthen hb0 hb3) (by omega)⟩
end Go.Proofs.YtnjgliojkoeneaaGreat
namespace Go.Proofs.YtnjgliojkoeneaaGreat
open Go.RowKit
end Go.Proofs.YtnjgliojkoeneaaGreat
namespace Go.Proofs.YtnjgliojkoeneaaGreat
open Go.RowKit
end Go.Proofs.YtnjgliojkoeneaaGreat
namespace Go.Proofs.YtnjgliojkoeneaaGreat
open Go.RowKit
theorem take_step {A C : List Nat} {k : Nat} (h1 : k < A.length) (h2 : k < C.length) (h : A.take k = C.take k) (he : A.getD k 0 = C.getD k 0) : A.take (k + 1) = C.take (k + 1) := by
  rw [List.take_succ_eq_append_getElem h1, List.take_succ_eq_append_getElem h2, h]
  rw [List.getD_eq_getElem?_getD, List.getD_eq_getElem?_getD, List.getElem?_eq_getElem h1, List.getElem?_eq_getElem h2] at he
  simp at he
  rw [he]
theorem getD_ne {A C : List Nat} {k : Nat} (h : ¬ A.getD k 0 = C.getD k 0) : decide (A = C) = false := decide_eq_false fun e => h (by rw [e])
set_option maxRecDepth 100000 in
set_option maxHeartbeats 1000000 in
theorem refLimbs (w : World) (v1 v2 : Value) (A C : List Nat) (b1 b2 : Nat) (h1 : Nt b1 w v1 A) (h2 : Nt b2 w v2 C) (hL1 : A.length ≤ 8000000000000) :
    Calls Tryz.prog 55 #[v1, v2] w fun e w' => e = .returned (.bool (decide (A = C))) ∧ Below w.heap.size w w' := by
  have X1 := Lib.hid h1.lt
  have X2 := Lib.hid h2.lt
  obtain ⟨ao1, c1, rfl, hc1⟩ := h1.open
  obtain ⟨ao2, c2, rfl, hc2⟩ := h2.open
  by_cases hne : A.length = C.length
  · have hq : ((A.length : Int) != C.length) = false := by simp; omega
    have HE := Lib.hid hne
    clear hne
    go_enter Tryz.func55, Tryz.ntmps55
    go_wp2
    go_loopw [5] (fun i wr => ∃ k : Nat, k ≤ A.length ∧ i = .int .i64 (k : Int) ∧ Hid (A.take k = C.take k) ∧ Below w.heap.size w wr) (fun i _ => A.length - (intOf i).toNat)
    case atStart => exact ⟨0, Nat.zero_le _, rfl, (by show A.take 0 = C.take 0; rfl), Below.refl _ _⟩
    case round =>
      obtain ⟨k, hk, rfl, hd, hBw⟩ := hrel
      by_cases hlt : k < A.length
      · obtain ⟨b3, o3, rfl, _, hb3, hc3⟩ := h1.at_some hlt
        obtain ⟨b4, o4, rfl, _, hb4, hc4⟩ := h2.at_some (k := k) (by have := HE.out; omega)
        have d1 : wr.cell? ⟨b3, o3 + k, none⟩ = some (.int .u32 ((A.getD k 0 : Nat) : Int)) := by rw [hBw.cell hb3]; exact hc3 k hlt
        have d2 : wr.cell? ⟨b4, o4 + k, none⟩ = some (.int .u32 ((C.getD k 0 : Nat) : Int)) := by rw [hBw.cell hb4]; exact hc4 k (by have := HE.out; omega)
        have s1 := Lib.hid (take_step hlt (by have := HE.out; omega) hd.out)
        have s2 := Lib.hid (getD_ne (A := A) (C := C) (k := k))
        have hltC : k < C.length := by have := HE.out; omega
        have q0 : (0 : Int) ≤ (k : Int) := by omega
        have q1 : (k : Int) < (A.length : Int) := by omega
        have q2 : (k : Int) < (C.length : Int) := by omega
        have q3 : IntKind.i64.wrap ((k : Int) + 1) = ((k + 1 : Nat) : Int) := by rw [IntWalk.i64_in _ (by omega)]; rfl
        clear hc3 hc4 hd
        generalize A.getD k 0 = x at *
        generalize C.getD k 0 = y at *
        by_cases hxy : x = y
        · have h3 := Lib.hid (s1.out hxy)
          have hq : ((x : Int) != y) = false := by simp; omega
          clear hxy s1 s2
          go_wp2
          go_quiet (fail)
          go_wp2
          go_roundw
          case rel => exact ⟨k + 1, by omega, by first | rfl | (simp; done) | (rw [q3]) | (push_cast; rfl), h3, below_drewN hBw _⟩
          case measure => simp [intOf]; omega
        · have hq : ((x : Int) != y) = true := by simp; omega
          have hr := Lib.hid (s2.out hxy)
          clear hxy s1 s2
          go_wp2
          go_quiet (fail)
          go_wp2
          go_ret
          exact ⟨by rw [hr.out]; rfl, below_drewN hBw _⟩
      · have hr : Hid (decide (A = C) = true) := Lib.hid (decide_eq_true (by
          have h := hd.out
          rw [List.take_of_length_le (by omega), List.take_of_length_le (by have := HE.out; omega)] at h
          exact h))
        have q1 : ¬ (k : Int) < (A.length : Int) := by omega
        clear hd
        go_wp2
        go_ret
        exact ⟨by rw [hr.out]; rfl, hBw⟩
  · have hq : ((A.length : Int) != C.length) = true := by simp; omega
    have hr : Hid (decide (A = C) = false) := Lib.hid (decide_eq_false fun h => hne (congrArg List.length h))
    clear hne
    go_enter Tryz.func55, Tryz.ntmps55
    go_wp2
    go_ret
    exact ⟨by rw [hr.out]; rfl, Below.refl _ _⟩
end Go.Proofs.YtnjgliojkoeneaaGreat
namespace Go.Proofs.YtnjgliojkoeneaaGreat
open Go.RowKit
theorem limbs_inj {m n : Nat} : limbs m = limbs n ↔ m = n := ⟨fun h => by rw [← val_limbs m, h, val_limbs], fun h => by rw [h]⟩
theorem rat_parts {a b : Rat} (h1 : ng a = ng b) (h2 : nm a = nm b) (h3 : a.den = b.den) : a = b := by rw [← qv_self a, ← qv_self b, h1, h2, h3]
end Go.Proofs.YtnjgliojkoeneaaGreat
