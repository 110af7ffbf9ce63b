/- Contracts of rat.Int, rat.Div. Conditions: at most 10^11 limbs. -/
import Derived.Test.YtdojdghhbjjoeaaRatSub
import Derived.Test.YtdojdghhbjjoeaaRatMul
namespace Go.Proofs.Ytdojdghhbjjoeaa
open Go.RowKit

theorem int_parts (n : Int) : nm (n : Rat) = n.natAbs ∧ ((n : Rat)).den = 1 ∧ ng (n : Rat) = decide (n < 0) := ⟨rfl, rfl, rfl⟩

set_option maxRecDepth 100000 in
set_option maxHeartbeats 1000000 in
theorem ratInt (w : World) (n : Int) (h1 : -9223372036854775808 ≤ n) (h2 : n < 9223372036854775808) :
    Calls Try.prog 27 #[.int .i64 n] w (RetRat (n : Rat) w) := by
  have G1 := Lib.hid (fun w1 => natOf w1 n.natAbs (by omega))
  have G2 := Lib.hid (fun w1 => natOf w1 1 (by omega))
  have hE : Hid (∀ w' v1 v2, Nt w.heap.size w' v1 (limbs n.natAbs) → Nt w.heap.size w' v2 (limbs 1) → RatC w.heap.size w' (.agg #[.bool (decide (n < 0)), v1, v2]) (n : Rat)) :=
    Lib.hid (fun w' v1 v2 m1 m2 => ⟨_, _, by rw [(int_parts n).2.2], m1, m2⟩)
  have hcast : ((n.natAbs : Nat) : Int) = if n < 0 then -n else n := by split <;> omega
  by_cases hn : n < 0
  · have e1 : IntKind.u64.wrap n = n + 18446744073709551616 := by rw [IntKind.wrap_u64]; omega
    rw [if_pos hn] at hcast
    have e2 : IntKind.u64.wrap (-(n + 18446744073709551616)) = -n := by rw [IntKind.wrap_u64]; omega
    rw [decide_eq_true hn] at hE
    simp only [hcast] at G1
    go_enter Try.func27, Try.ntmps27
    go_wp2_with fail
    have hb0 : Below w.heap.size w (w.alloc (.cells #[.bool false, .slice none 0 0, .slice none 0 0] 24)) := (Below.refl _ _).alloc (Nat.le_refl _) _
    have hB0 := Box3.new 24 w (.bool false) (.slice none 0 0) (.slice none 0 0)
    generalize (w.alloc (.cells #[.bool false, .slice none 0 0, .slice none 0 0] 24)) = w0 at *
    have hg0 : w.heap.size < w0.heap.size := hB0.cells.2.2.2.2.2.2
    refine (G1.out w0).mono ?_
    rintro e w1 ⟨u1, rfl, t1, hb1⟩
    obtain ⟨ao1, c1, rfl, _⟩ := t1.open
    go_wp2_with fail
    refine (G2.out w1).mono ?_
    rintro e w2 ⟨u2, rfl, t2, hb2⟩
    obtain ⟨ao2, c2, rfl, _⟩ := t2.open
    have hg1 : w.heap.size < w1.heap.size := Nat.lt_of_lt_of_le hg0 hb1.size
    have hb3 := bthen hb1 hb2
    obtain ⟨k0, k1, k2, f0, f1, f2, hg2⟩ := (hB0.below hb3 hg0).cells
    go_wp2
    obtain ⟨r0, r1, r2, _⟩ := ((hB0.below hb3 hg0).stored (.bool true) (.slice ao1 (limbs n.natAbs).length c1) (.slice ao2 (limbs 1).length c2)).cells
    exact bodyPost_ret (v := .agg #[.bool true, .slice ao1 (limbs n.natAbs).length c1, .slice ao2 (limbs 1).length c2]) (by simp [results, Try.results27, go_sem, r0, r1, r2]) rfl
      ⟨_, rfl, hE.out _ _ _ (((t1.below hb2 (Nat.le_refl _)).set3 hg0).mono (by omega)) ((t2.set3 hg1).mono (by omega)), below_set3 (bthen hb0 hb3) (by omega)⟩
  · have e1 : IntKind.u64.wrap n = n := by rw [IntKind.wrap_u64]; omega
    rw [if_neg hn] at hcast
    rw [decide_eq_false hn] at hE
    simp only [hcast] at G1
    go_enter Try.func27, Try.ntmps27
    go_wp2_with fail
    have hb0 : Below w.heap.size w (w.alloc (.cells #[.bool false, .slice none 0 0, .slice none 0 0] 24)) := (Below.refl _ _).alloc (Nat.le_refl _) _
    have hB0 := Box3.new 24 w (.bool false) (.slice none 0 0) (.slice none 0 0)
    generalize (w.alloc (.cells #[.bool false, .slice none 0 0, .slice none 0 0] 24)) = w0 at *
    have hg0 : w.heap.size < w0.heap.size := hB0.cells.2.2.2.2.2.2
    refine (G1.out w0).mono ?_
    rintro e w1 ⟨u1, rfl, t1, hb1⟩
    obtain ⟨ao1, c1, rfl, _⟩ := t1.open
    go_wp2_with fail
    refine (G2.out w1).mono ?_
    rintro e w2 ⟨u2, rfl, t2, hb2⟩
    obtain ⟨ao2, c2, rfl, _⟩ := t2.open
    have hg1 : w.heap.size < w1.heap.size := Nat.lt_of_lt_of_le hg0 hb1.size
    have hb3 := bthen hb1 hb2
    obtain ⟨k0, k1, k2, f0, f1, f2, hg2⟩ := (hB0.below hb3 hg0).cells
    go_wp2
    obtain ⟨r0, r1, r2, _⟩ := ((hB0.below hb3 hg0).stored (.bool false) (.slice ao1 (limbs n.natAbs).length c1) (.slice ao2 (limbs 1).length c2)).cells
    exact bodyPost_ret (v := .agg #[.bool false, .slice ao1 (limbs n.natAbs).length c1, .slice ao2 (limbs 1).length c2]) (by simp [results, Try.results27, go_sem, r0, r1, r2]) rfl
      ⟨_, rfl, hE.out _ _ _ (((t1.below hb2 (Nat.le_refl _)).set3 hg0).mono (by omega)) ((t2.set3 hg1).mono (by omega)), below_set3 (bthen hb0 hb3) (by omega)⟩

end Go.Proofs.Ytdojdghhbjjoeaa
