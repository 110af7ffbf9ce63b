/- Contract of vernierlaw2.known. No condition. -/
import Derived.Test.YtdojdghhbjjoeaaLawOne
namespace Go.Proofs.Ytdojdghhbjjoeaa
open Go.RowKit

/-- a literal of one limb -/
theorem rowOne (E : Nat) (w : World) (x : Nat) (vx : Int) (hx : vx = (x : Int)) (hl : x < 4294967296) :
    Nt w.heap.size (w.alloc (.cells #[.int .u32 vx] E)) (.slice (some ⟨w.heap.size, 0, none⟩) 1 1) [x] := by
  have h : RowIs E (w.alloc (.cells #[.int .u32 vx] E)) w.heap.size [x] := by
    subst hx
    exact heap_alloc_new w _
  exact h.nt rfl (Nat.le_refl _) (by intro y hy; simp at hy; omega)

theorem lit_two (s : Bool) (w : World) (v1 v2 : Value) (m n b1 b2 : Nat) (h1 : Nt b1 w v1 [m]) (h2 : Nt b2 w v2 [n]) : RatR 1 w (.agg #[.bool s, v1, v2]) (qv s m n) :=
  ⟨s, v1, v2, [m], [n], rfl, h1.mono (Nat.zero_le _), h2.mono (Nat.zero_le _), by simp [val], Nat.le_refl _, Nat.le_refl _⟩

theorem limbs_small {n : Nat} (h0 : 0 < n) (h1 : n < 4294967296) : limbs n = [n] := by
  rw [limbs_pos h0, Nat.mod_eq_of_lt h1, Nat.div_eq_of_lt h1, limbs_zero]

/-- the world with four limbs and two structs laid down -/
theorem known_world (w : World) (o1 o2 : Obj) : ∃ w6, w6 = ((((((w.alloc (.cells #[.int .u32 1] 39)).alloc (.cells #[.int .u32 2] 39)).alloc (.cells #[.int .u32 1] 39)).alloc (.cells #[.int .u32 3] 39)).alloc o1).alloc o2) ∧
    Below w.heap.size w w6 ∧ Nt 0 w6 (.slice (some ⟨w.heap.size, 0, none⟩) 1 1) [1] ∧ Nt 0 w6 (.slice (some ⟨w.heap.size + 1, 0, none⟩) 1 1) [2] ∧
    Nt 0 w6 (.slice (some ⟨w.heap.size + 1 + 1, 0, none⟩) 1 1) [1] ∧ Nt 0 w6 (.slice (some ⟨w.heap.size + 1 + 1 + 1, 0, none⟩) 1 1) [3] := by
  have a1 := rowOne 39 w 1 1 rfl (by omega)
  have B1 : Below w.heap.size w (w.alloc (.cells #[.int .u32 1] 39)) := (Below.refl _ _).alloc (Nat.le_refl _) _
  have z1 : (w.alloc (.cells #[.int .u32 1] 39)).heap.size = w.heap.size + 1 := World.size_alloc ..
  generalize w.alloc (.cells #[.int .u32 1] 39) = w1 at *
  have a2 := rowOne 39 w1 2 2 rfl (by omega)
  have C2 : Below w1.heap.size w1 (w1.alloc (.cells #[.int .u32 2] 39)) := (Below.refl _ _).alloc (Nat.le_refl _) _
  have z2 : (w1.alloc (.cells #[.int .u32 2] 39)).heap.size = w1.heap.size + 1 := World.size_alloc ..
  generalize w1.alloc (.cells #[.int .u32 2] 39) = w2 at *
  have a3 := rowOne 39 w2 1 1 rfl (by omega)
  have C3 : Below w2.heap.size w2 (w2.alloc (.cells #[.int .u32 1] 39)) := (Below.refl _ _).alloc (Nat.le_refl _) _
  have z3 : (w2.alloc (.cells #[.int .u32 1] 39)).heap.size = w2.heap.size + 1 := World.size_alloc ..
  generalize w2.alloc (.cells #[.int .u32 1] 39) = w3 at *
  have a4 := rowOne 39 w3 3 3 rfl (by omega)
  have C4 : Below w3.heap.size w3 (w3.alloc (.cells #[.int .u32 3] 39)) := (Below.refl _ _).alloc (Nat.le_refl _) _
  have z4 : (w3.alloc (.cells #[.int .u32 3] 39)).heap.size = w3.heap.size + 1 := World.size_alloc ..
  generalize w3.alloc (.cells #[.int .u32 3] 39) = w4 at *
  have C5 : Below w4.heap.size w4 (w4.alloc o1) := (Below.refl _ _).alloc (Nat.le_refl _) _
  generalize w4.alloc o1 = w5 at *
  have C6 : Below w5.heap.size w5 (w5.alloc o2) := (Below.refl _ _).alloc (Nat.le_refl _) _
  generalize w5.alloc o2 = w6 at *
  have D56 := bthen C5 C6
  have D46 := bthen C4 D56
  have D36 := bthen C3 D46
  have D26 := bthen C2 D36
  rw [z1] at a2
  rw [z2, z1] at a3
  rw [z3, z2, z1] at a4
  refine ⟨w6, rfl, bthen B1 D26, (a1.below D26 (Nat.le_refl _)).mono (Nat.zero_le _), (a2.below D36 (Nat.le_refl _)).mono (Nat.zero_le _), (a3.below D46 (Nat.le_refl _)).mono (Nat.zero_le _), (a4.below D56 (Nat.le_refl _)).mono (Nat.zero_le _)⟩

set_option maxRecDepth 100000 in
set_option maxHeartbeats 1000000 in
theorem lawKnown (w : World) :
    Calls Try.prog 21 #[] w fun e w' => e = .returned (.bool true) ∧ Below w.heap.size w w' := by
  go_enter Try.func21, Try.ntmps21
  go_wp2_with fail
  obtain ⟨w6, e6, hb, n1, n2, n3, n4⟩ := known_world w (.cells #[.bool false, .slice (some ⟨w.heap.size, 0, none⟩) 1 1, .slice (some ⟨w.heap.size + 1, 0, none⟩) 1 1] 24) (.cells #[.bool false, .slice (some ⟨w.heap.size + 1 + 1, 0, none⟩) 1 1, .slice (some ⟨w.heap.size + 1 + 1 + 1, 0, none⟩) 1 1] 24)
  rw [← e6]
  clear e6
  refine (ratAdd w6 _ _ _ _ ((lit_two false w6 _ _ 1 2 _ _ n1 n2).more (by omega)) ((lit_two false w6 _ _ 1 3 _ _ n3 n4).more (by omega))).mono ?_
  rintro e w7 ⟨v, rfl, hC, hb7⟩
  have hq : qv false 1 2 + qv false 1 3 = qv false 5 6 := by decide +kernel
  rw [hq] at hC
  clear n1 n2 n3 n4 hq
  go_wp2_with fail
  have a1 := rowOne 39 w7 5 5 rfl (by omega)
  have C1 : Below w7.heap.size w7 (w7.alloc (.cells #[.int .u32 5] 39)) := (Below.refl _ _).alloc (Nat.le_refl _) _
  have z1 : (w7.alloc (.cells #[.int .u32 5] 39)).heap.size = w7.heap.size + 1 := World.size_alloc ..
  generalize w7.alloc (.cells #[.int .u32 5] 39) = w8 at *
  have a2 := rowOne 39 w8 6 6 rfl (by omega)
  have C2 : Below w8.heap.size w8 (w8.alloc (.cells #[.int .u32 6] 39)) := (Below.refl _ _).alloc (Nat.le_refl _) _
  generalize w8.alloc (.cells #[.int .u32 6] 39) = w9 at *
  rw [z1] at a2
  have l5 : limbs (nm (qv false 5 6)) = [5] := by rw [show nm (qv false 5 6) = 5 by decide +kernel, limbs_small (by omega) (by omega)]
  have l6 : limbs (qv false 5 6).den = [6] := by rw [show (qv false 5 6).den = 6 by decide +kernel, limbs_small (by omega) (by omega)]
  have hR : RatC 0 w9 (.agg #[.bool false, .slice (some ⟨w7.heap.size, 0, none⟩) 1 1, .slice (some ⟨w7.heap.size + 1, 0, none⟩) 1 1]) (qv false 5 6) :=
    ⟨_, _, by rw [show ng (qv false 5 6) = false by decide +kernel], by rw [l5]; exact (a1.below C2 (Nat.le_refl _)).mono (Nat.zero_le _), by rw [l6]; exact a2.mono (Nat.zero_le _)⟩
  refine (lawOne w9 _ _ _ _ _ _ (hC.below (bthen C1 C2) (Nat.le_refl _)) hR (by unfold rs; rw [l5, l6]; decide)).mono ?_
  rintro e w10 ⟨rfl, hb10⟩
  rw [decide_eq_true rfl]
  have hbE := bthen hb (bthen hb7 (bthen C1 (bthen C2 hb10)))
  go_wp2
  exact bodyPost_ret (v := .bool true) (by simp [results, Try.results21, go_sem]) rfl ⟨rfl, hbE⟩

end Go.Proofs.Ytdojdghhbjjoeaa
