/- A row of rationals laid for a call of 'big'; words that the laws' walks share. No condition. -/
import Derived.Test.YtdojdghhbjjoeaaLawFrame
import Derived.Test.YtdojdghhbjjoeaaHeap
namespace Go.Proofs.Ytdojdghhbjjoeaa
open Go.RowKit

theorem lens1 {t : Nat} {w : World} {g : Nat} {s1 : Value} {p1 p2 : Option Addr} {i1 j1 c1 c2 : Nat}
    (h : Bx t w g [s1, .slice p1 i1 c1, .slice p2 j1 c2]) (l1 : i1 ≤ 100000000000000) (l2 : j1 ≤ 100000000000000) : Lens w g [i1 + j1] := by
  intro i hi
  match i, hi with
  | 0, _ => exact ⟨_, _, _, _, _, _, h.at 1 rfl, h.at 2 rfl, rfl, l1, l2⟩
  | k + 1, hk => exact (Nat.not_lt.2 (Nat.le_add_left _ _) hk).elim

theorem lens2 {t : Nat} {w : World} {g : Nat} {s1 s2 : Value} {p1 p2 p3 p4 : Option Addr} {i1 j1 i2 j2 c1 c2 c3 c4 : Nat}
    (h : Bx t w g [s1, .slice p1 i1 c1, .slice p2 j1 c2, s2, .slice p3 i2 c3, .slice p4 j2 c4])
    (l1 : i1 ≤ 100000000000000) (l2 : j1 ≤ 100000000000000) (l3 : i2 ≤ 100000000000000) (l4 : j2 ≤ 100000000000000) : Lens w g [i1 + j1, i2 + j2] := by
  intro i hi
  match i, hi with
  | 0, _ => exact ⟨_, _, _, _, _, _, h.at 1 rfl, h.at 2 rfl, rfl, l1, l2⟩
  | 1, _ => exact ⟨_, _, _, _, _, _, h.at 4 rfl, h.at 5 rfl, rfl, l3, l4⟩
  | k + 2, hk => exact (Nat.not_lt.2 (Nat.le_add_left _ _) hk).elim

theorem lens3 {t : Nat} {w : World} {g : Nat} {s1 s2 s3 : Value} {p1 p2 p3 p4 p5 p6 : Option Addr} {i1 j1 i2 j2 i3 j3 c1 c2 c3 c4 c5 c6 : Nat}
    (h : Bx t w g [s1, .slice p1 i1 c1, .slice p2 j1 c2, s2, .slice p3 i2 c3, .slice p4 j2 c4, s3, .slice p5 i3 c5, .slice p6 j3 c6])
    (l1 : i1 ≤ 100000000000000) (l2 : j1 ≤ 100000000000000) (l3 : i2 ≤ 100000000000000) (l4 : j2 ≤ 100000000000000) (l5 : i3 ≤ 100000000000000) (l6 : j3 ≤ 100000000000000) : Lens w g [i1 + j1, i2 + j2, i3 + j3] := by
  intro i hi
  match i, hi with
  | 0, _ => exact ⟨_, _, _, _, _, _, h.at 1 rfl, h.at 2 rfl, rfl, l1, l2⟩
  | 1, _ => exact ⟨_, _, _, _, _, _, h.at 4 rfl, h.at 5 rfl, rfl, l3, l4⟩
  | 2, _ => exact ⟨_, _, _, _, _, _, h.at 7 rfl, h.at 8 rfl, rfl, l5, l6⟩
  | k + 3, hk => exact (Nat.not_lt.2 (Nat.le_add_left _ _) hk).elim

/-- two normal rationals that are one -/
theorem lawOneT (w : World) (v1 v2 : Value) (a b : Rat) (b1 b2 : Nat) (h1 : RatC b1 w v1 a) (h2 : RatC b2 w v2 b) (hL : rs a ≤ 8000000000000) (he : a = b) :
    Calls Try.prog 18 #[v1, v2] w fun e w' => e = .returned (.bool true) ∧ Below w.heap.size w w' := by
  have h := lawOne w v1 v2 a b b1 b2 h1 h2 hL
  rw [decide_eq_true he] at h
  exact h

theorem raw_of {w : World} {v1 v2 : Value} {xs ys : List Nat} (s : Bool) (h1 : Nt 0 w v1 xs) (h2 : Nt 0 w v2 ys) : RatR (max xs.length ys.length) w (.agg #[.bool s, v1, v2]) (qv s (val xs) (val ys)) :=
  ⟨s, v1, v2, xs, ys, rfl, h1, h2, rfl, Nat.le_max_left _ _, Nat.le_max_right _ _⟩

theorem wrap_add {a b : Nat} (h : a + b ≤ 9223372036854775807) : IntKind.i64.wrap ((a : Int) + (b : Int)) = ((a + b : Nat) : Int) := by
  rw [IntWalk.i64_in _ (by omega)]; omega

end Go.Proofs.Ytdojdghhbjjoeaa
