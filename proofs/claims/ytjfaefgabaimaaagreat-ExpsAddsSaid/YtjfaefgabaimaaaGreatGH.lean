/- Contract of vernierlaw2.one. Conditions: at most 8*10^12 limbs. Contract of vernierlaw2.known. No condition. Contract of vernierlaw2.big. Conditions: rows shorter than 10^14. The arguments of a law over rationals, opened and shut. No condition. A row of rationals laid for a call of 'big'; words that the laws' walks share. No condition. -/
import Derived.Test.YtjfaefgabaimaaaGreatGI
import Derived.Test.YtjfaefgabaimaaaGreatGD
import Derived.Lib.SmallJoins
import Derived.Deep.Slices
import Derived.ChangeArms
import Derived.Carry
import Derived.SizedLaws
namespace Go.Proofs.YtjfaefgabaimaaaGreat
open Go.RowKit

end Go.Proofs.YtjfaefgabaimaaaGreat

namespace Go.Proofs.YtjfaefgabaimaaaGreat
open Go.RowKit

/-- a literal of one limb -/
theorem rowOne (E : Nat) (w : World) (x : Nat) (vx : Int) (hx : vx = (x : Int)) (hl : x < 4294967296) :
    Nt w.heap.size (w.alloc (.cells #[.int .u32 vx] E)) (.slice (some ⟨w.heap.size, 0, none⟩) 1 1) [x] := by
  have h : RowIs E (w.alloc (.cells #[.int .u32 vx] E)) w.heap.size [x] := by
    subst hx
    exact heap_alloc_new w _
  exact h.nt rfl (Nat.le_refl _) (by intro y hy; simp at hy; omega)

theorem lit_two (s : Bool) (w : World) (v1 v2 : Value) (m n b1 b2 : Nat) (h1 : Nt b1 w v1 [m]) (h2 : Nt b2 w v2 [n]) : RatR 1 w (.agg #[.bool s, v1, v2]) (qv s m n) :=
  ⟨s, v1, v2, [m], [n], rfl, h1.mono (Nat.zero_le _), h2.mono (Nat.zero_le _), by simp [val], Nat.le_refl _, Nat.le_refl _⟩

theorem limbs_small {n : Nat} (h0 : 0 < n) (h1 : n < 4294967296) : limbs n = [n] := by
  rw [limbs_pos h0, Nat.mod_eq_of_lt h1, Nat.div_eq_of_lt h1, limbs_zero]

/-- the world with four limbs and two structs laid down -/
theorem known_world (w : World) (o1 o2 : Obj) : ∃ w6, w6 = ((((((w.alloc (.cells #[.int .u32 1] 63)).alloc (.cells #[.int .u32 2] 63)).alloc (.cells #[.int .u32 1] 63)).alloc (.cells #[.int .u32 3] 63)).alloc o1).alloc o2) ∧
    Below w.heap.size w w6 ∧ Nt 0 w6 (.slice (some ⟨w.heap.size, 0, none⟩) 1 1) [1] ∧ Nt 0 w6 (.slice (some ⟨w.heap.size + 1, 0, none⟩) 1 1) [2] ∧
    Nt 0 w6 (.slice (some ⟨w.heap.size + 1 + 1, 0, none⟩) 1 1) [1] ∧ Nt 0 w6 (.slice (some ⟨w.heap.size + 1 + 1 + 1, 0, none⟩) 1 1) [3] := by
  have a1 := rowOne 63 w 1 1 rfl (by omega)
  have B1 : Below w.heap.size w (w.alloc (.cells #[.int .u32 1] 63)) := (Below.refl _ _).alloc (Nat.le_refl _) _
  have z1 : (w.alloc (.cells #[.int .u32 1] 63)).heap.size = w.heap.size + 1 := World.size_alloc ..
  generalize w.alloc (.cells #[.int .u32 1] 63) = w1 at *
  have a2 := rowOne 63 w1 2 2 rfl (by omega)
  have C2 : Below w1.heap.size w1 (w1.alloc (.cells #[.int .u32 2] 63)) := (Below.refl _ _).alloc (Nat.le_refl _) _
  have z2 : (w1.alloc (.cells #[.int .u32 2] 63)).heap.size = w1.heap.size + 1 := World.size_alloc ..
  generalize w1.alloc (.cells #[.int .u32 2] 63) = w2 at *
  have a3 := rowOne 63 w2 1 1 rfl (by omega)
  have C3 : Below w2.heap.size w2 (w2.alloc (.cells #[.int .u32 1] 63)) := (Below.refl _ _).alloc (Nat.le_refl _) _
  have z3 : (w2.alloc (.cells #[.int .u32 1] 63)).heap.size = w2.heap.size + 1 := World.size_alloc ..
  generalize w2.alloc (.cells #[.int .u32 1] 63) = w3 at *
  have a4 := rowOne 63 w3 3 3 rfl (by omega)
  have C4 : Below w3.heap.size w3 (w3.alloc (.cells #[.int .u32 3] 63)) := (Below.refl _ _).alloc (Nat.le_refl _) _
  have z4 : (w3.alloc (.cells #[.int .u32 3] 63)).heap.size = w3.heap.size + 1 := World.size_alloc ..
  generalize w3.alloc (.cells #[.int .u32 3] 63) = w4 at *
  have C5 : Below w4.heap.size w4 (w4.alloc o1) := (Below.refl _ _).alloc (Nat.le_refl _) _
  generalize w4.alloc o1 = w5 at *
  have C6 : Below w5.heap.size w5 (w5.alloc o2) := (Below.refl _ _).alloc (Nat.le_refl _) _
  generalize w5.alloc o2 = w6 at *
  have D56 := bthen C5 C6
  have D46 := bthen C4 D56
  have D36 := bthen C3 D46
  have D26 := bthen C2 D36
  rw [z1] at a2
  rw [z2, z1] at a3
  rw [z3, z2, z1] at a4
  refine ⟨w6, rfl, bthen B1 D26, (a1.below D26 (Nat.le_refl _)).mono (Nat.zero_le _), (a2.below D36 (Nat.le_refl _)).mono (Nat.zero_le _), (a3.below D46 (Nat.le_refl _)).mono (Nat.zero_le _), (a4.below D56 (Nat.le_refl _)).mono (Nat.zero_le _)⟩

end Go.Proofs.YtjfaefgabaimaaaGreat

namespace Go.Proofs.YtjfaefgabaimaaaGreat
open Go.RowKit

/-- a row of structs with two slices each, of together so many limbs -/
def Lens (w : World) (g : Nat) (ts : List Nat) : Prop :=
  ∀ i, i < ts.length → ∃ ao1 n1 c1 ao2 n2 c2, w.cell? ⟨g, i * 3 + 1, none⟩ = some (.slice ao1 n1 c1) ∧ w.cell? ⟨g, i * 3 + 2, none⟩ = some (.slice ao2 n2 c2) ∧ ts.getD i 0 = n1 + n2 ∧ n1 ≤ 100000000000000 ∧ n2 ≤ 100000000000000

theorem sum_take_succ (ts : List Nat) (i : Nat) (h : i < ts.length) : (ts.take (i + 1)).sum = (ts.take i).sum + ts.getD i 0 := by
  rw [List.take_succ_eq_append_getElem h, List.sum_append, List.getD_eq_getElem?_getD, List.getElem?_eq_getElem h]
  simp
theorem sum_take_le (ts : List Nat) (i : Nat) : (ts.take i).sum ≤ ts.sum := by
  have h := List.take_append_drop i ts
  have : ts.sum = (ts.take i).sum + (ts.drop i).sum := by rw [← List.sum_append, h]
  omega

end Go.Proofs.YtjfaefgabaimaaaGreat

namespace Go.Proofs.YtjfaefgabaimaaaGreat
open Go.RowKit Go.Joins Go.ChangeShapes Go.WideShapes

theorem cells39 : Tryz.prog.cellsOf 63 = 1 := by kernel_rfl
theorem cells24 : Tryz.prog.cellsOf 24 = 3 := by kernel_rfl

/-- the number in an integer value -/
def natOfV : Value → Nat
  | .int _ z => z.toNat
  | _ => 0

/-- the datum d is a slice of n parts -/
def LenOf {H : Type} (d : DataW H) (n : Nat) : Prop := (d = .nil ∧ n = 0) ∨ ∃ es sp, d = .slice es sp ∧ es.length = n

theorem openNat {H : Type} {enc : TypeId × Value → H} {W : World} {n : Nat} {v : Value} {y : DataW H × List MemPlace}
    (h : DataW.trod enc Tryz.prog W 0 (fun _ => true) true n 22 [v] = some y) : ∃ xs, Nt 0 W v xs ∧ LenOf y.1 xs.length := by
  rcases Deep.open_slice1 Tryz.underlying22 cells39 h with ⟨hcs, hx⟩ | ⟨a, len, cap, m, k, V, D, Pl, hcs, hb, hl, hm, hmm, hx, hV⟩
  · simp at hcs
    subst hcs hx
    exact ⟨[], Nt.nil _ _, .inl ⟨rfl, rfl⟩⟩
  · simp at hcs
    subst hcs hx
    simp only [if_true] at hmm
    subst hmm
    obtain ⟨ab, ao, asp⟩ := a
    have hz : ∀ i, i < m → V i = .int .u32 ((natOfV (V i) : Nat) : Int) ∧ natOfV (V i) < 4294967296 := by
      intro i hi
      obtain ⟨z, e, _, hw⟩ := DataW.trod_int Tryz.underlying63 (hV i hi).2
      simp at e
      simp [Lit.wf, IntKind.min, IntKind.max, IntKind.signed, IntKind.bits] at hw
      rw [e]
      have hn : natOfV (.int .u32 z) = z.toNat := rfl
      rw [hn]
      exact ⟨by congr 1; omega, by omega⟩
    have hlen : ((List.range len).map fun i => natOfV (V i)).length = len := by simp
    refine ⟨(List.range len).map fun i => natOfV (V i), ⟨_, m, by rw [hlen], by rw [hlen]; exact hl, ?_, ⟨fun ad e => Nat.zero_le _, fun e => by cases e⟩, ?_⟩, .inr ⟨_, _, rfl, by simp⟩⟩
    · intro x hx
      obtain ⟨i, hi, rfl⟩ := List.mem_map.1 hx
      simp at hi
      exact (hz i (by omega)).2
    · intro hp
      rw [hlen] at hp
      have hspot : asp = none := by simpa [Addr.add] using World.cell?_spot (hV 0 (by omega)).1
      subst hspot
      refine ⟨ab, ao, rfl, fun i hi => ?_⟩
      rw [hlen] at hi
      have h1 := (hV i (by omega)).1
      rw [(hz i (by omega)).1] at h1
      have e : ((List.range len).map fun i => natOfV (V i)).getD i 0 = natOfV (V i) := by simp [List.getD, hi]
      rw [e]
      rwa [WideShapes.add_plain] at h1

set_option maxRecDepth 100000 in
theorem openRat {H : Type} {enc : TypeId × Value → H} {W : World} {base : Nat} {v : Value} {d : DataW H} {p : List MemPlace}
    (hv : Value.okWide Tryz.prog W .any base 24 v) (h : DataW.Trod enc Tryz.prog W 0 (fun _ => true) true 24 v d p) :
    ∃ s v1 v2 xs ys d1 d2, v = .agg #[.bool s, v1, v2] ∧ d = .agg [.lit (.bool s), d1, d2] ∧ Nt 0 W v1 xs ∧ Nt 0 W v2 ys ∧ LenOf d1 xs.length ∧ LenOf d2 ys.length := by
  obtain ⟨c0, c1, c2, y0, y1, y2, m, rfl, rfl, rfl, hy0, hy1, hy2⟩ := open_agg3 Tryz.underlying24 (by kernel_rfl) cells24 hv h
  obtain ⟨s, e0, rfl⟩ := DataW.trod_bool Tryz.underlying4 hy0
  simp at e0
  subst e0
  obtain ⟨xs, n1, l1⟩ := openNat hy1
  obtain ⟨ys, n2, l2⟩ := openNat hy2
  exact ⟨s, c1, c2, xs, ys, _, _, rfl, rfl, n1, n2, l1, l2⟩

theorem bytes39 : Tryz.prog.bytesOf 63 = 4 := by kernel_rfl

theorem LenOf.weight {H : Type} {d : DataW H} {n : Nat} (h : LenOf d n) {ws : List Nat} (hs : ∀ k ∈ DataW.weights Tryz.prog 22 d, k ∈ ws) (hsz : ws.all (· ≤ reachBytes) = true) : n ≤ 100000000000000 := by
  rcases h with ⟨_, rfl⟩ | ⟨es, sp, rfl, rfl⟩
  · exact Nat.zero_le _
  · have h1 : (es.length + sp.length) * 4 ∈ ws := hs _ (by simp [DataW.weights, Tryz.underlying22, bytes39])
    have h2 : (es.length + sp.length) * 4 ≤ reachBytes := of_decide_eq_true (List.all_eq_true.1 hsz _ h1)
    have h3 : reachBytes = 140737488351232 := rfl
    omega

/-- the j-th argument, a rational, has short rows -/
theorem ratLens {H : Type} {ts : List TypeId} {ds : List (DataW H)} (hsz : (DataW.weightsEach Tryz.prog ts ds).all (· ≤ reachBytes) = true) (j : Nat) {s : Bool} {d1 d2 : DataW H} {n1 n2 : Nat}
    (ht : ts[j]? = some 24) (hd : ds[j]? = some (.agg [.lit (.bool s), d1, d2])) (h1 : LenOf d1 n1) (h2 : LenOf d2 n2) : n1 ≤ 100000000000000 ∧ n2 ≤ 100000000000000 := by
  have hm := DataW.weights_mem_each ht hd (P := Tryz.prog)
  have e : DataW.weights Tryz.prog 24 (DataW.agg [.lit (.bool s), d1, d2]) = DataW.weights Tryz.prog 22 d1 ++ DataW.weights Tryz.prog 22 d2 := by
    simp [DataW.weights, DataW.weightsEach, Tryz.underlying24]
  rw [e] at hm
  exact ⟨h1.weight (fun k hk => hm k (List.mem_append_left _ hk)) hsz, h2.weight (fun k hk => hm k (List.mem_append_right _ hk)) hsz⟩

end Go.Proofs.YtjfaefgabaimaaaGreat

namespace Go.Proofs.YtjfaefgabaimaaaGreat
open Go.RowKit

theorem lens1 {t : Nat} {w : World} {g : Nat} {s1 : Value} {p1 p2 : Option Addr} {i1 j1 c1 c2 : Nat}
    (h : Bx t w g [s1, .slice p1 i1 c1, .slice p2 j1 c2]) (l1 : i1 ≤ 100000000000000) (l2 : j1 ≤ 100000000000000) : Lens w g [i1 + j1] := by
  intro i hi
  match i, hi with
  | 0, _ => exact ⟨_, _, _, _, _, _, h.at 1 rfl, h.at 2 rfl, rfl, l1, l2⟩
  | k + 1, hk => exact (Nat.not_lt.2 (Nat.le_add_left _ _) hk).elim

theorem lens2 {t : Nat} {w : World} {g : Nat} {s1 s2 : Value} {p1 p2 p3 p4 : Option Addr} {i1 j1 i2 j2 c1 c2 c3 c4 : Nat}
    (h : Bx t w g [s1, .slice p1 i1 c1, .slice p2 j1 c2, s2, .slice p3 i2 c3, .slice p4 j2 c4])
    (l1 : i1 ≤ 100000000000000) (l2 : j1 ≤ 100000000000000) (l3 : i2 ≤ 100000000000000) (l4 : j2 ≤ 100000000000000) : Lens w g [i1 + j1, i2 + j2] := by
  intro i hi
  match i, hi with
  | 0, _ => exact ⟨_, _, _, _, _, _, h.at 1 rfl, h.at 2 rfl, rfl, l1, l2⟩
  | 1, _ => exact ⟨_, _, _, _, _, _, h.at 4 rfl, h.at 5 rfl, rfl, l3, l4⟩
  | k + 2, hk => exact (Nat.not_lt.2 (Nat.le_add_left _ _) hk).elim

theorem lens3 {t : Nat} {w : World} {g : Nat} {s1 s2 s3 : Value} {p1 p2 p3 p4 p5 p6 : Option Addr} {i1 j1 i2 j2 i3 j3 c1 c2 c3 c4 c5 c6 : Nat}
    (h : Bx t w g [s1, .slice p1 i1 c1, .slice p2 j1 c2, s2, .slice p3 i2 c3, .slice p4 j2 c4, s3, .slice p5 i3 c5, .slice p6 j3 c6])
    (l1 : i1 ≤ 100000000000000) (l2 : j1 ≤ 100000000000000) (l3 : i2 ≤ 100000000000000) (l4 : j2 ≤ 100000000000000) (l5 : i3 ≤ 100000000000000) (l6 : j3 ≤ 100000000000000) : Lens w g [i1 + j1, i2 + j2, i3 + j3] := by
  intro i hi
  match i, hi with
  | 0, _ => exact ⟨_, _, _, _, _, _, h.at 1 rfl, h.at 2 rfl, rfl, l1, l2⟩
  | 1, _ => exact ⟨_, _, _, _, _, _, h.at 4 rfl, h.at 5 rfl, rfl, l3, l4⟩
  | 2, _ => exact ⟨_, _, _, _, _, _, h.at 7 rfl, h.at 8 rfl, rfl, l5, l6⟩
  | k + 3, hk => exact (Nat.not_lt.2 (Nat.le_add_left _ _) hk).elim

theorem raw_of {w : World} {v1 v2 : Value} {xs ys : List Nat} (s : Bool) (h1 : Nt 0 w v1 xs) (h2 : Nt 0 w v2 ys) : RatR (max xs.length ys.length) w (.agg #[.bool s, v1, v2]) (qv s (val xs) (val ys)) :=
  ⟨s, v1, v2, xs, ys, rfl, h1, h2, rfl, Nat.le_max_left _ _, Nat.le_max_right _ _⟩

theorem wrap_add {a b : Nat} (h : a + b ≤ 9223372036854775807) : IntKind.i64.wrap ((a : Int) + (b : Int)) = ((a + b : Nat) : Int) := by
  rw [IntWalk.i64_in _ (by omega)]; omega

end Go.Proofs.YtjfaefgabaimaaaGreat
