/- Contract of vernierlaw2.one. Conditions: at most 8*10^12 limbs. Contract of vernierlaw2.known. No condition. Contract of vernierlaw2.big. Conditions: rows shorter than 10^14. The arguments of a law over rationals, opened and shut. No condition. A row of rationals laid for a call of 'big'; words that the laws' walks share. No condition. -/
import Derived.Test.YtocpmekblkfdiaaGreatDoorGI
import Derived.Test.YtocpmekblkfdiaaGreatDoorGD
import Derived.Lib.SmallJoins
import Derived.Deep.Slices
import Derived.ChangeArms
import Derived.Carry
import Derived.SizedLaws
namespace Go.Proofs.YtocpmekblkfdiaaGreatDoor
open Go.RowKit
end Go.Proofs.YtocpmekblkfdiaaGreatDoor
namespace Go.Proofs.YtocpmekblkfdiaaGreatDoor
open Go.RowKit
theorem limbs_small {n : Nat} (h0 : 0 < n) (h1 : n < 4294967296) : limbs n = [n] := by
  rw [limbs_pos h0, Nat.mod_eq_of_lt h1, Nat.div_eq_of_lt h1, limbs_zero]
end Go.Proofs.YtocpmekblkfdiaaGreatDoor
namespace Go.Proofs.YtocpmekblkfdiaaGreatDoor
open Go.RowKit
end Go.Proofs.YtocpmekblkfdiaaGreatDoor
namespace Go.Proofs.YtocpmekblkfdiaaGreatDoor
open Go.RowKit Go.Joins Go.ChangeShapes Go.WideShapes
theorem cells39 : Tryz.prog.cellsOf 46 = 1 := by kernel_rfl
theorem cells24 : Tryz.prog.cellsOf 24 = 3 := by kernel_rfl
/-- the number in an integer value -/
def natOfV : Value → Nat
  | .int _ z => z.toNat
  | _ => 0
/-- the datum d is a slice of n parts -/
def LenOf {H : Type} (d : DataW H) (n : Nat) : Prop := (d = .nil ∧ n = 0) ∨ ∃ es sp, d = .slice es sp ∧ es.length = n
theorem openNat {H : Type} {enc : TypeId × Value → H} {W : World} {n : Nat} {v : Value} {y : DataW H × List MemPlace}
    (h : DataW.trod enc Tryz.prog W 0 (fun _ => true) true n 22 [v] = some y) : ∃ xs, Nt 0 W v xs ∧ LenOf y.1 xs.length := by
  rcases Deep.open_slice1 Tryz.underlying22 cells39 h with ⟨hcs, hx⟩ | ⟨a, len, cap, m, k, V, D, Pl, hcs, hb, hl, hm, hmm, hx, hV⟩
  · simp at hcs
    subst hcs hx
    exact ⟨[], Nt.nil _ _, .inl ⟨rfl, rfl⟩⟩
  · simp at hcs
    subst hcs hx
    simp only [if_true] at hmm
    subst hmm
    obtain ⟨ab, ao, asp⟩ := a
    have hz : ∀ i, i < m → V i = .int .u32 ((natOfV (V i) : Nat) : Int) ∧ natOfV (V i) < 4294967296 := by
      intro i hi
      obtain ⟨z, e, _, hw⟩ := DataW.trod_int Tryz.underlying46 (hV i hi).2
      simp at e
      simp [Lit.wf, IntKind.min, IntKind.max, IntKind.signed, IntKind.bits] at hw
      rw [e]
      have hn : natOfV (.int .u32 z) = z.toNat := rfl
      rw [hn]
      exact ⟨by congr 1; omega, by omega⟩
    have hlen : ((List.range len).map fun i => natOfV (V i)).length = len := by simp
    refine ⟨(List.range len).map fun i => natOfV (V i), ⟨_, m, by rw [hlen], by rw [hlen]; exact hl, ?_, ⟨fun ad e => Nat.zero_le _, fun e => by cases e⟩, ?_⟩, .inr ⟨_, _, rfl, by simp⟩⟩
    · intro x hx
      obtain ⟨i, hi, rfl⟩ := List.mem_map.1 hx
      simp at hi
      exact (hz i (by omega)).2
    · intro hp
      rw [hlen] at hp
      have hspot : asp = none := by simpa [Addr.add] using World.cell?_spot (hV 0 (by omega)).1
      subst hspot
      refine ⟨ab, ao, rfl, fun i hi => ?_⟩
      rw [hlen] at hi
      have h1 := (hV i (by omega)).1
      rw [(hz i (by omega)).1] at h1
      have e : ((List.range len).map fun i => natOfV (V i)).getD i 0 = natOfV (V i) := by simp [List.getD, hi]
      rw [e]
      rwa [WideShapes.add_plain] at h1
set_option maxRecDepth 100000 in
theorem openRat {H : Type} {enc : TypeId × Value → H} {W : World} {base : Nat} {v : Value} {d : DataW H} {p : List MemPlace}
    (hv : Value.okWide Tryz.prog W .any base 24 v) (h : DataW.Trod enc Tryz.prog W 0 (fun _ => true) true 24 v d p) :
    ∃ s v1 v2 xs ys d1 d2, v = .agg #[.bool s, v1, v2] ∧ d = .agg [.lit (.bool s), d1, d2] ∧ Nt 0 W v1 xs ∧ Nt 0 W v2 ys ∧ LenOf d1 xs.length ∧ LenOf d2 ys.length := by
  obtain ⟨c0, c1, c2, y0, y1, y2, m, rfl, rfl, rfl, hy0, hy1, hy2⟩ := open_agg3 Tryz.underlying24 (by kernel_rfl) cells24 hv h
  obtain ⟨s, e0, rfl⟩ := DataW.trod_bool Tryz.underlying4 hy0
  simp at e0
  subst e0
  obtain ⟨xs, n1, l1⟩ := openNat hy1
  obtain ⟨ys, n2, l2⟩ := openNat hy2
  exact ⟨s, c1, c2, xs, ys, _, _, rfl, rfl, n1, n2, l1, l2⟩
theorem bytes39 : Tryz.prog.bytesOf 46 = 4 := by kernel_rfl
theorem LenOf.weight {H : Type} {d : DataW H} {n : Nat} (h : LenOf d n) {ws : List Nat} (hs : ∀ k ∈ DataW.weights Tryz.prog 22 d, k ∈ ws) (hsz : ws.all (· ≤ reachBytes) = true) : n ≤ 100000000000000 := by
  rcases h with ⟨_, rfl⟩ | ⟨es, sp, rfl, rfl⟩
  · exact Nat.zero_le _
  · have h1 : (es.length + sp.length) * 4 ∈ ws := hs _ (by simp [DataW.weights, Tryz.underlying22, bytes39])
    have h2 : (es.length + sp.length) * 4 ≤ reachBytes := of_decide_eq_true (List.all_eq_true.1 hsz _ h1)
    have h3 : reachBytes = 140737488351232 := rfl
    omega
/-- the j-th argument, a rational, has short rows -/
theorem ratLens {H : Type} {ts : List TypeId} {ds : List (DataW H)} (hsz : (DataW.weightsEach Tryz.prog ts ds).all (· ≤ reachBytes) = true) (j : Nat) {s : Bool} {d1 d2 : DataW H} {n1 n2 : Nat}
    (ht : ts[j]? = some 24) (hd : ds[j]? = some (.agg [.lit (.bool s), d1, d2])) (h1 : LenOf d1 n1) (h2 : LenOf d2 n2) : n1 ≤ 100000000000000 ∧ n2 ≤ 100000000000000 := by
  have hm := DataW.weights_mem_each ht hd (P := Tryz.prog)
  have e : DataW.weights Tryz.prog 24 (DataW.agg [.lit (.bool s), d1, d2]) = DataW.weights Tryz.prog 22 d1 ++ DataW.weights Tryz.prog 22 d2 := by
    simp [DataW.weights, DataW.weightsEach, Tryz.underlying24]
  rw [e] at hm
  exact ⟨h1.weight (fun k hk => hm k (List.mem_append_left _ hk)) hsz, h2.weight (fun k hk => hm k (List.mem_append_right _ hk)) hsz⟩
end Go.Proofs.YtocpmekblkfdiaaGreatDoor
namespace Go.Proofs.YtocpmekblkfdiaaGreatDoor
open Go.RowKit
end Go.Proofs.YtocpmekblkfdiaaGreatDoor
