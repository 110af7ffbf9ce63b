/- Arguments that are rows of limbs: how long they are. No condition. Arguments that are rows of limbs, rows of rationals, opened. No condition. -/
import Derived.Test.YtifnpelkoklcnaaGH
import Derived.Test.YtifnpelkoklcnaaBa
import Derived.Deep.Slices
import Derived.Deep.Strs
namespace Go.Proofs.Ytifnpelkoklcnaa
open Go.RowKit

/-- the j-th argument, a row of limbs, is short -/
theorem natLen {H : Type} {ts : List TypeId} {ds : List (DataW H)} (hsz : (DataW.weightsEach Try.prog ts ds).all (· ≤ reachBytes) = true) (j : Nat) {d : DataW H} {n : Nat}
    (ht : ts[j]? = some 22) (hd : ds[j]? = some d) (h : LenOf d n) : n ≤ 100000000000000 :=
  h.weight (fun k hk => DataW.weights_mem_each ht hd (P := Try.prog) k hk) hsz

end Go.Proofs.Ytifnpelkoklcnaa

namespace Go.Proofs.Ytifnpelkoklcnaa
open Go.RowKit Go.Joins Go.ChangeShapes Go.WideShapes Go.Deep

theorem cellsBoolT : Try.prog.cellsOf 4 = 1 := by kernel_rfl
theorem cellsLimT : Try.prog.cellsOf 22 = 1 := by kernel_rfl

set_option maxRecDepth 100000 in
/-- three cells that read as a rational -/
theorem openCells {H : Type} {enc : TypeId × Value → H} {W : World} {n : Nat} {c0 c1 c2 : Value} {y : DataW H × List MemPlace}
    (h : DataW.trod enc Try.prog W 0 (fun _ => true) true n 24 [c0, c1, c2] = some y) :
    ∃ s xs ys d1 d2, c0 = .bool s ∧ y.1 = .agg [.lit (.bool s), d1, d2] ∧ Nt 0 W c1 xs ∧ Nt 0 W c2 ys ∧ LenOf d1 xs.length ∧ LenOf d2 ys.length := by
  obtain ⟨y0, y1, y2, m, hx, _, h0, h1, h2⟩ := trod_struct3 Try.underlying24 h
  simp [cellsBoolT, cellsLimT] at h0 h1 h2
  obtain ⟨s, e0, e1⟩ := DataW.trod_bool Try.underlying4 h0
  simp at e0
  obtain ⟨xs, n1, l1⟩ := openNat h1
  obtain ⟨ys, n2, l2⟩ := openNat h2
  refine ⟨s, xs, ys, y1.1, y2.1, e0, ?_, n1, n2, l1, l2⟩
  rw [hx, e1]

theorem ratW {H : Type} {d d1 d2 : DataW H} {s : Bool} {n1 n2 : Nat} {ws : List Nat} (hd : d = .agg [.lit (.bool s), d1, d2]) (hs : ∀ k ∈ DataW.weights Try.prog 24 d, k ∈ ws) (hsz : ws.all (· ≤ reachBytes) = true)
    (h1 : LenOf d1 n1) (h2 : LenOf d2 n2) : n1 ≤ 100000000000000 ∧ n2 ≤ 100000000000000 := by
  have e : DataW.weights Try.prog 24 d = DataW.weights Try.prog 22 d1 ++ DataW.weights Try.prog 22 d2 := by
    subst hd
    simp [DataW.weights, DataW.weightsEach, Try.underlying24]
  rw [e] at hs
  exact ⟨h1.weight (fun k hk => hs k (List.mem_append_left _ hk)) hsz, h2.weight (fun k hk => hs k (List.mem_append_right _ hk)) hsz⟩

theorem ball_P {w : World} {s s' : Bool} {x y x' y' : Value} {A B A' B' : List Nat} {b c b' c' : Nat} (h : Nt b w x A) (k : Nt c w y B) (h' : Nt b' w x' A') (k' : Nt c' w y' B') :
    (ballV ⟨⟨s, A, B⟩, ⟨s', A', B'⟩⟩).P noX w (.agg #[.bool s, x, y, .bool s', x', y']) :=
  ⟨[.bool s, x, y, .bool s', x', y'], rfl, .cons rfl (.cons (nt_P h) (.cons (nt_P k) (.cons rfl (.cons (nt_P h') (.cons (nt_P k') .nil)))))⟩

set_option maxRecDepth 100000 in
theorem openNatArg {H : Type} {enc : TypeId × Value → H} {W : World} {base : Nat} {v : Value} {d : DataW H} {p : List MemPlace}
    (hv : Value.okWide Try.prog W .any base 22 v) (h : DataW.Trod enc Try.prog W 0 (fun _ => true) true 22 v d p) : ∃ xs, Nt 0 W v xs ∧ LenOf d xs.length := by
  obtain ⟨a, len, cap, rfl⟩ := okWide_slice Try.underlying22 hv
  obtain ⟨fuel, hf⟩ := h
  exact openNat (y := (d, p)) (by simpa [Value.cells] using hf)

def RowOf {H : Type} (d : DataW H) (L : List RR) : Prop := ∀ ws : List Nat, (∀ k ∈ DataW.weights Try.prog 59 d, k ∈ ws) → ws.all (· ≤ reachBytes) = true →
  L.length ≤ 100000000000000 ∧ ∀ r ∈ L, r.sz ≤ 100000000000000

theorem rowsP_of {X : Nat → Nat → Prop} {w : World} {b : Nat} : ∀ (L : List RR) (off : Nat), (∀ i, i < L.length → cellsP X w b (off + i * 3) (ratCells (L.getD i rr0))) → rowsP X w b off 3 (L.map ratCells)
  | [], off, _ => by simp only [List.map_nil, rowsP]
  | r :: L, off, h => by
    simp only [List.map_cons, rowsP]
    refine ⟨rfl, by simpa using h 0 (by simp), rowsP_of L (off + 3) fun i hi => ?_⟩
    have := h (i + 1) (by simpa using hi)
    rw [show off + (i + 1) * 3 = off + 3 + i * 3 by omega] at this
    simpa using this

theorem weightsAll_mem {H : Type} {P : Program} {e : TypeId} : ∀ {l : List (DataW H)} {d : DataW H}, d ∈ l → ∀ k ∈ DataW.weights P e d, k ∈ DataW.weightsAll P e l
  | x :: l, d, h, k, hk => by
    simp only [DataW.weightsAll, List.mem_append]
    rcases List.mem_cons.1 h with rfl | h
    · exact .inl hk
    · exact .inr (weightsAll_mem h k hk)

theorem bytesRat : 2 ≤ Try.prog.bytesOf 24 := of_decide_eq_true (by kernel_rfl)

theorem cell_size {w : World} {b o : Nat} {v : Value} (h : w.cell? ⟨b, o, none⟩ = some v) : b < w.heap.size := by
  unfold World.cell? at h
  split at h
  · rename_i e; exact (Array.getElem?_eq_some_iff.1 e).1
  · cases h

instance : Inhabited RR := ⟨rr0⟩

set_option maxRecDepth 100000 in
theorem openRow {H : Type} {enc : TypeId × Value → H} {W : World} {n : Nat} {v : Value} {y : DataW H × List MemPlace}
    (h : DataW.trod enc Try.prog W 0 (fun _ => true) true n 59 [v] = some y) : ∃ L, (ratsV L).P noX W v ∧ RowOf y.1 L := by
  rcases open_slice Try.underlying59 h with ⟨hcs, hx⟩ | ⟨a, len, cap, m, k, D, Pl, hcs, hb, hl, hm, hmm, hx, hV⟩
  · simp at hcs
    subst hcs hx
    exact ⟨[], slP_nil, fun ws _ _ => ⟨by simp, by simp⟩⟩
  · simp at hcs
    subst hcs hx
    simp only [if_true] at hmm
    subst hmm
    obtain ⟨ab, ao, asp⟩ := a
    have hz : ∀ i, i < m → ∃ r : RR, (∃ c0 c1 c2, W.cell? ((Addr.mk ab ao asp).add (i * 3) |>.add 0) = some c0 ∧ W.cell? ((Addr.mk ab ao asp).add (i * 3) |>.add 1) = some c1 ∧ W.cell? ((Addr.mk ab ao asp).add (i * 3) |>.add 2) = some c2 ∧
        c0 = .bool r.s ∧ Nt 0 W c1 r.n ∧ Nt 0 W c2 r.d) ∧ ∃ d1 d2, D i = .agg [.lit (.bool r.s), d1, d2] ∧ LenOf d1 r.n.length ∧ LenOf d2 r.d.length := by
      intro i hi
      obtain ⟨cs, h1, h2⟩ := hV i hi
      rw [cells24] at h1
      obtain ⟨_, hlen, hcell⟩ := World.cells?_some h1
      match cs, hlen with
      | [c0, c1, c2], _ =>
        obtain ⟨s, xs, ys, d1, d2, e0, e1, n1, n2, l1, l2⟩ := openCells h2
        exact ⟨⟨s, xs, ys⟩, ⟨c0, c1, c2, hcell 0 (by omega), hcell 1 (by omega), hcell 2 (by omega), e0, n1, n2⟩, d1, d2, e1, l1, l2⟩
    obtain ⟨f, hf⟩ := choose_lt hz
    have hlen : ((List.range len).map f).length = len := by simp
    refine ⟨(List.range len).map f, ?_, ?_⟩
    · show (CV.sl none 3 (((List.range len).map f).map ratCells)).P noX W _
      simp only [CV.P]
      refine ⟨_, m, by rw [List.length_map, hlen], by rw [List.length_map, hlen]; exact hl, (fun e => by cases e), fun hp => ?_⟩
      rw [List.length_map, hlen] at hp
      have hspot : asp = none := by
        obtain ⟨⟨c0, _, _, h1, _⟩, _⟩ := hf 0 (by omega)
        simpa [Addr.add] using World.cell?_spot h1
      subst hspot
      refine ⟨ab, ao, rfl, rowsP_of _ _ fun i hi => ?_⟩
      rw [hlen] at hi
      obtain ⟨⟨c0, c1, c2, h1, h2, h3, rfl, n1, n2⟩, _⟩ := hf i (by omega)
      rw [add_plain, add_plain] at h1 h2 h3
      have e : ((List.range len).map f).getD i rr0 = f i := by simp [List.getD, hi]
      rw [e]
      simp only [ratCells, cellsP, and_true]
      exact ⟨⟨_, ⟨cell_size h1, fun hx => hx, h1⟩, rfl⟩, ⟨_, ⟨cell_size h2, fun hx => hx, h2⟩, nt_P n1⟩, ⟨_, ⟨cell_size h3, fun hx => hx, h3⟩, nt_P n2⟩⟩
    · intro ws hs hall
      have e : DataW.weights Try.prog 59 (DataW.slice ((List.range len).map D) ((List.range (m - len)).map fun j => D (len + j))) =
          (((List.range len).map D).length + ((List.range (m - len)).map fun j => D (len + j)).length) * Try.prog.bytesOf 24 ::
            (DataW.weightsAll Try.prog 24 ((List.range len).map D) ++ DataW.weightsAll Try.prog 24 ((List.range (m - len)).map fun j => D (len + j))) := by
        simp only [DataW.weights, Try.underlying59]
      rw [e] at hs
      have h3 : reachBytes = 140737488351232 := rfl
      constructor
      · rw [hlen]
        have h1 := hs _ (List.mem_cons_self)
        have h2 : _ ≤ reachBytes := of_decide_eq_true (List.all_eq_true.1 hall _ h1)
        have h4 := Nat.mul_le_mul_left (((List.range len).map D).length + ((List.range (m - len)).map fun j => D (len + j)).length) bytesRat
        have h5 := Nat.le_trans h4 h2
        simp only [List.length_map, List.length_range] at h5
        have h6 := hs
        omega
      · intro r hr
        obtain ⟨i, hi, rfl⟩ := List.mem_map.1 hr
        have hi := List.mem_range.1 hi
        obtain ⟨_, d1, d2, e1, l1, l2⟩ := hf i (by omega)
        obtain ⟨k1, k2⟩ := ratW e1 (fun k hk => hs k (List.mem_cons_of_mem _ (List.mem_append_left _ (weightsAll_mem (List.mem_map.2 ⟨i, List.mem_range.2 hi, rfl⟩) k hk)))) hall l1 l2
        exact RR.sz_le k1 k2

set_option maxRecDepth 100000 in
theorem openRats {H : Type} {enc : TypeId × Value → H} {W : World} {base : Nat} {v : Value} {d : DataW H} {p : List MemPlace}
    (hv : Value.okWide Try.prog W .any base 59 v) (h : DataW.Trod enc Try.prog W 0 (fun _ => true) true 59 v d p) :
    ∃ L, (ratsV L).P noX W v ∧ ∀ {ts : List TypeId} {ds : List (DataW H)}, (DataW.weightsEach Try.prog ts ds).all (· ≤ reachBytes) = true → ∀ j : Nat, ts[j]? = some 59 → ds[j]? = some d →
        L.length ≤ 100000000000000 ∧ ∀ r ∈ L, r.sz ≤ 100000000000000 := by
  obtain ⟨a, len, cap, rfl⟩ := okWide_slice Try.underlying59 hv
  obtain ⟨fuel, hf⟩ := h
  obtain ⟨L, h1, h2⟩ := openRow (y := (d, p)) (by simpa [Value.cells] using hf)
  exact ⟨L, h1, fun hall j ht hd => h2 _ (DataW.weights_mem_each ht hd (P := Try.prog)) hall⟩

end Go.Proofs.Ytifnpelkoklcnaa
