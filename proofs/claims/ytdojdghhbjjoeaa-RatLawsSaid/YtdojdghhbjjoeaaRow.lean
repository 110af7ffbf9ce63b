/- A row of limbs that the call itself has made: what it holds, what a store leaves, how it reads as a natural. No condition. -/
import Derived.Test.YtdojdghhbjjoeaaBase
import Derived.Laws.AppendOwnNone
namespace Go.Proofs.Ytdojdghhbjjoeaa
open Go.RowKit

/-- limbs as cells -/
def u32s (zs : List Nat) : List Value := zs.map fun (x : Nat) => Value.int .u32 (x : Int)

/-- block g is a row of the limbs zs, not frozen (E: the element type's number) -/
def RowIs (E : Nat) (w : World) (g : Nat) (zs : List Nat) : Prop := w.heap[g]? = some (.cells (u32s zs).toArray E (0, 0))

theorem u32s_get {zs : List Nat} {i : Nat} (h : i < zs.length) : (u32s zs)[i]? = some (.int .u32 ((zs.getD i 0 : Nat) : Int)) := by
  unfold u32s
  rw [List.getElem?_map, List.getElem?_eq_getElem h, List.getD_eq_getElem?_getD, List.getElem?_eq_getElem h]
  rfl

theorem RowIs.lt {E : Nat} {w : World} {g : Nat} {zs : List Nat} (h : RowIs E w g zs) : g < w.heap.size := (Array.getElem?_eq_some_iff.1 h).1

theorem RowIs.cell {E : Nat} {w : World} {g : Nat} {zs : List Nat} (h : RowIs E w g zs) {i : Nat} (hi : i < zs.length) :
    w.cell? ⟨g, i, none⟩ = some (.int .u32 ((zs.getD i 0 : Nat) : Int)) := by
  rw [cell_of_row w g i _ E (0, 0) h]
  simpa using u32s_get hi

theorem RowIs.frozen {E : Nat} {w : World} {g : Nat} {zs : List Nat} (h : RowIs E w g zs) (i : Nat) : w.frozen? ⟨g, i, none⟩ = false :=
  frozen_of_row w g i _ E h

theorem u32s_set (zs : List Nat) (i x : Nat) : (u32s zs).set i (.int .u32 (x : Int)) = u32s (zs.set i x) := by
  unfold u32s
  rw [List.map_set]

theorem RowIs.store {E : Nat} {w : World} {g : Nat} {zs : List Nat} (h : RowIs E w g zs) (i : Nat) (x : Nat) :
    RowIs E (w.setCell ⟨g, i, none⟩ (.int .u32 (x : Int))) g (zs.set i x) := by
  unfold RowIs at *
  rw [heap_setCell_same w g i _ E _ h, ← u32s_set]
  simp

theorem RowIs.storeI {E : Nat} {w : World} {g : Nat} {zs : List Nat} (h : RowIs E w g zs) (i x : Nat) (v : Int) (hv : v = (x : Int)) :
    RowIs E (w.setCell ⟨g, i, none⟩ (.int .u32 v)) g (zs.set i x) := by subst hv; exact h.store i x

theorem int_eq {k : IntKind} {a b : Int} (h : a = b) : Value.int k a = Value.int k b := by rw [h]

theorem RowIs.below {E K : Nat} {w w' : World} {g : Nat} {zs : List Nat} (h : RowIs E w g zs) (hb : Below K w w') (hK : g < K) : RowIs E w' g zs := by
  unfold RowIs at *
  rw [hb.block g hK]
  exact h

theorem RowIs.of_make {E n base g : Nat} {w : World} {z : Value} (hz : z.cells = #[.int .u32 0])
    (h : w.ownsRow base E 1 (.slice (some ⟨g, 0, none⟩) n n) n (madeCells z.cells (n * 1)).toList) : RowIs E w g (List.replicate n 0) := by
  rcases h.2 with ⟨h', _⟩ | ⟨g', cap, cur, h', hb, hg, hnc, hcm, hcs, htake⟩
  · simp at h'
  · simp only [Value.slice.injEq, Option.some.injEq, Addr.mk.injEq, and_true, true_and] at h'
    obtain ⟨rfl, rfl⟩ := h'
    unfold RowIs
    rw [hg]
    rw [hz, Nat.mul_one, toList_madeCells_one, List.take_of_length_le (by simp [hcs])] at htake
    have : cur = (List.replicate n (Value.int .u32 0)).toArray := by rw [← htake]
    rw [this]
    simp [u32s]

theorem RowIs.nt {E n cap : Nat} {w : World} {g : Nat} {zs : List Nat} (h : RowIs E w g zs) (hn : n = zs.length) (hc : n ≤ cap) (hl : ∀ x ∈ zs, x < 4294967296) :
    Nt g w (.slice (some ⟨g, 0, none⟩) n cap) zs := by
  subst hn
  refine ⟨_, cap, rfl, hc, hl, ⟨fun ad e => ?_, fun e => by cases e⟩, fun _ => ⟨g, 0, rfl, fun i hi => ?_⟩⟩
  · simp at e; subst e; exact Nat.le_refl _
  · rw [Nat.zero_add]; exact h.cell hi

/-- a natural's limbs stand at a row of limbs' head -/
theorem limbs_prefix : ∀ {xs : List Nat}, (∀ x ∈ xs, x < 4294967296) → xs.take (limbs (val xs)).length = limbs (val xs)
  | [], _ => rfl
  | x :: xs, h => by
    have ih := limbs_prefix (xs := xs) (fun y hy => h y (List.mem_cons_of_mem _ hy))
    have hx := h x (by simp)
    have e : val (x :: xs) = x + 4294967296 * val xs := rfl
    by_cases h0 : val (x :: xs) = 0
    · rw [h0, limbs_zero]; rfl
    · rw [limbs_pos (by omega), e]
      have e1 : (x + 4294967296 * val xs) % 4294967296 = x := by omega
      have e2 : (x + 4294967296 * val xs) / 4294967296 = val xs := by omega
      rw [e1, e2]
      simp [ih]

theorem limbs_len_val {xs : List Nat} (h : ∀ x ∈ xs, x < 4294967296) : (limbs (val xs)).length ≤ xs.length := by
  have := congrArg List.length (limbs_prefix h)
  simp at this
  omega

theorem Nt.trim {base : Nat} {w : World} {ao : Option Addr} {n cap : Nat} {xs : List Nat} (h : Nt base w (.slice ao n cap) xs) :
    Nt base w (.slice ao (limbs (val xs)).length cap) (limbs (val xs)) := by
  have hl := h.lt
  obtain ⟨ao', cap', h1, h2, h3, h4, h5⟩ := h
  simp only [Value.slice.injEq] at h1
  obtain ⟨rfl, rfl, rfl⟩ := h1
  have hle := limbs_len_val hl
  refine ⟨ao, cap, rfl, by omega, limbs_lt _, h4, fun hp => ?_⟩
  obtain ⟨b, off, e, hc⟩ := h5 (by omega)
  refine ⟨b, off, e, fun i hi => ?_⟩
  rw [hc i (by omega)]
  have : (limbs (val xs)).getD i 0 = xs.getD i 0 := by
    rw [← limbs_prefix hl]
    simp only [List.getD_eq_getElem?_getD]
    rw [List.getElem?_take_of_lt hi]
  rw [this]

theorem Nt.trimS {base S : Nat} {w : World} {ao : Option Addr} {n cap : Nat} {xs : List Nat} (h : Nt base w (.slice ao n cap) xs) (hS : val xs = S) :
    Nt base w (.slice ao (limbs S).length cap) (limbs S) := by
  subst hS
  exact h.trim

theorem getD_of_len {xs : List Nat} {i : Nat} (h : xs.length ≤ i) : xs.getD i 0 = 0 := by
  rw [List.getD_eq_getElem?_getD, List.getElem?_eq_none h]; rfl

theorem val_set {zs : List Nat} {k x : Nat} (hk : k < zs.length) (h : zs.getD k 0 = 0) : val (zs.set k x) = val zs + 4294967296 ^ k * x := by
  induction zs generalizing k with
  | nil => simp at hk
  | cons z zs ih =>
    cases k with
    | zero =>
      have : z = 0 := by simpa using h
      subst this
      simp [val]; omega
    | succ k =>
      simp only [List.set_cons_succ, val]
      rw [ih (by simpa using hk) (by simpa using h), Nat.pow_succ, Nat.mul_add]
      rw [Nat.mul_comm (4294967296 ^ k) 4294967296, Nat.mul_assoc]
      omega

theorem val_set_at {zs : List Nat} {k x : Nat} (hk : k < zs.length) : val (zs.set k x) + 4294967296 ^ k * zs.getD k 0 = val zs + 4294967296 ^ k * x := by
  induction zs generalizing k with
  | nil => simp at hk
  | cons z zs ih =>
    cases k with
    | zero => simp [val]; omega
    | succ k =>
      have := ih (k := k) (by simpa using hk)
      simp only [List.set_cons_succ, val, List.getD_cons_succ, Nat.pow_succ]
      have e1 : 4294967296 ^ k * 4294967296 * zs.getD k 0 = 4294967296 * (4294967296 ^ k * zs.getD k 0) := by rw [Nat.mul_comm (4294967296 ^ k) 4294967296, Nat.mul_assoc]
      have e2 : 4294967296 ^ k * 4294967296 * x = 4294967296 * (4294967296 ^ k * x) := by rw [Nat.mul_comm (4294967296 ^ k) 4294967296, Nat.mul_assoc]
      rw [e1, e2]
      omega

theorem getD_replicate (n j : Nat) : (List.replicate n 0).getD j 0 = 0 := by
  rw [List.getD_eq_getElem?_getD]
  by_cases h : j < n
  · simp [h]
  · rw [List.getElem?_eq_none (by simpa using h)]; rfl

theorem val_take_any {xs : List Nat} (k : Nat) : val (xs.take (k + 1)) = val (xs.take k) + 4294967296 ^ k * xs.getD k 0 := by
  by_cases hk : k < xs.length
  · exact val_take_last hk
  · rw [getD_of_len (by omega), List.take_of_length_le (by omega), List.take_of_length_le (by omega)]; simp

theorem replicate_lt (n : Nat) : ∀ x ∈ List.replicate n 0, x < 4294967296 := by
  intro x hx; rw [(List.mem_replicate.1 hx).2]; omega

theorem val_replicate (n : Nat) : val (List.replicate n 0) = 0 := val_zero_iff.2 (by intro x hx; exact (List.mem_replicate.1 hx).2)

theorem getD_set_self {zs : List Nat} {k x : Nat} (hk : k < zs.length) : (zs.set k x).getD k 0 = x := by
  simp [List.getD_eq_getElem?_getD, hk]
theorem getD_set_ne {zs : List Nat} {k j x : Nat} (h : k ≠ j) : (zs.set k x).getD j 0 = zs.getD j 0 := by
  simp [List.getD_eq_getElem?_getD, List.getElem?_set_ne h]
theorem mem_set_lt {zs : List Nat} {k x : Nat} (h : ∀ y ∈ zs, y < 4294967296) (hx : x < 4294967296) : ∀ y ∈ zs.set k x, y < 4294967296 := by
  intro y hy
  rcases List.mem_or_eq_of_mem_set hy with h' | h'
  · exact h y h'
  · omega

theorem Nt.at_some {base : Nat} {w : World} {ao : Option Addr} {n cap : Nat} {xs : List Nat} (h : Nt base w (.slice ao n cap) xs) {k : Nat} (hk : k < xs.length) :
    ∃ b off, ao = some ⟨b, off, none⟩ ∧ base ≤ b ∧ b < w.heap.size ∧ ∀ i, i < xs.length → w.cell? ⟨b, off + i, none⟩ = some (.int .u32 ((xs.getD i 0 : Nat) : Int)) := by
  obtain ⟨ao', cap', h1, h2, h3, h4, h5⟩ := h
  simp only [Value.slice.injEq] at h1
  obtain ⟨rfl, rfl, rfl⟩ := h1
  obtain ⟨b, off, e, hc⟩ := h5 (by omega)
  exact ⟨b, off, e, h4.1 _ e, World.block_lt_of_cell? w _ (hc k hk), hc⟩

/-- make([]uint32, n): a row of n noughts in a new block -/
theorem wpList_make_row {P : Program} (w : World) {ops : Array Oper} {rest : List Oper} {o : Oper} {a : Act} {Q : Exit → Act → World → Prop}
    (hg : o.guard = none) (l c : Operand) (t E : Nat) (hop : o.op = Op.makeSlice t l c) (h1 : P.underlying t = some (.slice E))
    (hinfo : (P.info? E).map (fun i => (i.zero, i.size, i.bytes)) = some (some (.int .u32 0), 1, 4))
    (n : Nat) (L C : Int) (hl : a.eval l = .int .i64 L) (hc : a.eval c = .int .i64 C) (hL : L = (n : Int)) (hC : C = (n : Int)) (hn : n ≤ 70000000000000)
    (hK : ∀ w', RowIs E w' w.heap.size (List.replicate n 0) → Below w.heap.size w w' → w.heap.size < w'.heap.size →
      wpList P ops Q rest (a.put o.dst (.slice (some ⟨w.heap.size, 0, none⟩) n n)) w') : wpList P ops Q (o :: rest) a w := by
  obtain ⟨i0, hi, hz0, hz1, hz2⟩ := info_parts hinfo
  refine wpList_make_full w hg l c t hop w.heap.size E i0 (.int .u32 0) 1 h1 hi hz0 hz1 .i64 .i64 L C n hl hc hL hC ?_ ?_ (Nat.le_refl _) ?_
  · rw [hz2]; omega
  · unfold maxLen; omega
  · intro w' hown hgrow
    have hR : RowIs E w' w.heap.size (List.replicate n 0) := RowIs.of_make (by rfl) hown
    exact hK w' hR ((Below.refl _ _).grown hgrow (Nat.le_refl _) (fun k hk => by cases hk)) hR.lt

/-- an owned row reads as its limbs -/
theorem Nt.of_owns {base E n : Nat} {w : World} {v : Value} {zs : List Nat} (h : w.ownsRow base E 1 v n (u32s zs)) (hn : n = zs.length) (hl : ∀ x ∈ zs, x < 4294967296) : Nt base w v zs := by
  subst hn
  rcases h.2 with ⟨rfl, h0⟩ | ⟨g, cap, cur, rfl, hb, hg, hnc, hcm, hcs, htake⟩
  · have : zs = [] := List.eq_nil_of_length_eq_zero h0
    subst this
    exact Nt.nil _ _
  · refine ⟨_, cap, rfl, hnc, hl, ⟨fun ad e => ?_, fun e => by cases e⟩, fun _ => ⟨g, 0, rfl, fun i hi => ?_⟩⟩
    · simp at e; subst e; exact hb
    · rw [Nat.zero_add, h.cellAt i (by omega)]
      exact u32s_get hi

theorem u32s_append (xs ys : List Nat) : u32s (xs ++ ys) = u32s xs ++ u32s ys := by simp [u32s]
theorem u32s_length (xs : List Nat) : (u32s xs).length = xs.length := by simp [u32s]
theorem u32s_one (xs : List Nat) : ∀ u ∈ u32s xs, u.oneCell' = true := by
  intro u hu
  obtain ⟨x, _, rfl⟩ := List.mem_map.1 hu
  rfl

/-- append(v, src...): v nil or the call's own, src whatever -/
theorem wpList_append_row {P : Program} (w : World) {ops : Array Oper} {rest : List Oper} {o : Oper} {a : Act} {Q : Exit → Act → World → Prop}
    (hgd : o.guard = none) (s x : Operand) (t E : Nat) (ho : o.op = .call { callee := .builtin .append, args := #[s, x], argTypes := #[t, t] })
    (h1 : P.underlying t = some (.slice E)) (hinfo : (P.info? E).map (fun i => (i.zero, i.size, i.bytes)) = some (some (.int .u32 0), 1, 4))
    (base b0 n : Nat) (v src : Value) (zs xs : List Nat) (hs : a.eval s = v) (hown : w.ownsRow base E 1 v n (u32s zs)) (hx : a.eval x = src) (hsrc : Nt b0 w src xs)
    (hlen : n + xs.length ≤ 30000000000000) (hbase : base ≤ w.heap.size)
    (hK : ∀ v' w', w'.ownsRow base E 1 v' (n + xs.length) (u32s (zs ++ xs)) → w.grownBy w' v.ownBlock → wpList P ops Q rest (a.put o.dst v') w') : wpList P ops Q (o :: rest) a w := by
  obtain ⟨i0, hi, hz0, hz1, hz2⟩ := info_parts hinfo
  obtain ⟨ao, cap, rfl, hc, hl, h4, h5⟩ := hsrc
  cases ao with
  | none =>
    obtain rfl := h4.2 rfl
    have : xs = [] := List.eq_nil_of_length_eq_zero (by omega)
    subst this
    refine wpList_append_own_none hgd s x t ho base E i0 1 h1 hi v n (u32s zs) hs hown hx ?_
    have := hK v w (by simpa using hown) ⟨rfl, rfl, rfl, Nat.le_refl _, fun _ _ _ => rfl⟩
    exact this
  | some ad =>
    refine wpList_append_own (w := w) hgd s x t ho base E i0 (.int .u32 0) 1 4 h1 hi hz0 hz1 hz2 rfl (by decide) v n (u32s zs) hs hown ad xs.length cap (u32s xs) hx (by rw [u32s_length, Nat.mul_one]) ?_ (u32s_one xs) ?_ ?_ hbase ?_
    · intro j u hj
      have hjl : j < xs.length := by
        have := (List.getElem?_eq_some_iff.1 hj).1
        rwa [u32s_length] at this
      obtain ⟨b, off, e, hcell⟩ := h5 (by omega)
      simp only [Option.some.injEq] at e
      subst e
      rw [u32s_get hjl] at hj
      rw [← hj, show (⟨b, off, none⟩ : Addr).add j = ⟨b, off + j, none⟩ from by unfold Addr.add; split <;> simp_all]
      exact hcell j hjl
    · unfold maxLen; omega
    · omega
    · intro v' w' ho' hg' _
      exact hK v' w' (by rw [u32s_append]; exact ho') hg'

end Go.Proofs.Ytdojdghhbjjoeaa
