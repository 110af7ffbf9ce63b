/- The words of the contracts: a natural as limbs of 32 bits, a slice that reads as limbs. No condition: plain definitions and lemmas on lists, numbers and worlds. A row of limbs that the call itself has made: what it holds, what a store leaves, how it reads as a natural. No condition. Contracts of nat.Is, nat.trim: what they answer of any row of limbs. Condition: at most 10^12 limbs. Contracts of slices.Clone, nat.Trim, vernierref1.Trim, nat.Of, vernierref1.Of: rows without noughts at the end, in new memory. Condition: at most 10^12 limbs. Contracts of vernierref1.Trim, nat.Of, vernierref1.Of. Condition: at most 10^12 limbs. Contracts of nat.Cmp and vernierref1.Cmp: -1, 0, 1 as the numbers stand. Condition: at most 10^12 limbs. Contract of vernierref1.Cmp: -1, 0, 1 as the numbers stand. Condition: at most 10^12 limbs. -/
import Derived.Test.YtocpmekblkfdiaaGreatDoorRows
import Derived.WalkKit
import Derived.Lib.Hide
import Derived.Laws.AppendOwnNone
import Derived.WalkSpells
import Derived.WalkLawsBesides
import Derived.Lib.SliceRun
import Derived.BigQuiet
import Derived.Deep.QuietTactic
namespace Go.Proofs.YtocpmekblkfdiaaGreatDoor
open Go.RowKit
/-- limbs, the lowest first, as a natural -/
def val : List Nat → Nat
  | [] => 0
  | x :: xs => x + 4294967296 * val xs
def limbsF : Nat → Nat → List Nat
  | 0, _ => []
  | f + 1, n => if n = 0 then [] else n % 4294967296 :: limbsF f (n / 4294967296)
/-- a natural's limbs, the lowest first, none of them nought at the end -/
def limbs (n : Nat) : List Nat := limbsF n n
theorem limbsF_more : ∀ (f g n : Nat), n ≤ f → n ≤ g → limbsF f n = limbsF g n := by
  intro f
  induction f with
  | zero =>
    intro g n hf hg
    have : n = 0 := by omega
    subst this
    cases g <;> simp [limbsF]
  | succ f ih =>
    intro g n hf hg
    cases g with
    | zero =>
      have : n = 0 := by omega
      subst this
      simp [limbsF]
    | succ g =>
      simp only [limbsF]
      split
      · rfl
      · rw [ih g (n / 4294967296) (by omega) (by omega)]
theorem limbs_zero : limbs 0 = [] := rfl
theorem limbs_pos {n : Nat} (h : 0 < n) : limbs n = n % 4294967296 :: limbs (n / 4294967296) := by
  unfold limbs
  cases n with
  | zero => omega
  | succ n =>
    simp only [limbsF]
    rw [if_neg (by omega), limbsF_more n ((n + 1) / 4294967296) _ (by omega) (by omega)]
theorem limbs_induct {p : Nat → Prop} (h0 : p 0) (h : ∀ n, 0 < n → p (n / 4294967296) → p n) (n : Nat) : p n := by
  induction n using Nat.strongRecOn with
  | _ n ih =>
    by_cases hn : n = 0
    · subst hn; exact h0
    · exact h n (by omega) (ih _ (by omega))
theorem val_limbs (n : Nat) : val (limbs n) = n := by
  induction n using limbs_induct with
  | h0 => rfl
  | h n hn ih => rw [limbs_pos hn]; simp only [val, ih]; omega
theorem limbs_lt (n : Nat) : ∀ x ∈ limbs n, x < 4294967296 := by
  induction n using limbs_induct with
  | h0 => simp [limbs_zero]
  | h n hn ih =>
    rw [limbs_pos hn]
    intro x hx
    rcases List.mem_cons.1 hx with rfl | hx
    · omega
    · exact ih x hx
theorem limbs_nil {n : Nat} : limbs n = [] ↔ n = 0 := by
  constructor
  · intro h
    have := val_limbs n
    rw [h] at this
    exact this.symm
  · rintro rfl; rfl
theorem limbs_len_zero {n : Nat} : (limbs n).length = 0 ↔ n = 0 := by
  rw [List.length_eq_zero_iff, limbs_nil]
theorem val_append (xs ys : List Nat) : val (xs ++ ys) = val xs + 4294967296 ^ xs.length * val ys := by
  induction xs with
  | nil => simp [val]
  | cons x xs ih =>
    simp only [List.cons_append, val, ih, List.length_cons, Nat.pow_succ, Nat.mul_add]
    rw [Nat.mul_comm (4294967296 ^ xs.length) 4294967296, Nat.mul_assoc, Nat.add_assoc]
theorem val_lt {xs : List Nat} (h : ∀ x ∈ xs, x < 4294967296) : val xs < 4294967296 ^ xs.length := by
  induction xs with
  | nil => simp [val]
  | cons x xs ih =>
    have h1 := h x (by simp)
    have h2 := ih (fun y hy => h y (by simp [hy]))
    simp only [val, List.length_cons, Nat.pow_succ]
    omega
theorem limbs_len_le {n k : Nat} (h : n < 4294967296 ^ k) : (limbs n).length ≤ k := by
  induction k generalizing n with
  | zero =>
    have : n = 0 := by simpa using h
    subst this
    simp [limbs_zero]
  | succ k ih =>
    by_cases hn : n = 0
    · subst hn; simp [limbs_zero]
    · rw [limbs_pos (by omega)]
      have := ih (n := n / 4294967296) (by rw [Nat.pow_succ] at h; exact Nat.div_lt_of_lt_mul (by rw [Nat.mul_comm]; exact h))
      simp only [List.length_cons]
      omega
theorem lt_of_limbs_len {n k : Nat} (h : (limbs n).length ≤ k) : n < 4294967296 ^ k := by
  have h1 := val_lt (limbs_lt n)
  rw [val_limbs] at h1
  exact Nat.lt_of_lt_of_le h1 (Nat.pow_le_pow_right (by omega) h)
theorem limbs_len_mono {m n : Nat} (h : m ≤ n) : (limbs m).length ≤ (limbs n).length :=
  limbs_len_le (Nat.lt_of_le_of_lt h (lt_of_limbs_len (Nat.le_refl _)))
theorem val_zero_iff {xs : List Nat} : val xs = 0 ↔ ∀ x ∈ xs, x = 0 := by
  induction xs with
  | nil => simp [val]
  | cons x xs ih =>
    simp only [val, List.mem_cons, forall_eq_or_imp]
    rw [← ih]
    omega
/-- a row of limbs whose last one is not nought is its number's limbs -/
theorem limbs_of_last : ∀ {xs : List Nat}, (∀ x ∈ xs, x < 4294967296) → (∀ h : xs ≠ [], xs.getLast h ≠ 0) → limbs (val xs) = xs
  | [], _, _ => rfl
  | [x], h, hl => by
    have hx := h x (by simp)
    have h0 : x ≠ 0 := by have := hl (by simp); simpa using this
    rw [limbs_pos (by simp only [val]; omega)]
    have e1 : val [x] = x := by simp [val]
    rw [e1, Nat.mod_eq_of_lt hx, Nat.div_eq_of_lt hx, limbs_zero]
  | x :: y :: xs, h, hl => by
    have ih := limbs_of_last (xs := y :: xs) (fun z hz => h z (List.mem_cons_of_mem _ hz)) (fun hn => by have := hl (by simp); simpa [List.getLast_cons hn] using this)
    have hx := h x (by simp)
    have hpos : 0 < val (y :: xs) := by
      rcases Nat.eq_zero_or_pos (val (y :: xs)) with h0 | h0
      · rw [h0, limbs_zero] at ih; cases ih
      · exact h0
    have e : val (x :: y :: xs) = x + 4294967296 * val (y :: xs) := rfl
    rw [limbs_pos (by omega), e]
    have e1 : (x + 4294967296 * val (y :: xs)) % 4294967296 = x := by omega
    have e2 : (x + 4294967296 * val (y :: xs)) / 4294967296 = val (y :: xs) := by omega
    rw [e1, e2, ih]
theorem take_limbs {xs : List Nat} {k : Nat} (hk : k ≤ xs.length) (hx : ∀ x ∈ xs, x < 4294967296) (hv : val (xs.take k) = val xs)
    (hl : k = 0 ∨ xs.getD (k - 1) 0 ≠ 0) : xs.take k = limbs (val xs) := by
  rw [← hv]
  refine (limbs_of_last (fun x h => hx x (List.mem_of_mem_take h)) fun hn => ?_).symm
  have hk0 : k ≠ 0 := by rintro rfl; simp at hn
  rw [List.getLast_eq_getElem]
  rcases hl with h | h
  · exact absurd h hk0
  · have hlen : (xs.take k).length = k := by simp; omega
    simp only [hlen, List.getElem_take]
    rw [List.getD_eq_getElem?_getD, List.getElem?_eq_getElem (by omega)] at h
    simpa using h
theorem val_take_last {xs : List Nat} {k : Nat} (hk : k < xs.length) : val (xs.take (k + 1)) = val (xs.take k) + 4294967296 ^ k * xs.getD k 0 := by
  rw [List.take_succ_eq_append_getElem hk, val_append]
  have : (xs.take k).length = k := by simp; omega
  rw [this]
  simp [val, List.getD_eq_getElem?_getD, List.getElem?_eq_getElem hk]
theorem val_take_zero {xs : List Nat} {k : Nat} (hk : k < xs.length) (h : xs.getD k 0 = 0) (hv : val (xs.take (k + 1)) = val xs) : val (xs.take k) = val xs := by
  rw [val_take_last hk, h] at hv
  simpa using hv
theorem getD_lt {xs : List Nat} (h : ∀ x ∈ xs, x < 4294967296) (k : Nat) : xs.getD k 0 < 4294967296 := by
  rw [List.getD_eq_getElem?_getD]
  by_cases hk : k < xs.length
  · rw [List.getElem?_eq_getElem hk]; exact h _ (List.getElem_mem hk)
  · rw [List.getElem?_eq_none (by omega)]; simp
/-- the slice value v reads as the limbs xs; it lies in blocks from base on -/
def Nt (base : Nat) (w : World) (v : Value) (xs : List Nat) : Prop :=
  ∃ (ao : Option Addr) (cap : Nat), v = .slice ao xs.length cap ∧ xs.length ≤ cap ∧ (∀ x ∈ xs, x < 4294967296) ∧
    ((∀ ad, ao = some ad → base ≤ ad.block) ∧ (ao = none → cap = 0)) ∧
    (0 < xs.length → ∃ b off, ao = some ⟨b, off, none⟩ ∧ ∀ i, i < xs.length → w.cell? ⟨b, off + i, none⟩ = some (.int .u32 ((xs.getD i 0 : Nat) : Int)))
theorem Nt.lt {base : Nat} {w : World} {v : Value} {xs : List Nat} (h : Nt base w v xs) : ∀ x ∈ xs, x < 4294967296 := by
  obtain ⟨_, _, _, _, h, _⟩ := h
  exact h
theorem Nt.mono {base base' : Nat} {w : World} {v : Value} {xs : List Nat} (h : Nt base w v xs) (hb : base' ≤ base) : Nt base' w v xs := by
  obtain ⟨ao, cap, h1, h2, h3, h4, h5⟩ := h
  exact ⟨ao, cap, h1, h2, h3, ⟨fun ad e => Nat.le_trans hb (h4.1 ad e), h4.2⟩, h5⟩
theorem Nt.below {base K : Nat} {w w' : World} {v : Value} {xs : List Nat} (h : Nt base w v xs) (hb : Below K w w') (hK : w.heap.size ≤ K) : Nt base w' v xs := by
  obtain ⟨ao, cap, h1, h2, h3, h4, h5⟩ := h
  refine ⟨ao, cap, h1, h2, h3, h4, fun hp => ?_⟩
  obtain ⟨b, off, e, hc⟩ := h5 hp
  refine ⟨b, off, e, fun i hi => ?_⟩
  have hci := hc i hi
  have hlt := World.block_lt_of_cell? w _ hci
  rw [hb.cell (Nat.lt_of_lt_of_le hlt hK)]
  exact hci
theorem Nt.nil (base : Nat) (w : World) : Nt base w (.slice none 0 0) [] :=
  ⟨none, 0, rfl, Nat.le_refl _, by simp, ⟨by simp, fun _ => rfl⟩, by simp⟩
/-- the two forms of such a slice -/
theorem Nt.form {base : Nat} {w : World} {v : Value} {xs : List Nat} (h : Nt base w v xs) :
    (xs = [] ∧ ∃ ao cap, v = .slice ao 0 cap) ∨
    (0 < xs.length ∧ ∃ b off cap, v = .slice (some ⟨b, off, none⟩) xs.length cap ∧ xs.length ≤ cap ∧ base ≤ b ∧
      ∀ i, i < xs.length → w.cell? ⟨b, off + i, none⟩ = some (.int .u32 ((xs.getD i 0 : Nat) : Int))) := by
  obtain ⟨ao, cap, h1, h2, h3, h4, h5⟩ := h
  by_cases h0 : xs = []
  · subst h0
    exact .inl ⟨rfl, ao, cap, h1⟩
  · have hp : 0 < xs.length := List.length_pos_iff.2 h0
    obtain ⟨b, off, e, hc⟩ := h5 hp
    subst e
    exact .inr ⟨hp, b, off, cap, h1, h2, h4.1 _ rfl, hc⟩
theorem Nt.open {base : Nat} {w : World} {v : Value} {xs : List Nat} (h : Nt base w v xs) : ∃ ao cap, v = .slice ao xs.length cap ∧ xs.length ≤ cap := by
  obtain ⟨ao, cap, e, hc, _⟩ := h
  exact ⟨ao, cap, e, hc⟩
theorem bthen {w w1 w2 : World} (h : Below w.heap.size w w1) (k : Below w1.heap.size w1 w2) : Below w.heap.size w w2 := h.trans (k.mono h.size)
/-- What a function answers that hands back a natural in new memory and turns nothing that was there. -/
def RetNat (n : Nat) (w : World) (e : Ending) (w' : World) : Prop :=
  ∃ v, e = .returned v ∧ Nt w.heap.size w' v (limbs n) ∧ Below w.heap.size w w'
end Go.Proofs.YtocpmekblkfdiaaGreatDoor
namespace Go.Proofs.YtocpmekblkfdiaaGreatDoor
open Go.RowKit
/-- limbs as cells -/
def u32s (zs : List Nat) : List Value := zs.map fun (x : Nat) => Value.int .u32 (x : Int)
/-- block g is a row of the limbs zs, not frozen (E: the element type's number) -/
def RowIs (E : Nat) (w : World) (g : Nat) (zs : List Nat) : Prop := w.heap[g]? = some (.cells (u32s zs).toArray E (0, 0))
theorem u32s_get {zs : List Nat} {i : Nat} (h : i < zs.length) : (u32s zs)[i]? = some (.int .u32 ((zs.getD i 0 : Nat) : Int)) := by
  unfold u32s
  rw [List.getElem?_map, List.getElem?_eq_getElem h, List.getD_eq_getElem?_getD, List.getElem?_eq_getElem h]
  rfl
theorem RowIs.lt {E : Nat} {w : World} {g : Nat} {zs : List Nat} (h : RowIs E w g zs) : g < w.heap.size := (Array.getElem?_eq_some_iff.1 h).1
theorem RowIs.cell {E : Nat} {w : World} {g : Nat} {zs : List Nat} (h : RowIs E w g zs) {i : Nat} (hi : i < zs.length) :
    w.cell? ⟨g, i, none⟩ = some (.int .u32 ((zs.getD i 0 : Nat) : Int)) := by
  rw [cell_of_row w g i _ E (0, 0) h]
  simpa using u32s_get hi
theorem RowIs.frozen {E : Nat} {w : World} {g : Nat} {zs : List Nat} (h : RowIs E w g zs) (i : Nat) : w.frozen? ⟨g, i, none⟩ = false :=
  frozen_of_row w g i _ E h
theorem u32s_set (zs : List Nat) (i x : Nat) : (u32s zs).set i (.int .u32 (x : Int)) = u32s (zs.set i x) := by
  unfold u32s
  rw [List.map_set]
theorem RowIs.store {E : Nat} {w : World} {g : Nat} {zs : List Nat} (h : RowIs E w g zs) (i : Nat) (x : Nat) :
    RowIs E (w.setCell ⟨g, i, none⟩ (.int .u32 (x : Int))) g (zs.set i x) := by
  unfold RowIs at *
  rw [heap_setCell_same w g i _ E _ h, ← u32s_set]
  simp
theorem RowIs.storeI {E : Nat} {w : World} {g : Nat} {zs : List Nat} (h : RowIs E w g zs) (i x : Nat) (v : Int) (hv : v = (x : Int)) :
    RowIs E (w.setCell ⟨g, i, none⟩ (.int .u32 v)) g (zs.set i x) := by subst hv; exact h.store i x
theorem int_eq {k : IntKind} {a b : Int} (h : a = b) : Value.int k a = Value.int k b := by rw [h]
theorem RowIs.below {E K : Nat} {w w' : World} {g : Nat} {zs : List Nat} (h : RowIs E w g zs) (hb : Below K w w') (hK : g < K) : RowIs E w' g zs := by
  unfold RowIs at *
  rw [hb.block g hK]
  exact h
theorem RowIs.of_make {E n base g : Nat} {w : World} {z : Value} (hz : z.cells = #[.int .u32 0])
    (h : w.ownsRow base E 1 (.slice (some ⟨g, 0, none⟩) n n) n (madeCells z.cells (n * 1)).toList) : RowIs E w g (List.replicate n 0) := by
  rcases h.2 with ⟨h', _⟩ | ⟨g', cap, cur, h', hb, hg, hnc, hcm, hcs, htake⟩
  · simp at h'
  · simp only [Value.slice.injEq, Option.some.injEq, Addr.mk.injEq, and_true, true_and] at h'
    obtain ⟨rfl, rfl⟩ := h'
    unfold RowIs
    rw [hg]
    rw [hz, Nat.mul_one, toList_madeCells_one, List.take_of_length_le (by simp [hcs])] at htake
    have : cur = (List.replicate n (Value.int .u32 0)).toArray := by rw [← htake]
    rw [this]
    simp [u32s]
theorem RowIs.nt {E n cap : Nat} {w : World} {g : Nat} {zs : List Nat} (h : RowIs E w g zs) (hn : n = zs.length) (hc : n ≤ cap) (hl : ∀ x ∈ zs, x < 4294967296) :
    Nt g w (.slice (some ⟨g, 0, none⟩) n cap) zs := by
  subst hn
  refine ⟨_, cap, rfl, hc, hl, ⟨fun ad e => ?_, fun e => by cases e⟩, fun _ => ⟨g, 0, rfl, fun i hi => ?_⟩⟩
  · simp at e; subst e; exact Nat.le_refl _
  · rw [Nat.zero_add]; exact h.cell hi
/-- a natural's limbs stand at a row of limbs' head -/
theorem limbs_prefix : ∀ {xs : List Nat}, (∀ x ∈ xs, x < 4294967296) → xs.take (limbs (val xs)).length = limbs (val xs)
  | [], _ => rfl
  | x :: xs, h => by
    have ih := limbs_prefix (xs := xs) (fun y hy => h y (List.mem_cons_of_mem _ hy))
    have hx := h x (by simp)
    have e : val (x :: xs) = x + 4294967296 * val xs := rfl
    by_cases h0 : val (x :: xs) = 0
    · rw [h0, limbs_zero]; rfl
    · rw [limbs_pos (by omega), e]
      have e1 : (x + 4294967296 * val xs) % 4294967296 = x := by omega
      have e2 : (x + 4294967296 * val xs) / 4294967296 = val xs := by omega
      rw [e1, e2]
      simp [ih]
theorem limbs_len_val {xs : List Nat} (h : ∀ x ∈ xs, x < 4294967296) : (limbs (val xs)).length ≤ xs.length := by
  have := congrArg List.length (limbs_prefix h)
  simp at this
  omega
theorem Nt.trim {base : Nat} {w : World} {ao : Option Addr} {n cap : Nat} {xs : List Nat} (h : Nt base w (.slice ao n cap) xs) :
    Nt base w (.slice ao (limbs (val xs)).length cap) (limbs (val xs)) := by
  have hl := h.lt
  obtain ⟨ao', cap', h1, h2, h3, h4, h5⟩ := h
  simp only [Value.slice.injEq] at h1
  obtain ⟨rfl, rfl, rfl⟩ := h1
  have hle := limbs_len_val hl
  refine ⟨ao, cap, rfl, by omega, limbs_lt _, h4, fun hp => ?_⟩
  obtain ⟨b, off, e, hc⟩ := h5 (by omega)
  refine ⟨b, off, e, fun i hi => ?_⟩
  rw [hc i (by omega)]
  have : (limbs (val xs)).getD i 0 = xs.getD i 0 := by
    rw [← limbs_prefix hl]
    simp only [List.getD_eq_getElem?_getD]
    rw [List.getElem?_take_of_lt hi]
  rw [this]
theorem Nt.trimS {base S : Nat} {w : World} {ao : Option Addr} {n cap : Nat} {xs : List Nat} (h : Nt base w (.slice ao n cap) xs) (hS : val xs = S) :
    Nt base w (.slice ao (limbs S).length cap) (limbs S) := by
  subst hS
  exact h.trim
theorem getD_of_len {xs : List Nat} {i : Nat} (h : xs.length ≤ i) : xs.getD i 0 = 0 := by
  rw [List.getD_eq_getElem?_getD, List.getElem?_eq_none h]; rfl
theorem val_set {zs : List Nat} {k x : Nat} (hk : k < zs.length) (h : zs.getD k 0 = 0) : val (zs.set k x) = val zs + 4294967296 ^ k * x := by
  induction zs generalizing k with
  | nil => simp at hk
  | cons z zs ih =>
    cases k with
    | zero =>
      have : z = 0 := by simpa using h
      subst this
      simp [val]; omega
    | succ k =>
      simp only [List.set_cons_succ, val]
      rw [ih (by simpa using hk) (by simpa using h), Nat.pow_succ, Nat.mul_add]
      rw [Nat.mul_comm (4294967296 ^ k) 4294967296, Nat.mul_assoc]
      omega
theorem val_set_at {zs : List Nat} {k x : Nat} (hk : k < zs.length) : val (zs.set k x) + 4294967296 ^ k * zs.getD k 0 = val zs + 4294967296 ^ k * x := by
  induction zs generalizing k with
  | nil => simp at hk
  | cons z zs ih =>
    cases k with
    | zero => simp [val]; omega
    | succ k =>
      have := ih (k := k) (by simpa using hk)
      simp only [List.set_cons_succ, val, List.getD_cons_succ, Nat.pow_succ]
      have e1 : 4294967296 ^ k * 4294967296 * zs.getD k 0 = 4294967296 * (4294967296 ^ k * zs.getD k 0) := by rw [Nat.mul_comm (4294967296 ^ k) 4294967296, Nat.mul_assoc]
      have e2 : 4294967296 ^ k * 4294967296 * x = 4294967296 * (4294967296 ^ k * x) := by rw [Nat.mul_comm (4294967296 ^ k) 4294967296, Nat.mul_assoc]
      rw [e1, e2]
      omega
theorem getD_replicate (n j : Nat) : (List.replicate n 0).getD j 0 = 0 := by
  rw [List.getD_eq_getElem?_getD]
  by_cases h : j < n
  · simp [h]
  · rw [List.getElem?_eq_none (by simpa using h)]; rfl
theorem val_take_any {xs : List Nat} (k : Nat) : val (xs.take (k + 1)) = val (xs.take k) + 4294967296 ^ k * xs.getD k 0 := by
  by_cases hk : k < xs.length
  · exact val_take_last hk
  · rw [getD_of_len (by omega), List.take_of_length_le (by omega), List.take_of_length_le (by omega)]; simp
theorem replicate_lt (n : Nat) : ∀ x ∈ List.replicate n 0, x < 4294967296 := by
  intro x hx; rw [(List.mem_replicate.1 hx).2]; omega
theorem val_replicate (n : Nat) : val (List.replicate n 0) = 0 := val_zero_iff.2 (by intro x hx; exact (List.mem_replicate.1 hx).2)
theorem getD_set_self {zs : List Nat} {k x : Nat} (hk : k < zs.length) : (zs.set k x).getD k 0 = x := by
  simp [List.getD_eq_getElem?_getD, hk]
theorem getD_set_ne {zs : List Nat} {k j x : Nat} (h : k ≠ j) : (zs.set k x).getD j 0 = zs.getD j 0 := by
  simp [List.getD_eq_getElem?_getD, List.getElem?_set_ne h]
theorem mem_set_lt {zs : List Nat} {k x : Nat} (h : ∀ y ∈ zs, y < 4294967296) (hx : x < 4294967296) : ∀ y ∈ zs.set k x, y < 4294967296 := by
  intro y hy
  rcases List.mem_or_eq_of_mem_set hy with h' | h'
  · exact h y h'
  · omega
theorem Nt.at_some {base : Nat} {w : World} {ao : Option Addr} {n cap : Nat} {xs : List Nat} (h : Nt base w (.slice ao n cap) xs) {k : Nat} (hk : k < xs.length) :
    ∃ b off, ao = some ⟨b, off, none⟩ ∧ base ≤ b ∧ b < w.heap.size ∧ ∀ i, i < xs.length → w.cell? ⟨b, off + i, none⟩ = some (.int .u32 ((xs.getD i 0 : Nat) : Int)) := by
  obtain ⟨ao', cap', h1, h2, h3, h4, h5⟩ := h
  simp only [Value.slice.injEq] at h1
  obtain ⟨rfl, rfl, rfl⟩ := h1
  obtain ⟨b, off, e, hc⟩ := h5 (by omega)
  exact ⟨b, off, e, h4.1 _ e, World.block_lt_of_cell? w _ (hc k hk), hc⟩
/-- make([]uint32, n): a row of n noughts in a new block -/
theorem wpList_make_row {P : Program} (w : World) {ops : Array Oper} {rest : List Oper} {o : Oper} {a : Act} {Q : Exit → Act → World → Prop}
    (hg : o.guard = none) (l c : Operand) (t E : Nat) (hop : o.op = Op.makeSlice t l c) (h1 : P.underlying t = some (.slice E))
    (hinfo : (P.info? E).map (fun i => (i.zero, i.size, i.bytes)) = some (some (.int .u32 0), 1, 4))
    (n : Nat) (L C : Int) (hl : a.eval l = .int .i64 L) (hc : a.eval c = .int .i64 C) (hL : L = (n : Int)) (hC : C = (n : Int)) (hn : n ≤ 70000000000000)
    (hK : ∀ w', RowIs E w' w.heap.size (List.replicate n 0) → Below w.heap.size w w' → w.heap.size < w'.heap.size →
      wpList P ops Q rest (a.put o.dst (.slice (some ⟨w.heap.size, 0, none⟩) n n)) w') : wpList P ops Q (o :: rest) a w := by
  obtain ⟨i0, hi, hz0, hz1, hz2⟩ := info_parts hinfo
  refine wpList_make_full w hg l c t hop w.heap.size E i0 (.int .u32 0) 1 h1 hi hz0 hz1 .i64 .i64 L C n hl hc hL hC ?_ ?_ (Nat.le_refl _) ?_
  · rw [hz2]; omega
  · unfold maxLen; omega
  · intro w' hown hgrow
    have hR : RowIs E w' w.heap.size (List.replicate n 0) := RowIs.of_make (by rfl) hown
    exact hK w' hR ((Below.refl _ _).grown hgrow (Nat.le_refl _) (fun k hk => by cases hk)) hR.lt
/-- an owned row reads as its limbs -/
theorem Nt.of_owns {base E n : Nat} {w : World} {v : Value} {zs : List Nat} (h : w.ownsRow base E 1 v n (u32s zs)) (hn : n = zs.length) (hl : ∀ x ∈ zs, x < 4294967296) : Nt base w v zs := by
  subst hn
  rcases h.2 with ⟨rfl, h0⟩ | ⟨g, cap, cur, rfl, hb, hg, hnc, hcm, hcs, htake⟩
  · have : zs = [] := List.eq_nil_of_length_eq_zero h0
    subst this
    exact Nt.nil _ _
  · refine ⟨_, cap, rfl, hnc, hl, ⟨fun ad e => ?_, fun e => by cases e⟩, fun _ => ⟨g, 0, rfl, fun i hi => ?_⟩⟩
    · simp at e; subst e; exact hb
    · rw [Nat.zero_add, h.cellAt i (by omega)]
      exact u32s_get hi
theorem u32s_append (xs ys : List Nat) : u32s (xs ++ ys) = u32s xs ++ u32s ys := by simp [u32s]
theorem u32s_length (xs : List Nat) : (u32s xs).length = xs.length := by simp [u32s]
theorem u32s_one (xs : List Nat) : ∀ u ∈ u32s xs, u.oneCell' = true := by
  intro u hu
  obtain ⟨x, _, rfl⟩ := List.mem_map.1 hu
  rfl
/-- append(v, src...): v nil or the call's own, src whatever -/
theorem wpList_append_row {P : Program} (w : World) {ops : Array Oper} {rest : List Oper} {o : Oper} {a : Act} {Q : Exit → Act → World → Prop}
    (hgd : o.guard = none) (s x : Operand) (t E : Nat) (ho : o.op = .call { callee := .builtin .append, args := #[s, x], argTypes := #[t, t] })
    (h1 : P.underlying t = some (.slice E)) (hinfo : (P.info? E).map (fun i => (i.zero, i.size, i.bytes)) = some (some (.int .u32 0), 1, 4))
    (base b0 n : Nat) (v src : Value) (zs xs : List Nat) (hs : a.eval s = v) (hown : w.ownsRow base E 1 v n (u32s zs)) (hx : a.eval x = src) (hsrc : Nt b0 w src xs)
    (hlen : n + xs.length ≤ 30000000000000) (hbase : base ≤ w.heap.size)
    (hK : ∀ v' w', w'.ownsRow base E 1 v' (n + xs.length) (u32s (zs ++ xs)) → w.grownBy w' v.ownBlock → wpList P ops Q rest (a.put o.dst v') w') : wpList P ops Q (o :: rest) a w := by
  obtain ⟨i0, hi, hz0, hz1, hz2⟩ := info_parts hinfo
  obtain ⟨ao, cap, rfl, hc, hl, h4, h5⟩ := hsrc
  cases ao with
  | none =>
    obtain rfl := h4.2 rfl
    have : xs = [] := List.eq_nil_of_length_eq_zero (by omega)
    subst this
    refine wpList_append_own_none hgd s x t ho base E i0 1 h1 hi v n (u32s zs) hs hown hx ?_
    have := hK v w (by simpa using hown) ⟨rfl, rfl, rfl, Nat.le_refl _, fun _ _ _ => rfl⟩
    exact this
  | some ad =>
    refine wpList_append_own (w := w) hgd s x t ho base E i0 (.int .u32 0) 1 4 h1 hi hz0 hz1 hz2 rfl (by decide) v n (u32s zs) hs hown ad xs.length cap (u32s xs) hx (by rw [u32s_length, Nat.mul_one]) ?_ (u32s_one xs) ?_ ?_ hbase ?_
    · intro j u hj
      have hjl : j < xs.length := by
        have := (List.getElem?_eq_some_iff.1 hj).1
        rwa [u32s_length] at this
      obtain ⟨b, off, e, hcell⟩ := h5 (by omega)
      simp only [Option.some.injEq] at e
      subst e
      rw [u32s_get hjl] at hj
      rw [← hj, show (⟨b, off, none⟩ : Addr).add j = ⟨b, off + j, none⟩ from by unfold Addr.add; split <;> simp_all]
      exact hcell j hjl
    · unfold maxLen; omega
    · omega
    · intro v' w' ho' hg' _
      exact hK v' w' (by rw [u32s_append]; exact ho') hg'
end Go.Proofs.YtocpmekblkfdiaaGreatDoor
namespace Go.Proofs.YtocpmekblkfdiaaGreatDoor
open Go.RowKit
def lenOf : Value → Nat | .slice _ n _ => n | _ => 0
def trB (xs : List Nat) : Bool := decide (xs.length = 0 ∨ xs.getD (xs.length - 1) 0 ≠ 0)
theorem ret_bool {a b : Bool} (h : a = b) : Ending.returned (.bool a) = .returned (.bool b) := by rw [h]
theorem ret_slice {ao : Option Addr} {n m c : Nat} (h : n = m) : Ending.returned (.slice ao n c) = .returned (.slice ao m c) := by rw [h]
theorem Nt.take {base : Nat} {w : World} {ao : Option Addr} {n cap : Nat} {xs : List Nat} (h : Nt base w (.slice ao n cap) xs) (k : Nat) (hk : k ≤ n) :
    Nt base w (.slice ao k cap) (xs.take k) := by
  obtain ⟨ao', cap', h1, h2, h3, h4, h5⟩ := h
  simp only [Value.slice.injEq] at h1
  obtain ⟨rfl, rfl, rfl⟩ := h1
  have hl : (xs.take k).length = k := by simp; omega
  refine ⟨ao, cap, by rw [hl], by omega, fun x hx => h3 x (List.mem_of_mem_take hx), h4, fun hp => ?_⟩
  obtain ⟨b, off, e, hc⟩ := h5 (by omega)
  refine ⟨b, off, e, fun i hi => ?_⟩
  rw [hc i (by omega)]
  simp only [List.getD_eq_getElem?_getD]
  rw [List.getElem?_take_of_lt (by omega)]
theorem Nt.len {base : Nat} {w : World} {ao : Option Addr} {n cap : Nat} {xs : List Nat} (h : Nt base w (.slice ao n cap) xs) : n = xs.length ∧ n ≤ cap := by
  obtain ⟨_, _, h1, h2, _⟩ := h
  simp only [Value.slice.injEq] at h1
  omega
set_option maxHeartbeats 400000 in
theorem natIs (w : World) (v : Value) (xs : List Nat) (base : Nat) (h : Nt base w v xs) (hL : xs.length ≤ 8000000000000) :
    Calls Tryz.prog 116 #[v] w fun e w' => e = .returned (.bool (trB xs)) ∧ w = w' := by
  rcases h.form with ⟨rfl, ao, cap, rfl⟩ | ⟨hp, b, off, cap, rfl, hcap, hb, hc⟩
  · go_enter Tryz.func116, Tryz.ntmps116
    go_wp2
    go_ret
    exact ⟨rfl, rfl⟩
  · have hc1 := hc (xs.length - 1) (by omega)
    clear hc
    generalize hx : xs.getD (xs.length - 1) 0 = x at *
    have H : Hid (trB xs = ((x : Int) != 0)) := by
      show trB xs = ((x : Int) != 0)
      unfold trB
      rw [hx]
      by_cases h0 : x = 0
      · subst h0
        have : ¬ xs = [] := fun e => by rw [e] at hp; simp at hp
        simp [this]
      · have : ((x : Int) != 0) = true := by simp; omega
        rw [this]; simp; omega
    have hx' := Lib.hid hx
    clear hx
    generalize hn : xs.length = n at *
    have hn' := Lib.hid hn
    clear hn
    have hz : ((n : Int) == 0) = false := by simp; omega
    go_enter Tryz.func116, Tryz.ntmps116
    go_wp2
    go_ret
    exact ⟨ret_bool H.out.symm, rfl⟩
theorem trB_true {xs : List Nat} {k : Nat} (hk : k ≤ xs.length) (h : trB (xs.take k) = true) : k = 0 ∨ xs.getD (k - 1) 0 ≠ 0 := by
  unfold trB at h
  have hl : (xs.take k).length = k := by simp; omega
  rw [hl] at h
  have h' := of_decide_eq_true h
  rcases h' with h' | h'
  · exact .inl h'
  · refine .inr ?_
    by_cases h0 : k = 0
    · subst h0; simp at h'
    · rwa [List.getD_eq_getElem?_getD, List.getElem?_take_of_lt (by omega), ← List.getD_eq_getElem?_getD] at h'
theorem trB_false {xs : List Nat} {k : Nat} (hk : k ≤ xs.length) (h : trB (xs.take k) = false) : 0 < k ∧ xs.getD (k - 1) 0 = 0 := by
  unfold trB at h
  have hl : (xs.take k).length = k := by simp; omega
  rw [hl] at h
  have h' := of_decide_eq_false h
  have h0 : 0 < k := by omega
  refine ⟨h0, ?_⟩
  have h2 : (xs.take k).getD (k - 1) 0 = 0 := by omega
  rwa [List.getD_eq_getElem?_getD, List.getElem?_take_of_lt (by omega), ← List.getD_eq_getElem?_getD] at h2
set_option maxHeartbeats 400000 in
theorem natTrim0 (w : World) (ao : Option Addr) (n cap : Nat) (xs : List Nat) (base : Nat) (h : Nt base w (.slice ao n cap) xs) (hL : n ≤ 8000000000000) :
    Calls Tryz.prog 121 #[.slice ao n cap] w fun e w' => e = .returned (.slice ao (limbs (val xs)).length cap) ∧ w = w' := by
  have hcap : n ≤ cap := h.len.2
  have hN := Lib.hid h.len.1
  have hX := Lib.hid h.lt
  go_enter Tryz.func121, Tryz.ntmps121
  go_wp2
  go_loop [0] (fun v => ∃ k : Nat, k ≤ n ∧ val (xs.take k) = val xs ∧ v = .slice ao k cap) (fun v => lenOf v)
  case atStart => exact ⟨n, Nat.le_refl _, by rw [hN.out, List.take_length], rfl⟩
  case round =>
    obtain ⟨k, hk, hv, rfl⟩ := hrel
    have hV := Lib.hid hv; clear hv
    have hk1 : (k : Int) ≤ 8000000000000 := by omega
    have hlen : (xs.take k).length ≤ 8000000000000 := by simp; omega
    cases htr : trB (xs.take k) with
    | true =>
      have hT := Lib.hid (trB_true (by have := hN.out; omega) htr)
      have hfin := Lib.hid (take_limbs (by have := hN.out; omega) hX.out hV.out hT.out)
      go_wp2_with (go_at_call 116; refine (natIs _ _ (xs.take k) base (h.take k hk) hlen).mono ?_; rintro e w' ⟨rfl, rfl⟩)
      go_ret
      exact ⟨ret_slice (by have := hfin.out; have e := congrArg List.length this; rw [← e]; have := hN.out; simp; omega), rfl⟩
    | false =>
      obtain ⟨h0, h1⟩ := trB_false (xs := xs) (k := k) (by have := hN.out; omega) htr
      have hfin := Lib.hid h1; clear h1
      go_wp2_with (go_at_call 116; refine (natIs _ _ (xs.take k) base (h.take k hk) hlen).mono ?_; rintro e w' ⟨rfl, rfl⟩)
      go_round
      case rel =>
        refine ⟨k - 1, by omega, ?_, by go_num⟩
        have := hN.out
        exact val_take_zero (by omega) hfin.out (by rw [show k - 1 + 1 = k from by omega]; exact hV.out)
      case measure => simp [lenOf]; omega
/-- nat.trim at a row whose number is known as S -/
theorem natTrim (w : World) (ao : Option Addr) (n cap : Nat) (xs : List Nat) (base S : Nat) (h : Nt base w (.slice ao n cap) xs) (hL : n ≤ 8000000000000) (hS : val xs = S) :
    Calls Tryz.prog 121 #[.slice ao n cap] w fun e w' => e = .returned (.slice ao (limbs S).length cap) ∧ w = w' := by
  subst hS
  exact natTrim0 w ao n cap xs base h hL
end Go.Proofs.YtocpmekblkfdiaaGreatDoor
namespace Go.Proofs.YtocpmekblkfdiaaGreatDoor
open Go.RowKit
theorem Tryz.infoU32 : (Tryz.prog.info? 46).map (fun i => (i.zero, i.size, i.bytes)) = some (some (.int .u32 0), 1, 4) := by kernel_rfl
/-- What a function answers that hands back the very limbs zs in new memory and turns nothing that was there. -/
def RetRow (zs : List Nat) (w : World) (e : Ending) (w' : World) : Prop :=
  ∃ v, e = .returned v ∧ Nt w.heap.size w' v zs ∧ Below w.heap.size w w'
theorem ownsEmpty (E : Nat) (w : World) : (w.alloc (.cells #[] E)).ownsRow w.heap.size E 1 (.slice (some ⟨w.heap.size, 0, none⟩) 0 0) 0 (u32s []) := by
  have := World.ownsRow_lit (base := w.heap.size) (e := E) (size := 1) w #[] 0 (Nat.le_refl _) (by unfold maxLen; omega) (by simp)
  simpa [u32s] using this
set_option maxHeartbeats 400000 in
theorem slicesClone (w : World) (v : Value) (xs : List Nat) (base : Nat) (h : Nt base w v xs) (hL : xs.length ≤ 8000000000000) :
    Calls Tryz.prog 172 #[v] w (RetRow xs w) := by
  have h' := h
  obtain ⟨ao, cap, rfl, hc, hl, h4, h5⟩ := h'
  have q := fun (w : World) (a : Option Addr) (n c : Nat) => Lib.run_eql_slice_nil (P := Tryz.prog) w 22 46 a n c 0 0 Tryz.underlying22
  have hX := Lib.hid hl
  have hx5 := Lib.hid h5
  clear h5 hl
  cases ao with
  | none =>
    obtain rfl := h4.2 rfl
    have : xs = [] := List.eq_nil_of_length_eq_zero (by omega)
    subst this
    clear h4 hx5
    go_enter Tryz.func172, Tryz.ntmps172
    go_wp2
    go_ret
    exact ⟨_, rfl, Nt.nil _ _, Below.refl _ _⟩
  | some ad =>
    clear h4 hx5
    have hb : Below w.heap.size w (w.alloc (.cells #[] 46)) := (Below.refl _ _).alloc (Nat.le_refl _) _
    have hn := h.below hb (Nat.le_refl _)
    have hown := ownsEmpty 46 w
    go_enter Tryz.func172, Tryz.ntmps172
    go_wp2_with (at_builtin; refine wpList_append_row _ rfl _ _ 22 46 rfl Tryz.underlying22 Tryz.infoU32 w.heap.size base 0 _ _ [] xs rfl hown rfl hn (by omega) (by simp) ?_; intro v' w1 ho hg)
    have hnt := Nt.of_owns ho (by simp) (by simpa using hX.out)
    rw [List.nil_append] at hnt
    have hbb := hb.grown hg (by simp) (fun k hk => by cases hk; exact Nat.le_refl _)
    clear ho hg hn hown hb
    go_wp2
    go_ret
    exact ⟨_, rfl, hnt, hbb⟩
set_option maxHeartbeats 400000 in
theorem natTrimC (w : World) (v : Value) (xs : List Nat) (base : Nat) (h : Nt base w v xs) (hL : xs.length ≤ 8000000000000) :
    Calls Tryz.prog 119 #[v] w (RetNat (val xs) w) := by
  have h' := h
  obtain ⟨ao, cap, rfl, hc, hl, h4, h5⟩ := h'
  have c1 := Lib.hid (natTrim w ao xs.length cap xs base _ h hL rfl)
  have ht := h.trim
  have hle := limbs_len_val hl
  clear h4 h5 hl h
  generalize val xs = S at *
  generalize xs.length = n at *
  go_enter Tryz.func119, Tryz.ntmps119
  go_wp2_with (first | (go_at_call 121; refine c1.out.mono ?_; rintro e w' ⟨rfl, rfl⟩) | (go_at_call 172; refine (slicesClone _ _ _ base ht (by omega)).mono ?_; rintro e w1 ⟨v1, rfl, hn1, hb1⟩))
  go_ret
  exact ⟨_, rfl, hn1, hb1⟩
end Go.Proofs.YtocpmekblkfdiaaGreatDoor
namespace Go.Proofs.YtocpmekblkfdiaaGreatDoor
open Go.RowKit
set_option maxHeartbeats 400000 in
theorem refTrim (w : World) (v : Value) (xs : List Nat) (base : Nat) (h : Nt base w v xs) (hL : xs.length ≤ 8000000000000) :
    Calls Tryz.prog 37 #[v] w (RetNat (val xs) w) := by
  have h' := h
  obtain ⟨ao, cap, rfl, hc, hl, h4, h5⟩ := h'
  have hX := Lib.hid hl
  have hN := Lib.hid (rfl : xs.length = xs.length)
  clear h4 h5 hl
  generalize hn : xs.length = n at *
  have HN := Lib.hid hn; clear hn hN
  go_enter Tryz.func37, Tryz.ntmps37
  go_wp2
  go_loop [3] (fun v => ∃ k : Nat, k ≤ n ∧ val (xs.take k) = val xs ∧ v = .int .i64 k) (fun v => (intOf v).toNat)
  case atStart => exact ⟨n, Nat.le_refl _, by rw [← HN.out, List.take_length], rfl⟩
  case round =>
    obtain ⟨k, hk, hv, rfl⟩ := hrel
    have hV := Lib.hid hv; clear hv
    have ht := h.take k hk
    by_cases h0 : k = 0
    · subst h0
      have hfin := Lib.hid (take_limbs (k := 0) (by omega) hX.out hV.out (.inl rfl))
      have hb : Below w.heap.size w (w.alloc (.cells #[] 46)) := (Below.refl _ _).alloc (Nat.le_refl _) _
      have hn := ht.below hb (Nat.le_refl _)
      have hown := ownsEmpty 46 w
      go_wp2_with (at_builtin; refine wpList_append_row _ rfl _ _ 22 46 rfl Tryz.underlying22 Tryz.infoU32 w.heap.size base 0 _ _ [] (xs.take 0) rfl hown rfl hn (by simp) (by simp) ?_; intro v' w1 ho hg)
      have hnt := Nt.of_owns ho (by simp) (by simp)
      rw [List.nil_append, hfin.out] at hnt
      have hbb := hb.grown hg (by simp) (fun k hk => by cases hk; exact Nat.le_refl _)
      clear ho hg hn hown hb
      go_wp2
      go_ret
      exact ⟨_, rfl, hnt, hbb⟩
    · obtain ⟨b, off, rfl, hb0, hbs, hcell⟩ := h.at_some (k := k - 1) (by have := HN.out; omega)
      have hd := hcell (k - 1) (by have := HN.out; omega)
      have bd := getD_lt hX.out (k - 1)
      by_cases hz : xs.getD (k - 1) 0 = 0
      · rw [hz] at hd
        have hz' := Lib.hid hz; clear hz
        clear hcell
        go_wp2
        go_round
        case rel =>
          refine ⟨k - 1, by omega, ?_, by go_num⟩
          have := HN.out
          exact val_take_zero (by omega) hz'.out (by rw [show k - 1 + 1 = k from by omega]; exact hV.out)
        case measure => simp [intOf]; omega
      · have hfin := Lib.hid (take_limbs (k := k) (by have := HN.out; omega) hX.out hV.out (.inr hz))
        generalize xs.getD (k - 1) 0 = z at *
        have hz1 : ((z : Int) == 0) = false := by simp; omega
        clear hcell
        have hb : Below w.heap.size w (w.alloc (.cells #[] 46)) := (Below.refl _ _).alloc (Nat.le_refl _) _
        have hn := ht.below hb (Nat.le_refl _)
        have hown := ownsEmpty 46 w
        have hlen : (xs.take k).length ≤ 8000000000000 := by simp; omega
        go_wp2_with (at_builtin; refine wpList_append_row _ rfl _ _ 22 46 rfl Tryz.underlying22 Tryz.infoU32 w.heap.size base 0 _ _ [] (xs.take k) rfl hown rfl hn (by omega) (by simp) ?_; intro v' w1 ho hg)
        have hnt := Nt.of_owns ho (by simp) (by simp only [List.nil_append]; exact fun x hx => hX.out x (List.mem_of_mem_take hx))
        rw [List.nil_append, hfin.out] at hnt
        have hbb := hb.grown hg (by simp) (fun k hk => by cases hk; exact Nat.le_refl _)
        clear ho hg hn hown hb
        go_wp2
        go_ret
        exact ⟨_, rfl, hnt, hbb⟩
theorem rowLit (E : Nat) (w : World) (x y : Nat) (vx vy : Int) (hx : vx = x) (hy : vy = y) : RowIs E (w.alloc (.cells #[.int .u32 vx, .int .u32 vy] E)) w.heap.size [x, y] := by
  subst hx hy
  exact heap_alloc_new w _
theorem val_two (n : Nat) : val [n % 4294967296, n / 4294967296] = n := by simp only [val]; omega
theorem rowLit_nt (E : Nat) (w : World) (n : Nat) (hn : n < 18446744073709551616) (vx vy : Int) (hx : vx = (n % 4294967296 : Nat)) (hy : vy = (n / 4294967296 : Nat)) :
    Nt w.heap.size (w.alloc (.cells #[.int .u32 vx, .int .u32 vy] E)) (.slice (some ⟨w.heap.size, 0, none⟩) 2 2) [n % 4294967296, n / 4294967296] :=
  (rowLit E w _ _ vx vy hx hy).nt (by simp) (by omega) (by intro x hx; simp at hx; omega)
set_option maxHeartbeats 400000 in
theorem natOf (w : World) (n : Nat) (hn : n < 18446744073709551616) :
    Calls Tryz.prog 64 #[.int .u64 n] w (RetNat n w) := by
  have hv := Lib.hid (val_two n)
  have hnt := fun vx vy => rowLit_nt 46 w n hn vx vy
  go_enter Tryz.func64, Tryz.ntmps64
  go_wp2_with (go_at_call 121; refine (natTrim _ _ _ _ _ _ n (hnt _ _ ?h1 ?h2) (by omega) hv.out).mono ?_)
  case h1 => omega
  case h2 => omega
  rintro e w' ⟨rfl, rfl⟩
  go_wp2
  go_ret
  exact ⟨_, rfl, (hnt _ _ (by omega) (by omega)).trimS hv.out, (Below.refl _ _).alloc (Nat.le_refl _) _⟩
set_option maxHeartbeats 400000 in
theorem refOf (w : World) (n : Nat) (hn : n < 18446744073709551616) :
    Calls Tryz.prog 14 #[.int .u64 n] w (RetNat n w) := by
  have hv := Lib.hid (val_two n)
  have hnt := fun vx vy => rowLit_nt 46 w n hn vx vy
  go_enter Tryz.func14, Tryz.ntmps14
  go_wp2_with (go_at_call 37; refine (refTrim _ _ _ _ (hnt _ _ ?h1 ?h2) (by simp)).mono ?_)
  case h1 => omega
  case h2 => omega
  rintro e w1 ⟨v1, rfl, hn1, hb1⟩
  rw [hv.out] at hn1
  go_wp2
  go_ret
  exact ⟨_, rfl, hn1.mono (by simp), (Below.refl _ _ |>.alloc (Nat.le_refl _) _).trans (hb1.mono (by simp))⟩
end Go.Proofs.YtocpmekblkfdiaaGreatDoor
namespace Go.Proofs.YtocpmekblkfdiaaGreatDoor
open Go.RowKit
def cmpI (a b : Nat) : Int := if a < b then -1 else if b < a then 1 else 0
theorem cmpI_lt {a b : Nat} (h : a < b) : cmpI a b = -1 := if_pos h
theorem cmpI_gt {a b : Nat} (h : b < a) : cmpI a b = 1 := by unfold cmpI; rw [if_neg (by omega), if_pos h]
theorem cmpI_eq {a b : Nat} (h : a = b) : cmpI a b = 0 := by unfold cmpI; rw [if_neg (by omega), if_neg (by omega)]
theorem cmpI_lt_zero {a b : Nat} : cmpI a b < 0 ↔ a < b := by
  unfold cmpI
  repeat' split
  all_goals omega
theorem cmpI_zero {a b : Nat} : cmpI a b = 0 ↔ a = b := by
  unfold cmpI
  repeat' split
  all_goals omega
theorem limbs_len_lt {m n : Nat} (h : (limbs m).length < (limbs n).length) : m < n := by
  rcases Nat.lt_or_ge m n with h' | h'
  · exact h'
  · have := limbs_len_mono h'; omega
theorem val_split (A : List Nat) (k : Nat) (hk : k ≤ A.length) : val A = val (A.take k) + 4294967296 ^ k * val (A.drop k) := by
  have h : A = A.take k ++ A.drop k := (List.take_append_drop k A).symm
  have e := val_append (A.take k) (A.drop k)
  rw [← h, List.length_take, Nat.min_eq_left hk] at e
  exact e
theorem cmp_step {A C : List Nat} {i : Nat} (hA : ∀ x ∈ A, x < 4294967296) (hi : i < A.length) (hl : A.length = C.length) (hd : A.drop (i + 1) = C.drop (i + 1)) (h : A.getD i 0 < C.getD i 0) : val A < val C := by
  rw [val_split A (i + 1) (by omega), val_split C (i + 1) (by omega), hd, val_take_last hi, val_take_last (by omega)]
  have h1 : val (A.take i) < 4294967296 ^ i := by
    have := val_lt (xs := A.take i) (fun x hx => hA x (List.mem_of_mem_take hx))
    rwa [List.length_take, Nat.min_eq_left (by omega)] at this
  have h2 : 4294967296 ^ i * (A.getD i 0 + 1) ≤ 4294967296 ^ i * C.getD i 0 := Nat.mul_le_mul_left _ h
  rw [Nat.mul_add] at h2
  omega
theorem drop_step {A C : List Nat} {i : Nat} (hi : i < A.length) (hl : A.length = C.length) (hd : A.drop (i + 1) = C.drop (i + 1)) (h : A.getD i 0 = C.getD i 0) : A.drop i = C.drop i := by
  have hi2 : i < C.length := by omega
  rw [List.drop_eq_getElem_cons hi, List.drop_eq_getElem_cons hi2, hd]
  simp only [List.getD_eq_getElem?_getD] at h
  rw [List.getElem?_eq_getElem hi, List.getElem?_eq_getElem hi2] at h
  simp at h
  rw [h]
def RetCmp (a b : Nat) (w : World) (e : Ending) (w' : World) : Prop := e = .returned (.int .i64 (cmpI a b)) ∧ Below w.heap.size w w'
theorem RetCmp.mk {a b : Nat} {w w' : World} {c : Int} (h : cmpI a b = c) (hb : Below w.heap.size w w') : RetCmp a b w (.returned (.int .i64 c)) w' := ⟨by rw [h], hb⟩
set_option maxRecDepth 100000 in
set_option maxHeartbeats 1000000 in
theorem natCmp (w : World) (v1 v2 : Value) (xs ys : List Nat) (b1 b2 : Nat) (h1 : Nt b1 w v1 xs) (h2 : Nt b2 w v2 ys) (hL1 : xs.length ≤ 8000000000000) (hL2 : ys.length ≤ 8000000000000) :
    Calls Tryz.prog 117 #[v1, v2] w (RetCmp (val xs) (val ys) w) := by
  have h1' := h1
  have h2' := h2
  obtain ⟨ao1, c1, rfl, hc1, hx1, _, _⟩ := h1'
  obtain ⟨ao2, c2, rfl, hc2, hx2, _, _⟩ := h2'
  have l1 := limbs_len_val hx1
  have l2 := limbs_len_val hx2
  have t1 := h1.trim
  have t2 := h2.trim
  have G1 := Lib.hid (natTrim w ao1 xs.length c1 xs b1 _ h1 hL1 rfl)
  have G2 := Lib.hid (natTrim w ao2 ys.length c2 ys b2 _ h2 hL2 rfl)
  clear h1 h2 hx1 hx2
  generalize val xs = m at *
  generalize val ys = n at *
  generalize xs.length = n1 at *
  generalize ys.length = n2 at *
  have V1 := Lib.hid (val_limbs m)
  have V2 := Lib.hid (val_limbs n)
  have LL := Lib.hid (@limbs_len_lt m n)
  have LG := Lib.hid (@limbs_len_lt n m)
  have X1 := Lib.hid (limbs_lt m)
  have X2 := Lib.hid (limbs_lt n)
  generalize limbs m = A at *
  generalize limbs n = C at *
  by_cases hlt : A.length < C.length
  · have hne : ((A.length : Int) != C.length) = true := by simp; omega
    have hr := Lib.hid (cmpI_lt (LL.out hlt))
    go_enter Tryz.func117, Tryz.ntmps117
    go_wp2_with (first | ((with_reducible refine G1.out.mono ?_); rintro e w1 ⟨rfl, rfl⟩) | ((with_reducible refine G2.out.mono ?_); rintro e w1 ⟨rfl, rfl⟩))
    go_ret
    exact RetCmp.mk hr.out (Below.refl _ _)
  · by_cases hgt : C.length < A.length
    · have hne : ((A.length : Int) != C.length) = true := by simp; omega
      have hr := Lib.hid (cmpI_gt (LG.out hgt))
      go_enter Tryz.func117, Tryz.ntmps117
      go_wp2_with (first | ((with_reducible refine G1.out.mono ?_); rintro e w1 ⟨rfl, rfl⟩) | ((with_reducible refine G2.out.mono ?_); rintro e w1 ⟨rfl, rfl⟩))
      go_ret
      exact RetCmp.mk hr.out (Below.refl _ _)
    · have hne : ((A.length : Int) != C.length) = false := by simp; omega
      have hle : A.length ≤ C.length := by omega
      have hge : C.length ≤ A.length := by omega
      clear hlt hgt
      go_enter Tryz.func117, Tryz.ntmps117
      go_wp2_with (first | ((with_reducible refine G1.out.mono ?_); rintro e w1 ⟨rfl, rfl⟩) | ((with_reducible refine G2.out.mono ?_); rintro e w1 ⟨rfl, rfl⟩))
      clear G1 G2
      go_loopw [5] (fun i wr => ∃ k : Nat, k ≤ A.length ∧ i = .int .i64 ((k : Int) - 1) ∧ Hid (A.drop k = C.drop k) ∧ Below w.heap.size w wr) (fun i _ => ((intOf i) + 1).toNat)
      case atStart => exact ⟨A.length, Nat.le_refl _, rfl, (by show A.drop A.length = C.drop A.length; rw [List.drop_of_length_le (Nat.le_refl _), List.drop_of_length_le (by omega)]), Below.refl _ _⟩
      case round =>
        obtain ⟨k, hk, rfl, hd, hBw⟩ := hrel
        by_cases h0 : k = 0
        · subst h0
          have he := hd.out
          rw [List.drop_zero, List.drop_zero] at he
          have hr := Lib.hid (cmpI_eq (show m = n by rw [← V1.out, ← V2.out, he]))
          clear he
          go_wp2
          go_ret
          exact RetCmp.mk hr.out hBw
        · obtain ⟨i, rfl⟩ : ∃ i, k = i + 1 := ⟨k - 1, by omega⟩
          obtain ⟨b3, o3, rfl, _, hb3, hc3⟩ := t1.at_some (k := i) (by omega)
          obtain ⟨b4, o4, rfl, _, hb4, hc4⟩ := t2.at_some (k := i) (by omega)
          have d1 : wr.cell? ⟨b3, o3 + i, none⟩ = some (.int .u32 ((A.getD i 0 : Nat) : Int)) := by rw [hBw.cell hb3]; exact hc3 i (by omega)
          have d2 : wr.cell? ⟨b4, o4 + i, none⟩ = some (.int .u32 ((C.getD i 0 : Nat) : Int)) := by rw [hBw.cell hb4]; exact hc4 i (by omega)
          have s1 := Lib.hid (cmp_step (C := C) (i := i) X1.out (by omega) (by omega) hd.out)
          have s2 := Lib.hid (cmp_step (C := A) (i := i) X2.out (by omega) (by omega) hd.out.symm)
          have s3 := Lib.hid (drop_step (i := i) (by omega) (by omega) hd.out)
          clear hc3 hc4 hd
          generalize A.getD i 0 = x at *
          generalize C.getD i 0 = y at *
          have hi1 : ((i + 1 : Nat) : Int) - 1 = (i : Int) := by omega
          rw [hi1]
          clear hi1
          by_cases hxy : x = y
          · have h3 := Lib.hid (s3.out hxy)
            have hq : ((x : Int) != y) = false := by simp; omega
            clear hxy s1 s2 s3
            go_wp2
            go_quiet (fail)
            go_wp2
            go_roundw
            case rel => exact ⟨i, by omega, rfl, h3, below_drewN hBw _⟩
            case measure => simp [intOf]
          · have hq : ((x : Int) != y) = true := by simp; omega
            by_cases hlt : x < y
            · have hr := Lib.hid (cmpI_lt (show m < n by rw [← V1.out, ← V2.out]; exact s1.out hlt))
              go_wp2
              go_quiet (fail)
              go_wp2
              go_quiet (fail)
              go_wp2
              go_ret
              exact RetCmp.mk hr.out (below_drewN (below_drewN hBw _) _)
            · have hr := Lib.hid (cmpI_gt (show n < m by rw [← V1.out, ← V2.out]; exact s2.out (by omega)))
              go_wp2
              go_quiet (fail)
              go_wp2
              go_quiet (fail)
              go_wp2
              go_ret
              exact RetCmp.mk hr.out (below_drewN (below_drewN hBw _) _)
end Go.Proofs.YtocpmekblkfdiaaGreatDoor
namespace Go.Proofs.YtocpmekblkfdiaaGreatDoor
open Go.RowKit
set_option maxRecDepth 100000 in
set_option maxHeartbeats 1000000 in
theorem refCmp (w : World) (v1 v2 : Value) (xs ys : List Nat) (b1 b2 : Nat) (h1 : Nt b1 w v1 xs) (h2 : Nt b2 w v2 ys) (hL1 : xs.length ≤ 8000000000000) (hL2 : ys.length ≤ 8000000000000) :
    Calls Tryz.prog 86 #[v1, v2] w (RetCmp (val xs) (val ys) w) := by
  have l1 := limbs_len_val h1.lt
  have l2 := limbs_len_val h2.lt
  have G1 := Lib.hid (refTrim w v1 xs b1 h1 hL1)
  have G2 := Lib.hid (fun w1 hb => refTrim w1 v2 ys b2 (h2.below (w' := w1) hb (Nat.le_refl _)) hL2)
  clear h1 h2
  generalize val xs = m at *
  generalize val ys = n at *
  generalize xs.length = n1 at *
  generalize ys.length = n2 at *
  have V1 := Lib.hid (val_limbs m)
  have V2 := Lib.hid (val_limbs n)
  have LL := Lib.hid (@limbs_len_lt m n)
  have LG := Lib.hid (@limbs_len_lt n m)
  have X1 := Lib.hid (limbs_lt m)
  have X2 := Lib.hid (limbs_lt n)
  unfold RetNat at G1 G2
  generalize limbs m = A at *
  generalize limbs n = C at *
  go_enter Tryz.func86, Tryz.ntmps86
  go_wp2_with fail
  refine G1.out.mono ?_
  rintro e w1 ⟨u1, rfl, t1, hb1⟩
  obtain ⟨ao1, c1, rfl, hc1⟩ := t1.open
  go_wp2_with fail
  refine (G2.out w1 hb1).mono ?_
  rintro e w2 ⟨u2, rfl, t2, hb2⟩
  obtain ⟨ao2, c2, rfl, hc2⟩ := t2.open
  replace t1 := t1.below hb2 (Nat.le_refl _)
  have hb := bthen hb1 hb2
  clear hb1 hb2 G1 G2
  by_cases hlt : A.length < C.length
  · have hne : ((A.length : Int) != C.length) = true := by simp; omega
    have hr := Lib.hid (cmpI_lt (LL.out hlt))
    go_wp2
    go_ret
    exact RetCmp.mk hr.out hb
  · by_cases hgt : C.length < A.length
    · have hne : ((A.length : Int) != C.length) = true := by simp; omega
      have hr := Lib.hid (cmpI_gt (LG.out hgt))
      go_wp2
      go_ret
      exact RetCmp.mk hr.out hb
    · have hne : ((A.length : Int) != C.length) = false := by simp; omega
      have hle : A.length ≤ C.length := by omega
      have hge : C.length ≤ A.length := by omega
      clear hlt hgt
      go_wp2
      go_loopw [7] (fun i wr => ∃ k : Nat, k ≤ A.length ∧ i = .int .i64 ((k : Int) - 1) ∧ Hid (A.drop k = C.drop k) ∧ Below w2.heap.size w2 wr) (fun i _ => ((intOf i) + 1).toNat)
      case atStart => exact ⟨A.length, Nat.le_refl _, rfl, (by show A.drop A.length = C.drop A.length; rw [List.drop_of_length_le (Nat.le_refl _), List.drop_of_length_le (by omega)]), Below.refl _ _⟩
      case round =>
        obtain ⟨k, hk, rfl, hd, hBw⟩ := hrel
        by_cases h0 : k = 0
        · subst h0
          have he := hd.out
          rw [List.drop_zero, List.drop_zero] at he
          have hr := Lib.hid (cmpI_eq (show m = n by rw [← V1.out, ← V2.out, he]))
          clear he
          go_wp2
          go_ret
          exact RetCmp.mk hr.out (bthen hb hBw)
        · obtain ⟨i, rfl⟩ : ∃ i, k = i + 1 := ⟨k - 1, by omega⟩
          obtain ⟨b3, o3, rfl, _, hb3, hc3⟩ := t1.at_some (k := i) (by omega)
          obtain ⟨b4, o4, rfl, _, hb4, hc4⟩ := t2.at_some (k := i) (by omega)
          have d1 : wr.cell? ⟨b3, o3 + i, none⟩ = some (.int .u32 ((A.getD i 0 : Nat) : Int)) := by rw [hBw.cell hb3]; exact hc3 i (by omega)
          have d2 : wr.cell? ⟨b4, o4 + i, none⟩ = some (.int .u32 ((C.getD i 0 : Nat) : Int)) := by rw [hBw.cell hb4]; exact hc4 i (by omega)
          have s1 := Lib.hid (cmp_step (C := C) (i := i) X1.out (by omega) (by omega) hd.out)
          have s2 := Lib.hid (cmp_step (C := A) (i := i) X2.out (by omega) (by omega) hd.out.symm)
          have s3 := Lib.hid (drop_step (i := i) (by omega) (by omega) hd.out)
          clear hc3 hc4 hd
          generalize A.getD i 0 = x at *
          generalize C.getD i 0 = y at *
          have hi1 : ((i + 1 : Nat) : Int) - 1 = (i : Int) := by omega
          rw [hi1]
          clear hi1
          by_cases hlt : x < y
          · have hr := Lib.hid (cmpI_lt (show m < n by rw [← V1.out, ← V2.out]; exact s1.out hlt))
            go_wp2
            go_quiet (fail)
            go_wp2
            go_ret
            exact RetCmp.mk hr.out (bthen hb (below_drewN hBw _))
          · by_cases hgt : y < x
            · have hr := Lib.hid (cmpI_gt (show n < m by rw [← V1.out, ← V2.out]; exact s2.out hgt))
              go_wp2
              go_quiet (fail)
              go_wp2
              go_quiet (fail)
              go_wp2
              go_ret
              exact RetCmp.mk hr.out (bthen hb (below_drewN (below_drewN hBw _) _))
            · have h3 := Lib.hid (s3.out (by omega))
              clear s1 s2 s3
              go_wp2
              go_quiet (fail)
              go_wp2
              go_quiet (fail)
              go_wp2
              go_roundw
              case rel => exact ⟨i, by omega, rfl, h3, below_drewN hBw _⟩
              case measure => simp [intOf]
end Go.Proofs.YtocpmekblkfdiaaGreatDoor
