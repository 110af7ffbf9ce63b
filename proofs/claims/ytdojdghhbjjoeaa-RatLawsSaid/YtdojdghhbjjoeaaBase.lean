/- The words of the contracts: a natural as limbs of 32 bits, a slice that reads as limbs. No condition: plain definitions and lemmas on lists, numbers and worlds. -/
import Derived.WalkKit
import Derived.Lib.Hide
namespace Go.Proofs.Ytdojdghhbjjoeaa
open Go.RowKit

/-- limbs, the lowest first, as a natural -/
def val : List Nat → Nat
  | [] => 0
  | x :: xs => x + 4294967296 * val xs

def limbsF : Nat → Nat → List Nat
  | 0, _ => []
  | f + 1, n => if n = 0 then [] else n % 4294967296 :: limbsF f (n / 4294967296)

/-- a natural's limbs, the lowest first, none of them nought at the end -/
def limbs (n : Nat) : List Nat := limbsF n n

theorem limbsF_more : ∀ (f g n : Nat), n ≤ f → n ≤ g → limbsF f n = limbsF g n := by
  intro f
  induction f with
  | zero =>
    intro g n hf hg
    have : n = 0 := by omega
    subst this
    cases g <;> simp [limbsF]
  | succ f ih =>
    intro g n hf hg
    cases g with
    | zero =>
      have : n = 0 := by omega
      subst this
      simp [limbsF]
    | succ g =>
      simp only [limbsF]
      split
      · rfl
      · rw [ih g (n / 4294967296) (by omega) (by omega)]

theorem limbs_zero : limbs 0 = [] := rfl
theorem limbs_pos {n : Nat} (h : 0 < n) : limbs n = n % 4294967296 :: limbs (n / 4294967296) := by
  unfold limbs
  cases n with
  | zero => omega
  | succ n =>
    simp only [limbsF]
    rw [if_neg (by omega), limbsF_more n ((n + 1) / 4294967296) _ (by omega) (by omega)]

theorem limbs_induct {p : Nat → Prop} (h0 : p 0) (h : ∀ n, 0 < n → p (n / 4294967296) → p n) (n : Nat) : p n := by
  induction n using Nat.strongRecOn with
  | _ n ih =>
    by_cases hn : n = 0
    · subst hn; exact h0
    · exact h n (by omega) (ih _ (by omega))

theorem val_limbs (n : Nat) : val (limbs n) = n := by
  induction n using limbs_induct with
  | h0 => rfl
  | h n hn ih => rw [limbs_pos hn]; simp only [val, ih]; omega

theorem limbs_lt (n : Nat) : ∀ x ∈ limbs n, x < 4294967296 := by
  induction n using limbs_induct with
  | h0 => simp [limbs_zero]
  | h n hn ih =>
    rw [limbs_pos hn]
    intro x hx
    rcases List.mem_cons.1 hx with rfl | hx
    · omega
    · exact ih x hx

theorem limbs_nil {n : Nat} : limbs n = [] ↔ n = 0 := by
  constructor
  · intro h
    have := val_limbs n
    rw [h] at this
    exact this.symm
  · rintro rfl; rfl

theorem limbs_len_zero {n : Nat} : (limbs n).length = 0 ↔ n = 0 := by
  rw [List.length_eq_zero_iff, limbs_nil]

theorem val_append (xs ys : List Nat) : val (xs ++ ys) = val xs + 4294967296 ^ xs.length * val ys := by
  induction xs with
  | nil => simp [val]
  | cons x xs ih =>
    simp only [List.cons_append, val, ih, List.length_cons, Nat.pow_succ, Nat.mul_add]
    rw [Nat.mul_comm (4294967296 ^ xs.length) 4294967296, Nat.mul_assoc, Nat.add_assoc]

theorem val_lt {xs : List Nat} (h : ∀ x ∈ xs, x < 4294967296) : val xs < 4294967296 ^ xs.length := by
  induction xs with
  | nil => simp [val]
  | cons x xs ih =>
    have h1 := h x (by simp)
    have h2 := ih (fun y hy => h y (by simp [hy]))
    simp only [val, List.length_cons, Nat.pow_succ]
    omega

theorem limbs_len_le {n k : Nat} (h : n < 4294967296 ^ k) : (limbs n).length ≤ k := by
  induction k generalizing n with
  | zero =>
    have : n = 0 := by simpa using h
    subst this
    simp [limbs_zero]
  | succ k ih =>
    by_cases hn : n = 0
    · subst hn; simp [limbs_zero]
    · rw [limbs_pos (by omega)]
      have := ih (n := n / 4294967296) (by rw [Nat.pow_succ] at h; exact Nat.div_lt_of_lt_mul (by rw [Nat.mul_comm]; exact h))
      simp only [List.length_cons]
      omega

theorem lt_of_limbs_len {n k : Nat} (h : (limbs n).length ≤ k) : n < 4294967296 ^ k := by
  have h1 := val_lt (limbs_lt n)
  rw [val_limbs] at h1
  exact Nat.lt_of_lt_of_le h1 (Nat.pow_le_pow_right (by omega) h)

theorem limbs_len_mono {m n : Nat} (h : m ≤ n) : (limbs m).length ≤ (limbs n).length :=
  limbs_len_le (Nat.lt_of_le_of_lt h (lt_of_limbs_len (Nat.le_refl _)))

theorem val_zero_iff {xs : List Nat} : val xs = 0 ↔ ∀ x ∈ xs, x = 0 := by
  induction xs with
  | nil => simp [val]
  | cons x xs ih =>
    simp only [val, List.mem_cons, forall_eq_or_imp]
    rw [← ih]
    omega

/-- a row of limbs whose last one is not nought is its number's limbs -/
theorem limbs_of_last : ∀ {xs : List Nat}, (∀ x ∈ xs, x < 4294967296) → (∀ h : xs ≠ [], xs.getLast h ≠ 0) → limbs (val xs) = xs
  | [], _, _ => rfl
  | [x], h, hl => by
    have hx := h x (by simp)
    have h0 : x ≠ 0 := by have := hl (by simp); simpa using this
    rw [limbs_pos (by simp only [val]; omega)]
    have e1 : val [x] = x := by simp [val]
    rw [e1, Nat.mod_eq_of_lt hx, Nat.div_eq_of_lt hx, limbs_zero]
  | x :: y :: xs, h, hl => by
    have ih := limbs_of_last (xs := y :: xs) (fun z hz => h z (List.mem_cons_of_mem _ hz)) (fun hn => by have := hl (by simp); simpa [List.getLast_cons hn] using this)
    have hx := h x (by simp)
    have hpos : 0 < val (y :: xs) := by
      rcases Nat.eq_zero_or_pos (val (y :: xs)) with h0 | h0
      · rw [h0, limbs_zero] at ih; cases ih
      · exact h0
    have e : val (x :: y :: xs) = x + 4294967296 * val (y :: xs) := rfl
    rw [limbs_pos (by omega), e]
    have e1 : (x + 4294967296 * val (y :: xs)) % 4294967296 = x := by omega
    have e2 : (x + 4294967296 * val (y :: xs)) / 4294967296 = val (y :: xs) := by omega
    rw [e1, e2, ih]

theorem take_limbs {xs : List Nat} {k : Nat} (hk : k ≤ xs.length) (hx : ∀ x ∈ xs, x < 4294967296) (hv : val (xs.take k) = val xs)
    (hl : k = 0 ∨ xs.getD (k - 1) 0 ≠ 0) : xs.take k = limbs (val xs) := by
  rw [← hv]
  refine (limbs_of_last (fun x h => hx x (List.mem_of_mem_take h)) fun hn => ?_).symm
  have hk0 : k ≠ 0 := by rintro rfl; simp at hn
  rw [List.getLast_eq_getElem]
  rcases hl with h | h
  · exact absurd h hk0
  · have hlen : (xs.take k).length = k := by simp; omega
    simp only [hlen, List.getElem_take]
    rw [List.getD_eq_getElem?_getD, List.getElem?_eq_getElem (by omega)] at h
    simpa using h

theorem val_take_last {xs : List Nat} {k : Nat} (hk : k < xs.length) : val (xs.take (k + 1)) = val (xs.take k) + 4294967296 ^ k * xs.getD k 0 := by
  rw [List.take_succ_eq_append_getElem hk, val_append]
  have : (xs.take k).length = k := by simp; omega
  rw [this]
  simp [val, List.getD_eq_getElem?_getD, List.getElem?_eq_getElem hk]

theorem val_take_zero {xs : List Nat} {k : Nat} (hk : k < xs.length) (h : xs.getD k 0 = 0) (hv : val (xs.take (k + 1)) = val xs) : val (xs.take k) = val xs := by
  rw [val_take_last hk, h] at hv
  simpa using hv

theorem getD_lt {xs : List Nat} (h : ∀ x ∈ xs, x < 4294967296) (k : Nat) : xs.getD k 0 < 4294967296 := by
  rw [List.getD_eq_getElem?_getD]
  by_cases hk : k < xs.length
  · rw [List.getElem?_eq_getElem hk]; exact h _ (List.getElem_mem hk)
  · rw [List.getElem?_eq_none (by omega)]; simp

/-- the slice value v reads as the limbs xs; it lies in blocks from base on -/
def Nt (base : Nat) (w : World) (v : Value) (xs : List Nat) : Prop :=
  ∃ (ao : Option Addr) (cap : Nat), v = .slice ao xs.length cap ∧ xs.length ≤ cap ∧ (∀ x ∈ xs, x < 4294967296) ∧
    ((∀ ad, ao = some ad → base ≤ ad.block) ∧ (ao = none → cap = 0)) ∧
    (0 < xs.length → ∃ b off, ao = some ⟨b, off, none⟩ ∧ ∀ i, i < xs.length → w.cell? ⟨b, off + i, none⟩ = some (.int .u32 ((xs.getD i 0 : Nat) : Int)))

theorem Nt.lt {base : Nat} {w : World} {v : Value} {xs : List Nat} (h : Nt base w v xs) : ∀ x ∈ xs, x < 4294967296 := by
  obtain ⟨_, _, _, _, h, _⟩ := h
  exact h

theorem Nt.mono {base base' : Nat} {w : World} {v : Value} {xs : List Nat} (h : Nt base w v xs) (hb : base' ≤ base) : Nt base' w v xs := by
  obtain ⟨ao, cap, h1, h2, h3, h4, h5⟩ := h
  exact ⟨ao, cap, h1, h2, h3, ⟨fun ad e => Nat.le_trans hb (h4.1 ad e), h4.2⟩, h5⟩

theorem Nt.below {base K : Nat} {w w' : World} {v : Value} {xs : List Nat} (h : Nt base w v xs) (hb : Below K w w') (hK : w.heap.size ≤ K) : Nt base w' v xs := by
  obtain ⟨ao, cap, h1, h2, h3, h4, h5⟩ := h
  refine ⟨ao, cap, h1, h2, h3, h4, fun hp => ?_⟩
  obtain ⟨b, off, e, hc⟩ := h5 hp
  refine ⟨b, off, e, fun i hi => ?_⟩
  have hci := hc i hi
  have hlt := World.block_lt_of_cell? w _ hci
  rw [hb.cell (Nat.lt_of_lt_of_le hlt hK)]
  exact hci

theorem Nt.nil (base : Nat) (w : World) : Nt base w (.slice none 0 0) [] :=
  ⟨none, 0, rfl, Nat.le_refl _, by simp, ⟨by simp, fun _ => rfl⟩, by simp⟩

/-- the two forms of such a slice -/
theorem Nt.form {base : Nat} {w : World} {v : Value} {xs : List Nat} (h : Nt base w v xs) :
    (xs = [] ∧ ∃ ao cap, v = .slice ao 0 cap) ∨
    (0 < xs.length ∧ ∃ b off cap, v = .slice (some ⟨b, off, none⟩) xs.length cap ∧ xs.length ≤ cap ∧ base ≤ b ∧
      ∀ i, i < xs.length → w.cell? ⟨b, off + i, none⟩ = some (.int .u32 ((xs.getD i 0 : Nat) : Int))) := by
  obtain ⟨ao, cap, h1, h2, h3, h4, h5⟩ := h
  by_cases h0 : xs = []
  · subst h0
    exact .inl ⟨rfl, ao, cap, h1⟩
  · have hp : 0 < xs.length := List.length_pos_iff.2 h0
    obtain ⟨b, off, e, hc⟩ := h5 hp
    subst e
    exact .inr ⟨hp, b, off, cap, h1, h2, h4.1 _ rfl, hc⟩

theorem Nt.open {base : Nat} {w : World} {v : Value} {xs : List Nat} (h : Nt base w v xs) : ∃ ao cap, v = .slice ao xs.length cap ∧ xs.length ≤ cap := by
  obtain ⟨ao, cap, e, hc, _⟩ := h
  exact ⟨ao, cap, e, hc⟩

theorem bthen {w w1 w2 : World} (h : Below w.heap.size w w1) (k : Below w1.heap.size w1 w2) : Below w.heap.size w w2 := h.trans (k.mono h.size)

/-- What a function answers that hands back a natural in new memory and turns nothing that was there. -/
def RetNat (n : Nat) (w : World) (e : Ending) (w' : World) : Prop :=
  ∃ v, e = .returned v ∧ Nt w.heap.size w' v (limbs n) ∧ Below w.heap.size w w'

end Go.Proofs.Ytdojdghhbjjoeaa
