/- Counts as the program reckons them: sizes, and that the balls of parts meet that of the whole. Condition: the mean is at most 64. The row of vernierref6 in whole numbers: it ends, and lies between. The row of vernierref7 in whole numbers: it ends, how large it is, on which side of 0 it lies. The row of vernierref6 and its squares hold e to a power; counts as vernierref13 reckons them. Counts: the document's balls and the program's hold the same number; how wide the program's are. Condition: the mean is at most 64, at most 60 counts. -/
import Derived.Test.YtnjgliojkoeneaaGreatPa
set_option linter.unusedSimpArgs false
set_option linter.unusedVariables false
namespace Go.Proofs.YtnjgliojkoeneaaGreat.P
open GQ
/-- how likely just so many come, without e's power -/
def cs (b : Sp) (w : Nat) : Nat → Sp
  | 0 => spOne w
  | j + 1 => spTimes (spMul (cs b w j) b w) 1 (j + 1)
theorem cs_sp {b : Sp} {w : Nat} (hb : b.1 ≤ b.2) : ∀ j, (cs b w j).1 ≤ (cs b w j).2
  | 0 => by simp only [cs, spOne]; omega
  | j + 1 => by
    have ih := cs_sp (w := w) hb j
    simp only [cs]
    rw [spTimes, spMul]
    show (cs b w j).1 * b.1 / 2 ^ w * 1 / (j + 1) ≤ ((cs b w j).2 * b.2 / 2 ^ w + 1) * 1 / (j + 1) + 1
    have h1 : (cs b w j).1 * b.1 / 2 ^ w ≤ (cs b w j).2 * b.2 / 2 ^ w := Nat.div_le_div_right (Nat.mul_le_mul ih hb)
    have h2 : (cs b w j).1 * b.1 / 2 ^ w * 1 / (j + 1) ≤ ((cs b w j).2 * b.2 / 2 ^ w + 1) * 1 / (j + 1) := Nat.div_le_div_right (by omega)
    omega
theorem cs_short {b : Sp} {w : Nat} (hb : b.2 ≤ 65 * 2 ^ w) : ∀ j, (cs b w j).2 ≤ 2 ^ (w + 1 + 8 * j)
  | 0 => by
    have := pow_pos2 w
    simp only [cs, spOne, Nat.mul_zero, Nat.add_zero, Nat.pow_succ]; omega
  | j + 1 => by
    have ih := cs_short hb j
    have hw := pow_pos2 w
    simp only [cs]
    rw [spTimes, spMul]
    show ((cs b w j).2 * b.2 / 2 ^ w + 1) * 1 / (j + 1) + 1 ≤ _
    have h1 : (cs b w j).2 * b.2 / 2 ^ w ≤ (cs b w j).2 * 65 := by
      have a1 : (cs b w j).2 * b.2 ≤ (cs b w j).2 * (65 * 2 ^ w) := Nat.mul_le_mul_left _ hb
      have := Nat.div_le_div_right (c := 2 ^ w) a1
      rwa [← Nat.mul_assoc, Nat.mul_div_cancel _ hw] at this
    have h2 : ((cs b w j).2 * b.2 / 2 ^ w + 1) * 1 / (j + 1) ≤ (cs b w j).2 * b.2 / 2 ^ w + 1 := by rw [Nat.mul_one]; exact Nat.div_le_self _ _
    have h3 := pow_pos2 (w + 1 + 8 * j)
    have h4 : 2 ^ (w + 1 + 8 * (j + 1)) = 2 ^ (w + 1 + 8 * j) * 256 := by rw [show w + 1 + 8 * (j + 1) = w + 1 + 8 * j + 8 by omega, Nat.pow_add]
    omega
/-- the last one, and the first i ones -/
def csS (b : Sp) (w k : Nat) : Nat → Sp
  | 0 => cs b w k
  | i + 1 => spAdd (csS b w k i) (cs b w i)
theorem csS_sp {b : Sp} {w k : Nat} (hb : b.1 ≤ b.2) : ∀ i, (csS b w k i).1 ≤ (csS b w k i).2
  | 0 => cs_sp hb k
  | i + 1 => by
    have h1 := csS_sp (w := w) (k := k) hb i
    have h2 := cs_sp (w := w) hb i
    simp only [csS, spAdd]
    omega
theorem csS_short {b : Sp} {w k K : Nat} (hb : b.2 ≤ 65 * 2 ^ w) (hk : k ≤ K) : ∀ i, i ≤ K → (csS b w k i).2 ≤ (i + 1) * 2 ^ (w + 1 + 8 * K)
  | 0, _ => by
    have := cs_short hb k
    have h2 : 2 ^ (w + 1 + 8 * k) ≤ 2 ^ (w + 1 + 8 * K) := Nat.pow_le_pow_right (by omega) (by omega)
    simp only [csS]
    omega
  | i + 1, hi => by
    have h1 := csS_short hb hk i (by omega)
    have h3 := cs_short hb i
    have h2 : 2 ^ (w + 1 + 8 * i) ≤ 2 ^ (w + 1 + 8 * K) := Nat.pow_le_pow_right (by omega) (by omega)
    simp only [csS, spAdd]
    rw [Nat.add_mul (i + 1) 1, Nat.one_mul]
    omega
/-- the ends of what is told hold the product of the lower ends -/
theorem told_in {s e : Sp} {w p : Nat} (hp : p ≤ w) (hs : s.1 ≤ s.2) (he : e.1 ≤ e.2) : fr ((spMul s e w).1 / 2 ^ (w - p)) p ≤ fr s.1 w * fr e.1 w ∧ fr s.1 w * fr e.1 w ≤ fr ((spMul s e w).2 / 2 ^ (w - p) + 1) p := by
  have hq := pow_pos2 (w - p)
  have hw := rp2_pos w
  have e1 : fr s.1 w * fr e.1 w * rp 2 w * rp 2 w = ((s.1 * e.1 : Nat) : Rat) := by
    have a := fr_mul s.1 w
    have b := fr_mul e.1 w
    rw [Rat.natCast_mul, ← a, ← b]; grind
  have q1 := quo_le (s.1 * e.1) (pow_pos2 w)
  have q2 := lt_quo (s.2 * e.2) (pow_pos2 w)
  rw [← rp2_nat] at q1 q2
  have hse : ((s.1 * e.1 : Nat) : Rat) ≤ ((s.2 * e.2 : Nat) : Rat) := by rw [Rat.natCast_le_natCast]; exact Nat.mul_le_mul hs he
  constructor
  · refine Rat.le_trans (show _ ≤ fr (s.1 * e.1 / 2 ^ w) w from ?_) ?_
    · rw [← fr_up' hp]
      exact fr_le (Nat.div_mul_le_self _ _) w
    · refine Rat.le_of_mul_le_mul_right (c := rp 2 w) ?_ hw
      rw [fr_mul]
      refine Rat.le_of_mul_le_mul_right (c := rp 2 w) ?_ hw
      rw [e1]
      exact q1
  · refine Rat.le_trans (b := fr (s.2 * e.2 / 2 ^ w + 1) w) ?_ ?_
    · refine Rat.le_of_mul_le_mul_right (c := rp 2 w) ?_ hw
      rw [fr_mul]
      refine Rat.le_of_mul_le_mul_right (c := rp 2 w) ?_ hw
      rw [e1]
      exact Rat.le_trans hse q2
    · rw [← fr_up' hp]
      refine fr_le ?_ w
      have h1 := Nat.lt_mul_div_succ (s.2 * e.2 / 2 ^ w + 1) hq
      show s.2 * e.2 / 2 ^ w + 1 ≤ ((s.2 * e.2 / 2 ^ w + 1) / 2 ^ (w - p) + 1) * 2 ^ (w - p)
      rw [Nat.mul_comm _ (2 ^ (w - p))]
      omega
end Go.Proofs.YtnjgliojkoeneaaGreat.P
set_option linter.unusedSimpArgs false
set_option linter.unusedVariables false
namespace Go.Proofs.YtnjgliojkoeneaaGreat.P
def iless (a : Int) (n : Nat) : Int := a / ((2 ^ n : Nat) : Int)
def imore (a : Int) (n : Nat) : Int := -(-a / ((2 ^ n : Nat) : Int))
theorem pow_pos' (n : Nat) : (0 : Int) < ((2 ^ n : Nat) : Int) := by exact_mod_cast Nat.pow_pos (by omega)
theorem iless_ge {a c : Int} {n : Nat} (h : c * ((2 ^ n : Nat) : Int) ≤ a) : c ≤ iless a n := (Int.le_ediv_iff_mul_le (pow_pos' n)).2 h
theorem iless_le {a c : Int} {n : Nat} (h : a ≤ c * ((2 ^ n : Nat) : Int)) : iless a n ≤ c := by
  have h2 := Int.ediv_mul_le a (b := ((2 ^ n : Nat) : Int)) (by have := pow_pos' n; omega)
  have h3 : iless a n * ((2 ^ n : Nat) : Int) ≤ c * ((2 ^ n : Nat) : Int) := Int.le_trans h2 h
  exact Int.le_of_mul_le_mul_right h3 (pow_pos' n)
theorem imore_le {a c : Int} {n : Nat} (h : a ≤ c * ((2 ^ n : Nat) : Int)) : imore a n ≤ c := by
  have := iless_ge (a := -a) (c := -c) (n := n) (by rw [Int.neg_mul]; omega)
  unfold imore
  unfold iless at this
  omega
theorem imore_ge {a c : Int} {n : Nat} (h : c * ((2 ^ n : Nat) : Int) ≤ a) : c ≤ imore a n := by
  have := iless_le (a := -a) (c := -c) (n := n) (by rw [Int.neg_mul]; omega)
  unfold imore
  unfold iless at this
  omega
/-- the least, the greatest of four -/
def mn4 (p q r s : Int) : Int := min (min (min p q) r) s
def mx4 (p q r s : Int) : Int := max (max (max p q) r) s
def iprod (a b : Int × Int) (w : Nat) : Int × Int := (iless (mn4 (a.1 * b.1) (a.1 * b.2) (a.2 * b.1) (a.2 * b.2)) w, imore (mx4 (a.1 * b.1) (a.1 * b.2) (a.2 * b.1) (a.2 * b.2)) w)
def iby (a : Int × Int) (n : Nat) : Int × Int := (a.1 / (n : Int), -(-a.2 / (n : Int)))
def isum (a b : Int × Int) : Int × Int := (a.1 + b.1, a.2 + b.2)
def iwide (a : Int × Int) (n : Int) : Int × Int := (a.1 + -n, a.2 + n)
def imost (a : Int × Int) : Int := if (a.2.natAbs : Int) < a.1.natAbs then (a.1.natAbs : Int) else (a.2.natAbs : Int)
def iback (a : Int × Int) (n : Nat) : Int × Int := (iless a.1 n, imore a.2 n)
/-- both ends, without their signs, are at most A -/
def within (a : Int × Int) (A : Int) : Prop := (-A ≤ a.1 ∧ a.1 ≤ A) ∧ -A ≤ a.2 ∧ a.2 ≤ A
theorem imost_le {a : Int × Int} {A : Int} (h : within a A) : imost a ≤ A := by
  obtain ⟨h1, h2⟩ := h
  unfold imost
  split <;> omega
theorem imost_in {a : Int × Int} {A : Int} (h : imost a ≤ A) : within a A := by
  unfold imost at h
  unfold within
  split at h <;> omega
theorem mul_in {x y A B : Int} (h1 : -A ≤ x) (h2 : x ≤ A) (h3 : -B ≤ y) (h4 : y ≤ B) : -(A * B) ≤ x * y ∧ x * y ≤ A * B := by
  have hA : 0 ≤ A := by omega
  have hB : 0 ≤ B := by omega
  have a1 := Int.mul_nonneg (show 0 ≤ A - x by omega) (show 0 ≤ B - y by omega)
  have a2 := Int.mul_nonneg (show 0 ≤ A + x by omega) (show 0 ≤ B + y by omega)
  have a3 := Int.mul_nonneg (show 0 ≤ A - x by omega) (show 0 ≤ B + y by omega)
  have a4 := Int.mul_nonneg (show 0 ≤ A + x by omega) (show 0 ≤ B - y by omega)
  have e1 : (A - x) * (B - y) = A * B - A * y - x * B + x * y := by grind
  have e2 : (A + x) * (B + y) = A * B + A * y + x * B + x * y := by grind
  have e3 : (A - x) * (B + y) = A * B + A * y - x * B - x * y := by grind
  have e4 : (A + x) * (B - y) = A * B - A * y + x * B - x * y := by grind
  generalize (A - x) * (B - y) = t1 at *
  generalize (A + x) * (B + y) = t2 at *
  generalize (A - x) * (B + y) = t3 at *
  generalize (A + x) * (B - y) = t4 at *
  generalize A * B = u at *
  generalize A * y = u1 at *
  generalize x * B = u2 at *
  generalize x * y = u3 at *
  omega
theorem iprod_in {a b : Int × Int} {w : Nat} {A B C : Int} (ha : within a A) (hb : within b B) (h : A * B ≤ C * ((2 ^ w : Nat) : Int)) : within (iprod a b w) C := by
  obtain ⟨⟨a1, a2⟩, a3, a4⟩ := ha
  obtain ⟨⟨b1, b2⟩, b3, b4⟩ := hb
  have p := mul_in a1 a2 b1 b2
  have q := mul_in a1 a2 b3 b4
  have r := mul_in a3 a4 b1 b2
  have s := mul_in a3 a4 b3 b4
  have n1 : -(C * ((2 ^ w : Nat) : Int)) ≤ mn4 (a.1 * b.1) (a.1 * b.2) (a.2 * b.1) (a.2 * b.2) ∧ mn4 (a.1 * b.1) (a.1 * b.2) (a.2 * b.1) (a.2 * b.2) ≤ C * ((2 ^ w : Nat) : Int) := by unfold mn4; omega
  have n2 : -(C * ((2 ^ w : Nat) : Int)) ≤ mx4 (a.1 * b.1) (a.1 * b.2) (a.2 * b.1) (a.2 * b.2) ∧ mx4 (a.1 * b.1) (a.1 * b.2) (a.2 * b.1) (a.2 * b.2) ≤ C * ((2 ^ w : Nat) : Int) := by unfold mx4; omega
  exact ⟨⟨iless_ge (by rw [Int.neg_mul]; exact n1.1), iless_le n1.2⟩, imore_ge (by rw [Int.neg_mul]; exact n2.1), imore_le n2.2⟩
theorem idiv_in {x A C : Int} {n : Nat} (hn : 0 < n) (h1 : -A ≤ x) (h2 : x ≤ A) (h : A ≤ C * (n : Int)) : -C ≤ x / (n : Int) ∧ x / (n : Int) ≤ C := by
  have hp : (0 : Int) < (n : Int) := by omega
  refine ⟨(Int.le_ediv_iff_mul_le hp).2 (by rw [Int.neg_mul]; omega), ?_⟩
  have h3 := Int.ediv_mul_le x (b := (n : Int)) (by omega)
  exact Int.le_of_mul_le_mul_right (Int.le_trans h3 (Int.le_trans h2 h)) hp
theorem iby_in {a : Int × Int} {n : Nat} {A C : Int} (hn : 0 < n) (ha : within a A) (h : A ≤ C * (n : Int)) : within (iby a n) C := by
  obtain ⟨⟨a1, a2⟩, a3, a4⟩ := ha
  have p := idiv_in hn a1 a2 h
  have q := idiv_in (x := -a.2) hn (by omega) (by omega) h
  unfold within iby
  omega
/-- the row: t is the last part, s the sum -/
def rowGo (W : Nat) (y : Int × Int) : Nat → Nat → Int × Int → Int × Int → Int × Int
  | 0, _, _, s => s
  | f + 1, i, t, s =>
    if imost (iby (iprod t y W) i) ≤ 2 then iwide (isum s (iby (iprod t y W) i)) 4
    else rowGo W y f (i + 1) (iby (iprod t y W) i) (isum s (iby (iprod t y W) i))
def oneI (W : Nat) : Int × Int := (((2 ^ W : Nat) : Int), ((2 ^ W : Nat) : Int))
def rowIv (y : Int × Int) (W : Nat) : Int × Int := rowGo W y (W + 5) 1 (oneI W) (oneI W)
/-- all is well at the beginning of a round -/
structure RowAt (W : Nat) (i e : Nat) (t s : Int × Int) (D : Int) : Prop where
  i1 : 1 ≤ i
  ie : i + e ≤ W + 1
  e2 : 2 ≤ e
  te : within t ((2 ^ e : Nat) : Int)
  s1 : -D ≤ s.1 - ((2 ^ W : Nat) : Int) ∧ s.1 - ((2 ^ W : Nat) : Int) ≤ D
  s2 : -D ≤ s.2 - ((2 ^ W : Nat) : Int) ∧ s.2 - ((2 ^ W : Nat) : Int) ≤ D
  d0 : 0 ≤ D
  dd : i = 1 ∧ e = W ∧ D = 0 ∨ 2 ≤ i ∧ 7 * D ≤ 2 * ((2 ^ W : Nat) : Int) - ((2 ^ e : Nat) : Int)
theorem two_up (n : Nat) : ((2 ^ (n + 1) : Nat) : Int) = 2 * ((2 ^ n : Nat) : Int) := by rw [Nat.pow_succ]; omega
theorem two_add (m n : Nat) : ((2 ^ (m + n) : Nat) : Int) = ((2 ^ m : Nat) : Int) * ((2 ^ n : Nat) : Int) := by rw [Nat.pow_add]; exact Int.natCast_mul _ _
theorem two_mono {m n : Nat} (h : m ≤ n) : ((2 ^ m : Nat) : Int) ≤ ((2 ^ n : Nat) : Int) := by exact_mod_cast Nat.pow_le_pow_right (by omega) h
/-- the next part -/
theorem next_in {W i e : Nat} {y t : Int × Int} (hW : 10 ≤ W) (hy : within y ((2 ^ (W - 2) : Nat) : Int)) (hi : 1 ≤ i) (he : 2 ≤ e) (ht : within t ((2 ^ e : Nat) : Int)) :
    within (iby (iprod t y W) i) ((2 ^ (e - 2) : Nat) : Int) ∧ (2 ≤ i → 3 ≤ e → within (iby (iprod t y W) i) ((2 ^ (e - 3) : Nat) : Int)) := by
  have hp : within (iprod t y W) ((2 ^ (e - 2) : Nat) : Int) := by
    refine iprod_in ht hy ?_
    rw [← two_add, ← two_add, show e + (W - 2) = e - 2 + W by omega]
    exact Int.le_refl _
  have hz := pow_pos' (e - 2)
  refine ⟨iby_in hi hp ?_, fun h2 h3 => iby_in (by omega) hp ?_⟩
  · have : ((2 ^ (e - 2) : Nat) : Int) * 1 ≤ ((2 ^ (e - 2) : Nat) : Int) * (i : Int) := Int.mul_le_mul_of_nonneg_left (by omega) (by omega)
    omega
  · have h4 := two_up (e - 3)
    rw [show e - 3 + 1 = e - 2 by omega] at h4
    have hz3 := pow_pos' (e - 3)
    have : ((2 ^ (e - 3) : Nat) : Int) * 2 ≤ ((2 ^ (e - 3) : Nat) : Int) * (i : Int) := Int.mul_le_mul_of_nonneg_left (by omega) (by omega)
    omega
theorem row_step {W i e : Nat} {y t s : Int × Int} {D : Int} (hW : 10 ≤ W) (hy : within y ((2 ^ (W - 2) : Nat) : Int)) (h : RowAt W i e t s D) :
    (∃ D', 0 ≤ D' ∧ 7 * D' ≤ 2 * ((2 ^ W : Nat) : Int) + 3 ∧ within (isum s (iby (iprod t y W) i)) (((2 ^ W : Nat) : Int) + D') ∧
      -D' ≤ (isum s (iby (iprod t y W) i)).1 - ((2 ^ W : Nat) : Int) ∧ (isum s (iby (iprod t y W) i)).1 - ((2 ^ W : Nat) : Int) ≤ D' ∧
      -D' ≤ (isum s (iby (iprod t y W) i)).2 - ((2 ^ W : Nat) : Int) ∧ (isum s (iby (iprod t y W) i)).2 - ((2 ^ W : Nat) : Int) ≤ D') ∧
    (¬ imost (iby (iprod t y W) i) ≤ 2 → ∃ e' D', e' < e ∧ RowAt W (i + 1) e' (iby (iprod t y W) i) (isum s (iby (iprod t y W) i)) D') := by
  obtain ⟨i1, ie, e2, te, s1, s2, d0, dd⟩ := h
  obtain ⟨n1, n2⟩ := next_in hW hy i1 e2 te
  generalize iby (iprod t y W) i = u at *
  rcases dd with ⟨rfl, rfl, rfl⟩ | ⟨hi, hd⟩
  · have q1 := two_up (e - 2)
    have q2 := two_up (e - 1)
    rw [show e - 2 + 1 = e - 1 by omega] at q1
    rw [show e - 1 + 1 = e by omega] at q2
    have hz := pow_pos' (e - 2)
    obtain ⟨⟨u1, u2⟩, u3, u4⟩ := n1
    refine ⟨⟨((2 ^ (e - 2) : Nat) : Int), by omega, by omega, ?_, ?_⟩, fun hm => ⟨e - 2, ((2 ^ (e - 2) : Nat) : Int), by omega, ?_⟩⟩
    · unfold within isum; simp only; omega
    · unfold isum; simp only; omega
    · refine ⟨by omega, by omega, by omega, ⟨⟨u1, u2⟩, u3, u4⟩, ?_, ?_, by omega, .inr ⟨by omega, by omega⟩⟩
      · unfold isum; simp only; omega
      · unfold isum; simp only; omega
  · by_cases h3 : 3 ≤ e
    · have n3 := n2 hi h3
      obtain ⟨⟨u1, u2⟩, u3, u4⟩ := n3
      have q1 := two_up (e - 3)
      have q2 := two_up (e - 2)
      have q3 := two_up (e - 1)
      rw [show e - 3 + 1 = e - 2 by omega] at q1
      rw [show e - 2 + 1 = e - 1 by omega] at q2
      rw [show e - 1 + 1 = e by omega] at q3
      have hz := pow_pos' (e - 3)
      have hzW := pow_pos' W
      refine ⟨⟨D + ((2 ^ (e - 3) : Nat) : Int), by omega, by omega, ?_, ?_⟩, fun hm => ⟨e - 3, D + ((2 ^ (e - 3) : Nat) : Int), by omega, ?_⟩⟩
      · unfold within isum; simp only; omega
      · unfold isum; simp only; omega
      · have e5 : 2 ≤ e - 3 := by
          rcases Nat.lt_or_ge (e - 3) 2 with h5 | h5
          · exfalso
            have hm2 := imost_le (a := u) (A := 2) (by
              have : ((2 ^ (e - 3) : Nat) : Int) ≤ 2 := by
                have := two_mono (m := e - 3) (n := 1) (by omega)
                simpa using this
              unfold within; omega)
            exact hm hm2
          · exact h5
        refine ⟨by omega, by omega, e5, ⟨⟨u1, u2⟩, u3, u4⟩, ?_, ?_, by omega, .inr ⟨by omega, by omega⟩⟩
        · unfold isum; simp only; omega
        · unfold isum; simp only; omega
    · have he : e = 2 := by omega
      subst he
      have n1 : within u 1 := by simpa using n1
      obtain ⟨⟨u1, u2⟩, u3, u4⟩ := n1
      have h4 : ((2 ^ 2 : Nat) : Int) = 4 := by decide
      rw [h4] at hd
      have hzW := pow_pos' W
      refine ⟨⟨D + 1, by omega, by omega, ?_, ?_⟩, fun hm => ?_⟩
      · unfold within isum; simp only; omega
      · unfold isum; simp only; omega
      · exact absurd (imost_le (a := u) (A := 2) (by unfold within; omega)) hm
theorem row_start {W : Nat} (hW : 10 ≤ W) : RowAt W 1 W (oneI W) (oneI W) 0 :=
  ⟨by omega, by omega, by omega, by have := pow_pos' W; unfold within oneI; simp only; omega, by unfold oneI; simp, by unfold oneI; simp, by omega, .inl ⟨rfl, rfl, rfl⟩⟩
/-- an interval of positive numbers between L and H -/
def btw (a : Int × Int) (L H : Int) : Prop := (L ≤ a.1 ∧ a.1 ≤ H) ∧ L ≤ a.2 ∧ a.2 ≤ H
theorem rowGo_btw {W : Nat} {y : Int × Int} (hW : 20 ≤ W) (hy : within y ((2 ^ (W - 2) : Nat) : Int)) : ∀ (f i e : Nat) (t s : Int × Int) (D : Int), e + 1 ≤ f → RowAt W i e t s D → btw (rowGo W y f i t s) ((2 ^ (W - 1) : Nat) : Int) (1376 * ((2 ^ (W - 10) : Nat) : Int))
  | 0, i, e, t, s, D, hf, _ => by omega
  | f + 1, i, e, t, s, D, hf, h => by
    obtain ⟨⟨D', d0, d1, _, d2, d3, d4, d5⟩, h2⟩ := row_step (by omega) hy h
    unfold rowGo
    split
    · have q : ((2 ^ W : Nat) : Int) = 1024 * ((2 ^ (W - 10) : Nat) : Int) := by
        have := two_add 10 (W - 10)
        rw [show 10 + (W - 10) = W by omega] at this
        exact this
      have q2 : ((2 ^ (W - 1) : Nat) : Int) = 512 * ((2 ^ (W - 10) : Nat) : Int) := by
        have := two_add 9 (W - 10)
        rw [show 9 + (W - 10) = W - 1 by omega] at this
        exact this
      have q3 : (1024 : Int) ≤ ((2 ^ (W - 10) : Nat) : Int) := by
        have := two_mono (m := 10) (n := W - 10) (by omega)
        exact this
      unfold iwide btw
      simp only
      omega
    · rename_i hm
      obtain ⟨e', D2, he, h3⟩ := h2 hm
      exact rowGo_btw hW hy f (i + 1) e' _ _ D2 (by omega) h3
theorem rowIv_btw {W : Nat} {y : Int × Int} (hW : 20 ≤ W) (hy : within y ((2 ^ (W - 2) : Nat) : Int)) : btw (rowIv y W) ((2 ^ (W - 1) : Nat) : Int) (1376 * ((2 ^ (W - 10) : Nat) : Int)) :=
  rowGo_btw hW hy (W + 5) 1 W _ _ 0 (by omega) (row_start (by omega))
def sqI (W : Nat) (r : Int × Int) : Nat → Int × Int
  | 0 => r
  | k + 1 => iprod (sqI W r k) (sqI W r k) W
/-- how large the squares are, in units of 1/1024 -/
def bnd : Nat → Int
  | 0 => 1376
  | k + 1 => bnd k * bnd k / 1024 + 1
theorem bnd_step (k : Nat) : bnd k * bnd k ≤ bnd (k + 1) * 1024 := by
  show _ ≤ (bnd k * bnd k / 1024 + 1) * 1024
  have := Int.lt_ediv_add_one_mul_self (bnd k * bnd k) (b := 1024) (by omega)
  omega
theorem sqI_in {W : Nat} {r : Int × Int} (hW : 20 ≤ W) (h : within r (1376 * ((2 ^ (W - 10) : Nat) : Int))) : ∀ k, within (sqI W r k) (bnd k * ((2 ^ (W - 10) : Nat) : Int))
  | 0 => h
  | k + 1 => by
    have ih := sqI_in hW h k
    refine iprod_in ih ih ?_
    have hb := bnd_step k
    have e1 : ((2 ^ W : Nat) : Int) = 1024 * ((2 ^ (W - 10) : Nat) : Int) := by
      have := two_add 10 (W - 10)
      rw [show 10 + (W - 10) = W by omega] at this
      exact this
    have hz := pow_pos' (W - 10)
    rw [e1]
    generalize ((2 ^ (W - 10) : Nat) : Int) = u at *
    have e2 : bnd k * u * (bnd k * u) = bnd k * bnd k * (u * u) := by grind
    have e3 : bnd (k + 1) * u * (1024 * u) = bnd (k + 1) * 1024 * (u * u) := by grind
    rw [e2, e3]
    exact Int.mul_le_mul_of_nonneg_right hb (Int.mul_nonneg (by omega) (by omega))
theorem bnd_all : ∀ k, k < 9 → bnd k ≤ ((2 ^ 120 : Nat) : Int) := by decide +kernel
theorem sqI_pow {W : Nat} {r : Int × Int} (hW : 20 ≤ W) (h : within r (1376 * ((2 ^ (W - 10) : Nat) : Int))) {k : Nat} (hk : k < 9) : within (sqI W r k) ((2 ^ (W + 110) : Nat) : Int) := by
  have h1 := sqI_in hW h k
  have h2 : bnd k * ((2 ^ (W - 10) : Nat) : Int) ≤ ((2 ^ 120 : Nat) : Int) * ((2 ^ (W - 10) : Nat) : Int) := Int.mul_le_mul_of_nonneg_right (bnd_all k hk) (Int.le_of_lt (pow_pos' _))
  rw [← two_add, show 120 + (W - 10) = W + 110 by omega] at h2
  unfold within at *
  omega
theorem btw_in {a : Int × Int} {L H : Int} (h0 : 0 ≤ L) (h : btw a L H) : within a H := by
  unfold btw at h
  unfold within
  omega
end Go.Proofs.YtnjgliojkoeneaaGreat.P
set_option linter.unusedSimpArgs false
set_option linter.unusedVariables false
namespace Go.Proofs.YtnjgliojkoeneaaGreat.P
theorem iby_mono {a : Int × Int} {n : Nat} {A : Int} (hn : 0 < n) (h0 : 0 ≤ A) (h : within a A) : within (iby a n) A := by
  refine iby_in hn h ?_
  have := Int.mul_le_mul_of_nonneg_left (show (1 : Int) ≤ (n : Int) by omega) h0
  omega
theorem isum_in {a b : Int × Int} {A B : Int} (h : within a A) (k : within b B) : within (isum a b) (A + B) := by
  unfold within isum at *
  simp only
  omega
def pos (a : Int × Int) : Prop := 0 ≤ a.1 ∧ 0 ≤ a.2
def neg (a : Int × Int) : Prop := a.1 ≤ 0 ∧ a.2 ≤ 0
theorem iprod_pos {a b : Int × Int} (W : Nat) (h : pos a) (k : pos b) : pos (iprod a b W) := by
  obtain ⟨a1, a2⟩ := h
  obtain ⟨b1, b2⟩ := k
  have p := Int.mul_nonneg a1 b1
  have q := Int.mul_nonneg a1 b2
  have r := Int.mul_nonneg a2 b1
  have s := Int.mul_nonneg a2 b2
  exact ⟨iless_ge (by rw [Int.zero_mul]; unfold mn4; omega), imore_ge (by rw [Int.zero_mul]; unfold mx4; omega)⟩
theorem iby_pos {a : Int × Int} {n : Nat} (hn : 0 < n) (h : pos a) : pos (iby a n) := by
  obtain ⟨a1, a2⟩ := h
  have p := Int.ediv_nonneg a1 (show (0 : Int) ≤ (n : Int) by omega)
  have q : -a.2 / (n : Int) ≤ 0 := by
    have h2 := Int.ediv_mul_le (-a.2) (b := (n : Int)) (by omega)
    exact Int.le_of_mul_le_mul_right (show -a.2 / (n : Int) * (n : Int) ≤ 0 * (n : Int) by rw [Int.zero_mul]; omega) (show (0 : Int) < (n : Int) by omega)
  unfold pos iby
  simp only
  omega
/-- far above or far below 0 -/
def clear (r : Int × Int) : Prop := 0 ≤ r.1 ∧ 0 ≤ r.2 ∨ r.1 < 0 ∧ r.2 ≤ -1048576
end Go.Proofs.YtnjgliojkoeneaaGreat.P
set_option linter.unusedSimpArgs false
set_option linter.unusedVariables false
namespace Go.Proofs.YtnjgliojkoeneaaGreat.P
/-- the number r is in a, in units of W digits -/
def Iin (W : Nat) (a : Int × Int) (r : Rat) : Prop := ((a.1 : Int) : Rat) ≤ r * rp 2 W ∧ r * rp 2 W ≤ ((a.2 : Int) : Rat)
theorem ic_le {a b : Int} (h : a ≤ b) : ((a : Int) : Rat) ≤ ((b : Int) : Rat) := Rat.intCast_le_intCast.2 h
theorem ic_mul (a b : Int) : ((a * b : Int) : Rat) = ((a : Int) : Rat) * ((b : Int) : Rat) := Rat.intCast_mul a b
theorem ic_pow (n : Nat) : ((((2 ^ n : Nat) : Int) : Int) : Rat) = rp 2 n := by rw [rp2_nat]; rfl
theorem iless_rat (a : Int) (n : Nat) : ((iless a n : Int) : Rat) * rp 2 n ≤ ((a : Int) : Rat) := by
  have h := Int.ediv_mul_le a (b := ((2 ^ n : Nat) : Int)) (by have := pow_pos' n; omega)
  have h2 := ic_le h
  rw [ic_mul, ic_pow] at h2
  exact h2
theorem imore_rat (a : Int) (n : Nat) : ((a : Int) : Rat) ≤ ((imore a n : Int) : Rat) * rp 2 n := by
  have h := iless_rat (-a) n
  have e : ((imore a n : Int) : Rat) = -((iless (-a) n : Int) : Rat) := by
    show ((-(iless (-a) n) : Int) : Rat) = _
    exact Rat.intCast_neg _
  rw [Rat.intCast_neg] at h
  rw [e]
  grind
theorem lin {c x b1 b2 : Rat} (h1 : b1 ≤ x) (h2 : x ≤ b2) : (c * b1 ≤ c * x ∧ c * x ≤ c * b2) ∨ (c * b2 ≤ c * x ∧ c * x ≤ c * b1) := by
  rcases (show 0 ≤ c ∨ c ≤ 0 by grind) with h | h
  · exact .inl ⟨Rat.mul_le_mul_of_nonneg_left h1 h, Rat.mul_le_mul_of_nonneg_left h2 h⟩
  · have a := Rat.mul_le_mul_of_nonneg_left h1 (show 0 ≤ -c by grind)
    have b := Rat.mul_le_mul_of_nonneg_left h2 (show 0 ≤ -c by grind)
    exact .inr ⟨by grind, by grind⟩
theorem corner_ge {a1 a2 b1 b2 r s m : Rat} (h1 : a1 ≤ r) (h2 : r ≤ a2) (h3 : b1 ≤ s) (h4 : s ≤ b2) (m1 : m ≤ a1 * b1) (m2 : m ≤ a1 * b2) (m3 : m ≤ a2 * b1) (m4 : m ≤ a2 * b2) : m ≤ r * s := by
  have p := lin (c := a1) h3 h4
  have q := lin (c := a2) h3 h4
  have t := lin (c := s) h1 h2
  have p' : m ≤ a1 * s := by rcases p with p | p <;> grind
  have q' : m ≤ a2 * s := by rcases q with q | q <;> grind
  rcases t with t | t <;> grind
theorem corner_le {a1 a2 b1 b2 r s m : Rat} (h1 : a1 ≤ r) (h2 : r ≤ a2) (h3 : b1 ≤ s) (h4 : s ≤ b2) (m1 : a1 * b1 ≤ m) (m2 : a1 * b2 ≤ m) (m3 : a2 * b1 ≤ m) (m4 : a2 * b2 ≤ m) : r * s ≤ m := by
  have p := lin (c := a1) h3 h4
  have q := lin (c := a2) h3 h4
  have t := lin (c := s) h1 h2
  have p' : a1 * s ≤ m := by rcases p with p | p <;> grind
  have q' : a2 * s ≤ m := by rcases q with q | q <;> grind
  rcases t with t | t <;> grind
theorem mn4_le (p q r s : Int) : mn4 p q r s ≤ p ∧ mn4 p q r s ≤ q ∧ mn4 p q r s ≤ r ∧ mn4 p q r s ≤ s := by unfold mn4; omega
theorem le_mx4 (p q r s : Int) : p ≤ mx4 p q r s ∧ q ≤ mx4 p q r s ∧ r ≤ mx4 p q r s ∧ s ≤ mx4 p q r s := by unfold mx4; omega
theorem iin_prod {W : Nat} {a b : Int × Int} {r s : Rat} (h : Iin W a r) (k : Iin W b s) : Iin W (iprod a b W) (r * s) := by
  have hp := rp2_pos W
  obtain ⟨n1, n2, n3, n4⟩ := mn4_le (a.1 * b.1) (a.1 * b.2) (a.2 * b.1) (a.2 * b.2)
  obtain ⟨x1, x2, x3, x4⟩ := le_mx4 (a.1 * b.1) (a.1 * b.2) (a.2 * b.1) (a.2 * b.2)
  have n1 := ic_le n1
  have n2 := ic_le n2
  have n3 := ic_le n3
  have n4 := ic_le n4
  have x1 := ic_le x1
  have x2 := ic_le x2
  have x3 := ic_le x3
  have x4 := ic_le x4
  rw [ic_mul] at n1 n2 n3 n4 x1 x2 x3 x4
  have lo := corner_ge h.1 h.2 k.1 k.2 n1 n2 n3 n4
  have hi := corner_le h.1 h.2 k.1 k.2 x1 x2 x3 x4
  have f1 := iless_rat (mn4 (a.1 * b.1) (a.1 * b.2) (a.2 * b.1) (a.2 * b.2)) W
  have f2 := imore_rat (mx4 (a.1 * b.1) (a.1 * b.2) (a.2 * b.1) (a.2 * b.2)) W
  refine ⟨Rat.le_of_mul_le_mul_right (c := rp 2 W) ?_ hp, Rat.le_of_mul_le_mul_right (c := rp 2 W) ?_ hp⟩
  · refine Rat.le_trans f1 (Rat.le_trans lo ?_)
    rw [show r * rp 2 W * (s * rp 2 W) = r * s * rp 2 W * rp 2 W by grind]
    exact Rat.le_refl
  · refine Rat.le_trans ?_ (Rat.le_trans hi f2)
    rw [show r * rp 2 W * (s * rp 2 W) = r * s * rp 2 W * rp 2 W by grind]
    exact Rat.le_refl
theorem iin_by {W n : Nat} {a : Int × Int} {r s : Rat} (hn : 0 < n) (h : Iin W a r) (hs : s * ((n : Nat) : Rat) = r) : Iin W (iby a n) s := by
  have hp := nat_pos hn
  have h1 := ic_le (Int.ediv_mul_le a.1 (b := (n : Int)) (by omega))
  have h2 := ic_le (Int.ediv_mul_le (-a.2) (b := (n : Int)) (by omega))
  rw [ic_mul] at h1 h2
  rw [Rat.intCast_neg] at h2
  have e : (((n : Int) : Int) : Rat) = ((n : Nat) : Rat) := rfl
  rw [e] at h1 h2
  have e2 : s * rp 2 W * ((n : Nat) : Rat) = r * rp 2 W := by rw [← hs]; grind
  refine ⟨Rat.le_of_mul_le_mul_right (c := ((n : Nat) : Rat)) ?_ hp, Rat.le_of_mul_le_mul_right (c := ((n : Nat) : Rat)) ?_ hp⟩
  · rw [e2]
    exact Rat.le_trans h1 h.1
  · rw [e2]
    refine Rat.le_trans h.2 ?_
    show _ ≤ ((-(-a.2 / (n : Int)) : Int) : Rat) * _
    rw [Rat.intCast_neg]
    grind
theorem iin_sum {W : Nat} {a b : Int × Int} {r s : Rat} (h : Iin W a r) (k : Iin W b s) : Iin W (isum a b) (r + s) := by
  obtain ⟨h1, h2⟩ := h
  obtain ⟨k1, k2⟩ := k
  unfold Iin isum
  simp only [Rat.intCast_add]
  constructor <;> grind
theorem iin_one (W : Nat) : Iin W (oneI W) 1 := by
  unfold Iin oneI
  simp only [ic_pow, Rat.one_mul]
  exact ⟨Rat.le_refl, Rat.le_refl⟩
theorem rt_zero (x : Rat) : rt x 0 = 1 := rfl
theorem rt_ab (x : Rat) : ∀ i, ab (rt x i) = rt (ab x) i
  | 0 => by rw [rt_zero, rt_zero]; exact ab_of (by decide)
  | i + 1 => by
    have h1 := rt_next x i
    have h2 := rt_next (ab x) i
    have ih := rt_ab x i
    have hp := nat_pos (show 0 < i + 1 by omega)
    have h3 : ab (rt x (i + 1)) * ((i + 1 : Nat) : Rat) = ab (rt x i) * ab x := by
      rw [← ab_mul]
      have e : ab (rt x (i + 1) * ((i + 1 : Nat) : Rat)) = ab (rt x (i + 1)) * ((i + 1 : Nat) : Rat) := by rw [ab_mul, ab_of (Rat.le_of_lt hp)]
      rw [← e, h1, show ((1 : Nat) : Rat) = 1 from rfl, Rat.mul_one]
    have h4 : rt (ab x) (i + 1) * ((i + 1 : Nat) : Rat) = ab (rt x i) * ab x := by
      rw [h2, ih, show ((1 : Nat) : Rat) = 1 from rfl, Rat.mul_one]
    rw [← h4] at h3
    exact Rat.le_antisymm (Rat.le_of_mul_le_mul_right (show _ ≤ _ by rw [h3]; exact Rat.le_refl) hp) (Rat.le_of_mul_le_mul_right (show _ ≤ _ by rw [h3]; exact Rat.le_refl) hp)
/-- what is behind is at most twice the next part -/
theorem RE_tail {x : Rat} {n : Nat} (h : ab x + ab x ≤ ((n + 1 : Nat) : Rat)) : ∀ r, ab (RE x (n + r) - RE x n) + 2 * rt (ab x) (n + r) ≤ 2 * rt (ab x) n
  | 0 => by rw [Nat.add_zero, show RE x n - RE x n = 0 by grind, ab_zero]; grind
  | r + 1 => by
    have ih := RE_tail h r
    have h1 := rt_half (ab_nn x) h r
    have h2 : RE x (n + (r + 1)) - RE x n = (RE x (n + r) - RE x n) + rt x (n + r) := by
      rw [show n + (r + 1) = n + r + 1 by omega, RE_succ]; grind
    have h3 := ab_add (RE x (n + r) - RE x n) (rt x (n + r))
    rw [rt_ab] at h3
    rw [h2, show n + (r + 1) = n + r + 1 by omega]
    grind
/-- e to x is in a, in units of W digits, which is not below 0 -/
structure Ex (W : Nat) (a : Int × Int) (x : Rat) : Prop where
  lo : ∀ c : Rat, c * rp 2 W ≤ ((a.1 : Int) : Rat) → EG x c
  hi : ∀ c : Rat, ((a.2 : Int) : Rat) ≤ c * rp 2 W → EL x c
theorem Ex.of {W : Nat} {a : Int × Int} {x : Rat} (h : Ev fun n => ((a.1 : Int) : Rat) ≤ RE x n * rp 2 W ∧ RE x n * rp 2 W ≤ ((a.2 : Int) : Rat)) : Ex W a x := by
  have hp := rp2_pos W
  refine ⟨fun c hc ε he => h.imp fun n hn => ?_, fun c hc ε he => h.imp fun n hn => ?_⟩
  · have := Rat.le_of_mul_le_mul_right (Rat.le_trans hc hn.1) hp
    grind
  · have := Rat.le_of_mul_le_mul_right (Rat.le_trans hn.2 hc) hp
    grind
theorem most_le {W : Nat} {a : Int × Int} {r : Rat} (h : Iin W a r) (hm : imost a ≤ 2) : ab r * rp 2 W ≤ 2 := by
  have hp := rp2_pos W
  obtain ⟨⟨a1, a2⟩, a3, a4⟩ := imost_in hm
  have b1 := ic_le a1
  have b2 := ic_le a4
  have c2 : ((2 : Int) : Rat) = 2 := rfl
  have c3 : ((-2 : Int) : Rat) = -2 := rfl
  rw [c3] at b1
  rw [c2] at b2
  have e : ab r * rp 2 W = ab (r * rp 2 W) := by rw [ab_mul, ab_of (Rat.le_of_lt hp)]
  rw [e]
  refine ab_le.2 ⟨Rat.le_trans h.2 b2, Rat.le_trans b1 h.1⟩
theorem rowGo_ex {W : Nat} {y : Int × Int} {x : Rat} (hW : 20 ≤ W) (hy : within y ((2 ^ (W - 2) : Nat) : Int)) (hx : Iin W y x) (hx4 : ab x ≤ 1 / 4) : ∀ (f i e : Nat) (t s : Int × Int) (D : Int), e + 1 ≤ f → RowAt W (i + 1) e t s D → Iin W t (rt x i) → Iin W s (RE x (i + 1)) → Ex W (rowGo W y f (i + 1) t s) x
  | 0, i, e, t, s, D, hf, _, _, _ => by omega
  | f + 1, i, e, t, s, D, hf, h, ht, hs => by
    obtain ⟨_, h2⟩ := row_step (by omega) hy h
    have hu : Iin W (iby (iprod t y W) (i + 1)) (rt x (i + 1)) := by
      refine iin_by (by omega) (iin_prod ht hx) ?_
      have := rt_next x i
      rw [this, show ((1 : Nat) : Rat) = 1 from rfl, Rat.mul_one]
    have hs2 : Iin W (isum s (iby (iprod t y W) (i + 1))) (RE x (i + 2)) := by
      have := iin_sum hs hu
      rwa [← RE_succ] at this
    unfold rowGo
    split
    · rename_i hm
      have hsm := most_le hu hm
      rw [rt_ab] at hsm
      refine Ex.of ⟨i + 2, fun n hn => ?_⟩
      obtain ⟨r, rfl⟩ : ∃ r, n = i + 2 + r := ⟨n - (i + 2), by omega⟩
      have hp := rp2_pos W
      have hh : ab x + ab x ≤ ((i + 2 + 1 : Nat) : Rat) := by
        have h1 : ((1 : Nat) : Rat) ≤ ((i + 2 + 1 : Nat) : Rat) := Rat.natCast_le_natCast.2 (by omega)
        rw [show ((1 : Nat) : Rat) = 1 from rfl] at h1
        grind
      have ht1 := RE_tail hh r
      have hh0 : ab x + ab x ≤ ((i + 1 + 1 : Nat) : Rat) := by
        have h1 : ((1 : Nat) : Rat) ≤ ((i + 1 + 1 : Nat) : Rat) := Rat.natCast_le_natCast.2 (by omega)
        rw [show ((1 : Nat) : Rat) = 1 from rfl] at h1
        grind
      have ht2 := rt_half (ab_nn x) hh0 0
      rw [show i + 1 + 0 + 1 = i + 2 by omega, show i + 1 + 0 = i + 1 by omega] at ht2
      have ht3 := rt_nn (ab_nn x) (i + 2 + r)
      have ht4 : ab (RE x (i + 2 + r) - RE x (i + 2)) ≤ rt (ab x) (i + 1) := by grind
      have ht5 := Rat.mul_le_mul_of_nonneg_right ht4 (Rat.le_of_lt hp)
      have ht6 : ab ((RE x (i + 2 + r) - RE x (i + 2)) * rp 2 W) ≤ 2 := by
        rw [ab_mul, ab_of (Rat.le_of_lt hp)]
        exact Rat.le_trans ht5 hsm
      have b1 := ab_lo ht6
      have b2 := ab_hi ht6
      obtain ⟨s1, s2⟩ := hs2
      unfold iwide
      simp only [Rat.intCast_add, show ((-4 : Int) : Rat) = -4 from rfl, show ((4 : Int) : Rat) = 4 from rfl]
      constructor <;> grind
    · rename_i hm
      obtain ⟨e', D2, he, h3⟩ := h2 hm
      exact rowGo_ex hW hy hx hx4 f (i + 1) e' _ _ D2 (by omega) h3 hu hs2
theorem rowIv_ex {W : Nat} {y : Int × Int} {x : Rat} (hW : 20 ≤ W) (hy : within y ((2 ^ (W - 2) : Nat) : Int)) (hx : Iin W y x) (hx4 : ab x ≤ 1 / 4) : Ex W (rowIv y W) x := by
  refine rowGo_ex hW hy hx hx4 (W + 5) 0 W _ _ 0 (by omega) (row_start (by omega)) ?_ ?_
  · exact iin_one W
  · have : RE x 1 = 1 := by unfold RE rsm rsm rt; grind
    rw [this]
    exact iin_one W
theorem Ex.sq {W : Nat} {a : Int × Int} {x : Rat} (h : Ex W a x) (h0 : 0 ≤ a.1) (h2 : 0 ≤ a.2) : Ex W (iprod a a W) (x + x) := by
  have hp := rp2_pos W
  have i1 := inv2_mul W
  obtain ⟨n1, _, _, _⟩ := mn4_le (a.1 * a.1) (a.1 * a.2) (a.2 * a.1) (a.2 * a.2)
  obtain ⟨_, _, _, x4⟩ := le_mx4 (a.1 * a.1) (a.1 * a.2) (a.2 * a.1) (a.2 * a.2)
  have n1 := ic_le n1
  have x4 := ic_le x4
  rw [ic_mul] at n1 x4
  have f1 := iless_rat (mn4 (a.1 * a.1) (a.1 * a.2) (a.2 * a.1) (a.2 * a.2)) W
  have f2 := imore_rat (mx4 (a.1 * a.1) (a.1 * a.2) (a.2 * a.1) (a.2 * a.2)) W
  have z1 := ic_le h0
  have z2 := ic_le h2
  rw [show ((0 : Int) : Rat) = 0 from rfl] at z1 z2
  have ip := inv2_pos W
  generalize hA : ((a.1 : Int) : Rat) = A at *
  generalize hB : ((a.2 : Int) : Rat) = B at *
  have g1 := h.lo (A * (1 / rp 2 W)) (by rw [hA, Rat.mul_assoc, i1, Rat.mul_one]; exact Rat.le_refl)
  have g2 := h.hi (B * (1 / rp 2 W)) (by rw [hB, Rat.mul_assoc, i1, Rat.mul_one]; exact Rat.le_refl)
  refine ⟨fun c hc => (EG.add (Rat.mul_nonneg z1 (Rat.le_of_lt ip)) g1 g1).le ?_, fun c hc => (g2.add g2).le ?_⟩
  · refine Rat.le_of_mul_le_mul_right (c := rp 2 W) (Rat.le_of_mul_le_mul_right (c := rp 2 W) ?_ hp) hp
    rw [show A * (1 / rp 2 W) * (A * (1 / rp 2 W)) * rp 2 W * rp 2 W = A * A * (1 / rp 2 W * rp 2 W) * (1 / rp 2 W * rp 2 W) by grind, i1, Rat.mul_one, Rat.mul_one]
    exact Rat.le_trans (Rat.mul_le_mul_of_nonneg_right hc (Rat.le_of_lt hp)) (Rat.le_trans f1 n1)
  · refine Rat.le_of_mul_le_mul_right (c := rp 2 W) (Rat.le_of_mul_le_mul_right (c := rp 2 W) ?_ hp) hp
    rw [show B * (1 / rp 2 W) * (B * (1 / rp 2 W)) * rp 2 W * rp 2 W = B * B * (1 / rp 2 W * rp 2 W) * (1 / rp 2 W * rp 2 W) by grind, i1, Rat.mul_one, Rat.mul_one]
    exact Rat.le_trans x4 (Rat.le_trans f2 (Rat.mul_le_mul_of_nonneg_right hc (Rat.le_of_lt hp)))
theorem sqI_pos {W : Nat} {r : Int × Int} (h : pos r) : ∀ k, pos (sqI W r k)
  | 0 => h
  | k + 1 => iprod_pos W (sqI_pos h k) (sqI_pos h k)
theorem sqI_ex {W : Nat} {r : Int × Int} {x : Rat} (h : Ex W r x) (hp : pos r) : ∀ k, Ex W (sqI W r k) (rp 2 k * x)
  | 0 => by rw [show rp 2 0 = 1 from rfl, Rat.one_mul]; exact h
  | k + 1 => by
    have := (sqI_ex h hp k).sq (sqI_pos hp k).1 (sqI_pos hp k).2
    rwa [show rp 2 k * x + rp 2 k * x = rp 2 (k + 1) * x by rw [rp2_succ]; grind] at this
theorem Ex.back {W n : Nat} {a : Int × Int} {x : Rat} (h : Ex (W + n) a x) : Ex W (iback a n) x := by
  have f1 := iless_rat a.1 n
  have f2 := imore_rat a.2 n
  have hp := rp2_pos n
  refine ⟨fun c hc => h.lo c ?_, fun c hc => h.hi c ?_⟩
  · rw [rp_add, ← Rat.mul_assoc]
    exact Rat.le_trans (Rat.mul_le_mul_of_nonneg_right hc (Rat.le_of_lt hp)) f1
  · rw [rp_add, ← Rat.mul_assoc]
    exact Rat.le_trans f2 (Rat.mul_le_mul_of_nonneg_right hc (Rat.le_of_lt hp))
end Go.Proofs.YtnjgliojkoeneaaGreat.P
set_option linter.unusedSimpArgs false
set_option linter.unusedVariables false
namespace Go.Proofs.YtnjgliojkoeneaaGreat.P
def ivT (t0 y : Int × Int) (W : Nat) : Nat → Int × Int
  | 0 => t0
  | i + 1 => iby (iprod (ivT t0 y W i) y W) (i + 1)
def ivS (t0 y : Int × Int) (W : Nat) : Nat → Int × Int
  | 0 => t0
  | i + 1 => isum (ivS t0 y W i) (ivT t0 y W (i + 1))
theorem ivT_pos {t0 y : Int × Int} {W : Nat} (h : pos t0) (k : pos y) : ∀ i, pos (ivT t0 y W i)
  | 0 => h
  | i + 1 => iby_pos (by omega) (iprod_pos W (ivT_pos h k i) k)
theorem ic_nn {a : Int} (h : 0 ≤ a) : (0 : Rat) ≤ ((a : Int) : Rat) := by
  have := ic_le h
  rwa [show ((0 : Int) : Rat) = 0 from rfl] at this
theorem ivT_in {t0 y : Int × Int} {W : Nat} {m : Rat} (h : pos t0) (k : pos y) (hy : Iin W y m) (hm : 0 ≤ m) : ∀ i, (((ivT t0 y W i).1 : Int) : Rat) ≤ rt m i * ((t0.1 : Int) : Rat) ∧ rt m i * ((t0.2 : Int) : Rat) ≤ (((ivT t0 y W i).2 : Int) : Rat)
  | 0 => by rw [rt_zero, Rat.one_mul, Rat.one_mul]; exact ⟨Rat.le_refl, Rat.le_refl⟩
  | i + 1 => by
    obtain ⟨ih1, ih2⟩ := ivT_in h k hy hm i
    have hp := rp2_pos W
    have hn := nat_pos (show 0 < i + 1 by omega)
    obtain ⟨p1, p2⟩ := ivT_pos (W := W) h k i
    have e := rt_next m i
    rw [show ((1 : Nat) : Rat) = 1 from rfl, Rat.mul_one] at e
    show (((iby (iprod (ivT t0 y W i) y W) (i + 1)).1 : Int) : Rat) ≤ _ ∧ _ ≤ (((iby (iprod (ivT t0 y W i) y W) (i + 1)).2 : Int) : Rat)
    generalize ivT t0 y W i = t at *
    have d1 := ic_le (Int.ediv_mul_le (iprod t y W).1 (b := ((i + 1 : Nat) : Int)) (by omega))
    have d2 := ic_le (Int.ediv_mul_le (-(iprod t y W).2) (b := ((i + 1 : Nat) : Int)) (by omega))
    rw [ic_mul] at d1 d2
    rw [Rat.intCast_neg] at d2
    have en : ((((i + 1 : Nat) : Int) : Int) : Rat) = ((i + 1 : Nat) : Rat) := rfl
    rw [en] at d1 d2
    obtain ⟨n1, _, _, _⟩ := mn4_le (t.1 * y.1) (t.1 * y.2) (t.2 * y.1) (t.2 * y.2)
    obtain ⟨_, _, _, x4⟩ := le_mx4 (t.1 * y.1) (t.1 * y.2) (t.2 * y.1) (t.2 * y.2)
    have n1 := ic_le n1
    have x4 := ic_le x4
    rw [ic_mul] at n1 x4
    have f1 : (((iprod t y W).1 : Int) : Rat) * rp 2 W ≤ _ := iless_rat (mn4 (t.1 * y.1) (t.1 * y.2) (t.2 * y.1) (t.2 * y.2)) W
    have f2 : _ ≤ (((iprod t y W).2 : Int) : Rat) * rp 2 W := imore_rat (mx4 (t.1 * y.1) (t.1 * y.2) (t.2 * y.1) (t.2 * y.2)) W
    have y1 := ic_nn k.1
    have y2 := ic_nn k.2
    have t1 := ic_nn p1
    have t2 := ic_nn p2
    have t01 := ic_nn h.1
    have t02 := ic_nn h.2
    have hr := rt_nn hm i
    have m1 : ((t.1 : Int) : Rat) * ((y.1 : Int) : Rat) ≤ rt m i * ((t0.1 : Int) : Rat) * (m * rp 2 W) :=
      Rat.le_trans (Rat.mul_le_mul_of_nonneg_right ih1 y1) (Rat.mul_le_mul_of_nonneg_left hy.1 (Rat.mul_nonneg hr t01))
    have m2 : rt m i * ((t0.2 : Int) : Rat) * (m * rp 2 W) ≤ ((t.2 : Int) : Rat) * ((y.2 : Int) : Rat) :=
      Rat.le_trans (Rat.mul_le_mul_of_nonneg_right ih2 (Rat.mul_nonneg hm (Rat.le_of_lt hp))) (Rat.mul_le_mul_of_nonneg_left hy.2 t2)
    have g1 : (((iprod t y W).1 : Int) : Rat) ≤ rt m i * m * ((t0.1 : Int) : Rat) := Rat.le_of_mul_le_mul_right (c := rp 2 W) (Rat.le_trans f1 (Rat.le_trans n1 (Rat.le_trans m1 (by rw [show rt m i * ((t0.1 : Int) : Rat) * (m * rp 2 W) = rt m i * m * ((t0.1 : Int) : Rat) * rp 2 W by grind]; exact Rat.le_refl)))) hp
    have g2 : rt m i * m * ((t0.2 : Int) : Rat) ≤ (((iprod t y W).2 : Int) : Rat) := Rat.le_of_mul_le_mul_right (c := rp 2 W) (Rat.le_trans (by rw [show rt m i * ((t0.2 : Int) : Rat) * (m * rp 2 W) = rt m i * m * ((t0.2 : Int) : Rat) * rp 2 W by grind]; exact Rat.le_refl) (Rat.le_trans m2 (Rat.le_trans x4 f2))) hp
    rw [← e] at g1 g2
    constructor
    · refine Rat.le_of_mul_le_mul_right (c := ((i + 1 : Nat) : Rat)) ?_ hn
      refine Rat.le_trans d1 (Rat.le_trans g1 ?_)
      rw [show rt m (i + 1) * ((i + 1 : Nat) : Rat) * ((t0.1 : Int) : Rat) = rt m (i + 1) * ((t0.1 : Int) : Rat) * ((i + 1 : Nat) : Rat) by grind]
      exact Rat.le_refl
    · refine Rat.le_of_mul_le_mul_right (c := ((i + 1 : Nat) : Rat)) ?_ hn
      refine Rat.le_trans (b := (((iprod t y W).2 : Int) : Rat)) ?_ ?_
      · rw [show rt m (i + 1) * ((t0.2 : Int) : Rat) * ((i + 1 : Nat) : Rat) = rt m (i + 1) * ((i + 1 : Nat) : Rat) * ((t0.2 : Int) : Rat) by grind]
        exact g2
      · show _ ≤ ((-(-(iprod t y W).2 / ((i + 1 : Nat) : Int)) : Int) : Rat) * _
        rw [Rat.intCast_neg]
        grind
theorem ivS_in {t0 y : Int × Int} {W : Nat} {m : Rat} (h : pos t0) (k : pos y) (hy : Iin W y m) (hm : 0 ≤ m) : ∀ i, (((ivS t0 y W i).1 : Int) : Rat) ≤ RE m (i + 1) * ((t0.1 : Int) : Rat) ∧ RE m (i + 1) * ((t0.2 : Int) : Rat) ≤ (((ivS t0 y W i).2 : Int) : Rat)
  | 0 => by
    have : RE m 1 = 1 := by unfold RE rsm rsm rt; grind
    rw [this, Rat.one_mul, Rat.one_mul]; exact ⟨Rat.le_refl, Rat.le_refl⟩
  | i + 1 => by
    obtain ⟨ih1, ih2⟩ := ivS_in h k hy hm i
    obtain ⟨a1, a2⟩ := ivT_in h k hy hm (i + 1)
    rw [RE_succ m (i + 1)]
    show (((ivS t0 y W i).1 + (ivT t0 y W (i + 1)).1 : Int) : Rat) ≤ _ ∧ _ ≤ (((ivS t0 y W i).2 + (ivT t0 y W (i + 1)).2 : Int) : Rat)
    rw [Rat.intCast_add, Rat.intCast_add]
    constructor <;> grind
/-- what is below e's power is below the upper end -/
theorem iv_hi {w n : Nat} {t0 t : Int × Int} {C c x : Rat} (h : Ex (w + n) t0 x) (hC : 0 ≤ C) (ht : C * ((t0.2 : Int) : Rat) ≤ ((t.2 : Int) : Rat)) (hc : EG x c) : C * c * rp 2 w ≤ (((iback t n).2 : Int) : Rat) := by
  have hp := rp2_pos (w + n)
  have hn := rp2_pos n
  have f2 : _ ≤ (((iback t n).2 : Int) : Rat) * rp 2 n := imore_rat t.2 n
  have g := (h.hi (((t0.2 : Int) : Rat) * (1 / rp 2 (w + n))) (by rw [Rat.mul_assoc, inv2_mul, Rat.mul_one]; exact Rat.le_refl)).ge hc
  have g2 := Rat.mul_le_mul_of_nonneg_right g (Rat.le_of_lt hp)
  rw [Rat.mul_assoc, inv2_mul, Rat.mul_one] at g2
  have g3 := Rat.mul_le_mul_of_nonneg_left g2 hC
  refine Rat.le_of_mul_le_mul_right (c := rp 2 n) ?_ hn
  rw [show C * c * rp 2 w * rp 2 n = C * (c * (rp 2 w * rp 2 n)) by grind, ← rp_add]
  exact Rat.le_trans g3 (Rat.le_trans ht f2)
theorem iv_lo {w n : Nat} {t0 t : Int × Int} {C c x : Rat} (h : Ex (w + n) t0 x) (hC : 0 ≤ C) (ht : ((t.1 : Int) : Rat) ≤ C * ((t0.1 : Int) : Rat)) (hc : EL x c) : (((iback t n).1 : Int) : Rat) ≤ C * c * rp 2 w := by
  have hp := rp2_pos (w + n)
  have hn := rp2_pos n
  have f2 : (((iback t n).1 : Int) : Rat) * rp 2 n ≤ _ := iless_rat t.1 n
  have g := hc.ge (h.lo (((t0.1 : Int) : Rat) * (1 / rp 2 (w + n))) (by rw [Rat.mul_assoc, inv2_mul, Rat.mul_one]; exact Rat.le_refl))
  have g2 := Rat.mul_le_mul_of_nonneg_right g (Rat.le_of_lt hp)
  rw [Rat.mul_assoc, inv2_mul, Rat.mul_one] at g2
  have g3 := Rat.mul_le_mul_of_nonneg_left g2 hC
  refine Rat.le_of_mul_le_mul_right (c := rp 2 n) ?_ hn
  rw [show C * c * rp 2 w * rp 2 n = C * (c * (rp 2 w * rp 2 n)) by grind, ← rp_add]
  exact Rat.le_trans f2 (Rat.le_trans ht g3)
theorem cn_cs {n d w : Nat} {m : Rat} (hd : 0 < d) (hm : m * ((d : Nat) : Rat) = ((n : Nat) : Rat)) : ∀ j, Cn w (cs (spOf n d w) w j) (rt m j)
  | 0 => cn_one w
  | j + 1 => cn_times (by omega) (cn_mul (cn_cs hd hm j) (cn_of hd hm w)) (rt_next m j)
theorem cn_csS {n d w k : Nat} {m : Rat} (hd : 0 < d) (hm : m * ((d : Nat) : Rat) = ((n : Nat) : Rat)) : ∀ i, Cn w (csS (spOf n d w) w k i) (rt m k + RE m i)
  | 0 => by
    have : RE m 0 = 0 := rfl
    rw [this, Rat.add_zero]
    exact cn_cs hd hm k
  | i + 1 => by
    have := cn_add (cn_csS (k := k) hd hm i) (cn_cs (w := w) hd hm i)
    rw [RE_succ]
    rwa [Rat.add_assoc] at this
theorem told_hi {s e : Sp} {w p : Nat} (hp : p ≤ w) : fr s.2 w * fr e.2 w ≤ fr ((spMul s e w).2 / 2 ^ (w - p) + 1) p :=
  (told_in (s := (s.2, s.2)) (e := (e.2, e.2)) hp (Nat.le_refl _) (Nat.le_refl _)).2
theorem RE_shift {m : Rat} (hm : 0 ≤ m) (j : Nat) : ∀ i, i ≤ j → RE m (i + 1) * m ≤ ((j + 1 : Nat) : Rat) * (RE m (i + 2) - 1)
  | 0, _ => by
    have e1 : RE m 1 = 1 := by unfold RE rsm rsm rt; grind
    have e2 : RE m 2 = 1 + m := by
      have h := rt_next m 0
      rw [rt_zero, show ((1 : Nat) : Rat) = 1 from rfl] at h
      have h2 : rt m 1 * 1 = 1 * m * 1 := h
      rw [RE_succ, e1]
      grind
    have h1 : ((1 : Nat) : Rat) ≤ ((j + 1 : Nat) : Rat) := Rat.natCast_le_natCast.2 (by omega)
    rw [show ((1 : Nat) : Rat) = 1 from rfl] at h1
    have h2 := Rat.mul_le_mul_of_nonneg_right h1 hm
    rw [e1, e2]
    grind
  | i + 1, hi => by
    have ih := RE_shift hm j i (by omega)
    have h := rt_next m (i + 1)
    rw [show ((1 : Nat) : Rat) = 1 from rfl, Rat.mul_one] at h
    have h1 : ((i + 1 + 1 : Nat) : Rat) ≤ ((j + 1 : Nat) : Rat) := Rat.natCast_le_natCast.2 (by omega)
    have h2 := Rat.mul_le_mul_of_nonneg_left h1 (rt_nn hm (i + 2))
    rw [RE_succ m (i + 1), RE_succ m (i + 2)]
    grind
theorem RE_bound {m : Rat} (hm : 0 ≤ m) (h : m ≤ 64) (n : Nat) : RE m n ≤ rp 2 102 :=
  Rat.le_trans ((EL64 h).ge (EG.sum hm n)) (by decide +kernel)
theorem RE_ge1 {m : Rat} (hm : 0 ≤ m) (n : Nat) : 1 ≤ RE m (n + 1) := RE_ge_one hm (by omega)
theorem rt_le_RE {m : Rat} (hm : 0 ≤ m) (j : Nat) : rt m j ≤ RE m (j + 1) := by
  have := RE_nn hm j
  rw [RE_succ]; grind
theorem RE_le {m : Rat} (hm : 0 ≤ m) {i j : Nat} (h : i ≤ j) : RE m i ≤ RE m j := by
  obtain ⟨r, rfl⟩ : ∃ r, j = i + r := ⟨j - i, by omega⟩
  exact RE_mono hm i r
theorem K_le {w : Nat} (hw : 128 ≤ w) : rp 2 105 ≤ rp 2 w := rp_mono (by decide) (by omega)
theorem cs_hi {n d w : Nat} {m : Rat} (hd : 0 < d) (hm : m * ((d : Nat) : Rat) = ((n : Nat) : Rat)) (h0 : 0 ≤ m) (hw : 128 ≤ w) {j : Nat} (h : (((cs (spOf n d w) w j).2 : Nat) : Rat) ≤ (((cs (spOf n d w) w j).1 : Nat) : Rat) + rp 2 105 * RE m (j + 1)) : (((cs (spOf n d w) w j).2 : Nat) : Rat) ≤ 2 * (RE m (j + 1) * rp 2 w) := by
  have c := (cn_cs (w := w) hd hm j).1
  have r := rt_le_RE h0 j
  have hp := rp2_pos w
  have a := Rat.mul_le_mul_of_nonneg_right r (Rat.le_of_lt hp)
  have b := Rat.mul_le_mul_of_nonneg_left (K_le hw) (RE_nn h0 (j + 1))
  grind
theorem width_step {x y x' y' b1 b2 T K R R' m q : Rat} (hT : 0 < T) (hq : 1 ≤ q) (hK : 0 ≤ K) (hR : 0 ≤ R) (h1 : (y' - 1) * q * T ≤ y * b2 + T) (h2 : x * b1 ≤ ((x' + 1) * q + 1) * T) (hb : b2 = b1 + 1) (hb1 : b1 ≤ m * T) (hb0 : 0 ≤ b1) (hyx : y ≤ x + K * R) (hy : y ≤ 2 * (R * T)) (hs : R * m ≤ q * (R' - 1)) (hKR : 2 * R + 4 ≤ K) : y' ≤ x' + K * R' := by
  have a1 := Rat.mul_le_mul_of_nonneg_right hyx hb0
  have a2 := Rat.mul_le_mul_of_nonneg_left hb1 (Rat.mul_nonneg hK hR)
  have a3 := Rat.mul_le_mul_of_nonneg_left hs (Rat.mul_nonneg hK (Rat.le_of_lt hT))
  -- (y' - x' - 2) q T ≤ y b2 - x b1 + 2 T ≤ K R m T + 2 R T + 2 T
  have a4 : (y' - x' - 2) * q * T ≤ K * T * (q * (R' - 1)) + (2 * R + 2) * T := by
    rw [hb] at h1
    grind
  have a5 : (y' - x' - 2) * q ≤ K * (q * (R' - 1)) + (2 * R + 2) := Rat.le_of_mul_le_mul_right (c := T) (Rat.le_trans a4 (by rw [show K * T * (q * (R' - 1)) + (2 * R + 2) * T = (K * (q * (R' - 1)) + (2 * R + 2)) * T by grind]; exact Rat.le_refl)) hT
  have a6 := Rat.mul_le_mul_of_nonneg_left hq (show 0 ≤ 2 * R + 2 by grind)
  have a7 : (y' - x' - 2) * q ≤ (K * (R' - 1) + (2 * R + 2)) * q := by grind
  have a8 := Rat.le_of_mul_le_mul_right a7 (show 0 < q by grind)
  grind
theorem cs_width {n d w : Nat} {m : Rat} (hd : 0 < d) (hm : m * ((d : Nat) : Rat) = ((n : Nat) : Rat)) (h0 : 0 ≤ m) (h64 : m ≤ 64) (hw : 128 ≤ w) : ∀ j, (((cs (spOf n d w) w j).2 : Nat) : Rat) ≤ (((cs (spOf n d w) w j).1 : Nat) : Rat) + rp 2 105 * RE m (j + 1)
  | 0 => by
    have e1 : RE m 1 = 1 := by unfold RE rsm rsm rt; grind
    rw [e1]
    show ((2 ^ w + 1 : Nat) : Rat) ≤ ((2 ^ w : Nat) : Rat) + rp 2 105 * 1
    rw [Rat.natCast_add]
    have : (1 : Rat) ≤ rp 2 105 := by decide +kernel
    rw [show ((1 : Nat) : Rat) = 1 from rfl]
    grind
  | j + 1 => by
    have ih := cs_width hd hm h0 h64 hw j
    have hh := cs_hi hd hm h0 hw ih
    have cb := (cn_of hd hm w).1
    have hT := rp2_pos w
    have hq : ((1 : Nat) : Rat) ≤ ((j + 1 : Nat) : Rat) := Rat.natCast_le_natCast.2 (by omega)
    have hqp : 0 < j + 1 := by omega
    have hR := RE_nn h0 (j + 1)
    have hKR : 2 * RE m (j + 1) + 4 ≤ rp 2 105 := by
      have := RE_bound h0 h64 (j + 1)
      have e : 2 * rp 2 102 + 4 ≤ rp 2 105 := by decide +kernel
      grind
    have hs := RE_shift h0 j j (Nat.le_refl j)
    simp only [cs]
    generalize hB : spOf n d w = b at *
    have hb2 : ((b.2 : Nat) : Rat) = ((b.1 : Nat) : Rat) + 1 := by
      rw [← hB]
      show ((n * 2 ^ w / d + 1 : Nat) : Rat) = _
      rw [Rat.natCast_add]; rfl
    generalize cs b w j = c at *
    -- upper: ((c.2 b.2 / T + 1) / (j+1) + 1)
    have u1 := quo_le ((c.2 * b.2 / 2 ^ w + 1) * 1) hqp
    have u2 := quo_le (c.2 * b.2) (pow_pos2 w)
    have l1 := lt_quo (c.1 * b.1 / 2 ^ w * 1) hqp
    have l2 := lt_quo (c.1 * b.1) (pow_pos2 w)
    rw [← rp2_nat, Rat.natCast_mul] at u2 l2
    rw [Nat.mul_one] at u1 l1
    rw [Rat.natCast_add] at u1 l1 l2
    show (((c.2 * b.2 / 2 ^ w + 1) * 1 / (j + 1) + 1 : Nat) : Rat) ≤ ((c.1 * b.1 / 2 ^ w * 1 / (j + 1) : Nat) : Rat) + _
    rw [Nat.mul_one, Nat.mul_one, Rat.natCast_add]
    rw [show ((1 : Nat) : Rat) = 1 from rfl] at *
    generalize (((c.2 * b.2 / 2 ^ w + 1) / (j + 1) : Nat) : Rat) = Y at *
    generalize ((c.1 * b.1 / 2 ^ w / (j + 1) : Nat) : Rat) = X at *
    refine width_step (x := ((c.1 : Nat) : Rat)) (y := ((c.2 : Nat) : Rat)) (b1 := ((b.1 : Nat) : Rat)) (b2 := ((b.2 : Nat) : Rat)) (T := rp 2 w) (R := RE m (j + 1)) (m := m) (q := ((j + 1 : Nat) : Rat)) hT hq (by decide +kernel) hR ?_ ?_ hb2 cb (nat_nn _) ih hh hs hKR
    · have := Rat.mul_le_mul_of_nonneg_right u1 (Rat.le_of_lt hT)
      grind
    · have := Rat.mul_le_mul_of_nonneg_right l1 (Rat.le_of_lt hT)
      grind
theorem csS_width {n d w k : Nat} {m : Rat} (hd : 0 < d) (hm : m * ((d : Nat) : Rat) = ((n : Nat) : Rat)) (h0 : 0 ≤ m) (h64 : m ≤ 64) (hw : 128 ≤ w) : ∀ i, i ≤ k → (((csS (spOf n d w) w k i).2 : Nat) : Rat) ≤ (((csS (spOf n d w) w k i).1 : Nat) : Rat) + ((i + 1 : Nat) : Rat) * (rp 2 105 * RE m (k + 1)) ∧ (((csS (spOf n d w) w k i).2 : Nat) : Rat) ≤ ((i + 1 : Nat) : Rat) * (2 * (RE m (k + 1) * rp 2 w))
  | 0, _ => by
    have a := cs_width hd hm h0 h64 hw k
    have b := cs_hi hd hm h0 hw a
    rw [show ((0 + 1 : Nat) : Rat) = 1 from rfl, Rat.one_mul, Rat.one_mul]
    exact ⟨a, b⟩
  | i + 1, hi => by
    obtain ⟨p, q⟩ := csS_width (k := k) hd hm h0 h64 hw i (by omega)
    have a := cs_width hd hm h0 h64 hw i
    have b := cs_hi hd hm h0 hw a
    have r := RE_le h0 (show i + 1 ≤ k + 1 by omega)
    have r1 := Rat.mul_le_mul_of_nonneg_left r (show (0 : Rat) ≤ rp 2 105 by decide +kernel)
    have r2 := Rat.mul_le_mul_of_nonneg_right r (Rat.le_of_lt (rp2_pos w))
    show (((csS (spOf n d w) w k i).2 + (cs (spOf n d w) w i).2 : Nat) : Rat) ≤ (((csS (spOf n d w) w k i).1 + (cs (spOf n d w) w i).1 : Nat) : Rat) + _ ∧ (((csS (spOf n d w) w k i).2 + (cs (spOf n d w) w i).2 : Nat) : Rat) ≤ _
    rw [Rat.natCast_add, Rat.natCast_add (i + 1) 1, show ((1 : Nat) : Rat) = 1 from rfl]
    rw [Rat.natCast_add]
    constructor <;> grind
/-- the product is not wide -/
theorem told_width {s e : Sp} {w : Nat} {R : Rat} (hR0 : 1 ≤ R) (hR : R ≤ rp 2 102) (h1 : ((s.2 : Nat) : Rat) ≤ ((s.1 : Nat) : Rat) + 61 * (rp 2 105 * R)) (h2 : ((s.2 : Nat) : Rat) ≤ 61 * (2 * (R * rp 2 w))) (he : e.2 ≤ e.1 + 3) (hE : R * ((e.1 : Nat) : Rat) ≤ rp 2 w) : (spMul s e w).2 ≤ (spMul s e w).1 + 2 * 2 ^ 126 := by
  have hT := rp2_pos w
  have u := quo_le (s.2 * e.2) (pow_pos2 w)
  have l := lt_quo (s.1 * e.1) (pow_pos2 w)
  have he' := Rat.natCast_le_natCast.2 he
  rw [Rat.natCast_add] at he' l
  rw [← rp2_nat, Rat.natCast_mul] at u l
  rw [show ((3 : Nat) : Rat) = 3 from rfl] at he'
  rw [show ((1 : Nat) : Rat) = 1 from rfl] at l
  have s0 := nat_nn s.2
  have e0 := nat_nn e.1
  have a1 := Rat.mul_le_mul_of_nonneg_left he' s0
  have a2 := Rat.mul_le_mul_of_nonneg_right h1 e0
  have a3 := Rat.mul_le_mul_of_nonneg_left hE (show (0 : Rat) ≤ 61 * rp 2 105 by decide +kernel)
  have a4 := Rat.mul_le_mul_of_nonneg_right hR (Rat.le_of_lt hT)
  have key : (((s.2 * e.2 / 2 ^ w : Nat)) : Rat) ≤ ((s.1 * e.1 / 2 ^ w : Nat) : Rat) + 1 + (61 * rp 2 105 + 366 * rp 2 102) := by
    refine Rat.le_of_mul_le_mul_right (c := rp 2 w) ?_ hT
    grind
  have hc : 61 * rp 2 105 + 366 * rp 2 102 + 1 + 1 ≤ ((2 * 2 ^ 126 : Nat) : Rat) := by decide +kernel
  have : (((spMul s e w).2 : Nat) : Rat) ≤ (((spMul s e w).1 + 2 * 2 ^ 126 : Nat) : Rat) := by
    show ((s.2 * e.2 / 2 ^ w + 1 : Nat) : Rat) ≤ ((s.1 * e.1 / 2 ^ w + 2 * 2 ^ 126 : Nat) : Rat)
    rw [Rat.natCast_add, Rat.natCast_add, show ((1 : Nat) : Rat) = 1 from rfl]
    grind
  exact Rat.natCast_le_natCast.1 this
theorem told_narrow {a : Sp} {p : Nat} (h : a.2 ≤ a.1 + 2 * 2 ^ 126) : fr (a.2 / 2 ^ 126 + 1) (p + 2) ≤ fr (a.1 / 2 ^ 126) (p + 2) + fr 1 p := by
  have h1 : a.2 / 2 ^ 126 + 1 ≤ a.1 / 2 ^ 126 + 1 * 2 ^ 2 := by
    have : a.2 / 2 ^ 126 ≤ (a.1 + 2 * 2 ^ 126) / 2 ^ 126 := Nat.div_le_div_right h
    rw [Nat.add_mul_div_right _ _ (by omega)] at this
    omega
  rw [← fr_up 1 p 2, ← fr_add]
  exact fr_le h1 _
/-- the ends of e's power as whole numbers -/
theorem ends_three {x1 x2 : Rat} {f w n1 d1 n2 d2 : Nat} (h1 : x1 = fr f w) (h2 : x2 = fr (f + 1) w) (hd1 : 0 < d1) (hd2 : 0 < d2) (e1 : x1 * ((d1 : Nat) : Rat) = ((n1 : Nat) : Rat)) (e2 : x2 * ((d2 : Nat) : Rat) = ((n2 : Nat) : Rat)) : (spOf n2 d2 w).2 ≤ (spOf n1 d1 w).1 + 3 ∧ fr (spOf n1 d1 w).1 w ≤ x1 ∧ x2 ≤ fr (spOf n2 d2 w).2 w := by
  have a := cn_of hd1 e1 w
  have b := cn_of hd2 e2 w
  have c := a.2
  have d := b.1
  rw [h1, fr_mul] at c
  rw [h2, fr_mul] at d
  have c := Rat.natCast_le_natCast.1 c
  have d := Rat.natCast_le_natCast.1 d
  have c2 : (spOf n1 d1 w).2 = (spOf n1 d1 w).1 + 1 := rfl
  have d2 : (spOf n2 d2 w).2 = (spOf n2 d2 w).1 + 1 := rfl
  exact ⟨by omega, a.le.1, b.le.2⟩
end Go.Proofs.YtnjgliojkoeneaaGreat.P
