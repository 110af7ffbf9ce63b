/- The row of vernierref6 in whole numbers: it ends, and lies between. The row of vernierref7 in whole numbers: it ends, how large it is, on which side of 0 it lies. -/
import Derived.Test.YtjfaefgabaimaaaGreatPe
set_option linter.unusedSimpArgs false
set_option linter.unusedVariables false
namespace Go.Proofs.YtjfaefgabaimaaaGreat.P
def iless (a : Int) (n : Nat) : Int := a / ((2 ^ n : Nat) : Int)
def imore (a : Int) (n : Nat) : Int := -(-a / ((2 ^ n : Nat) : Int))
theorem pow_pos' (n : Nat) : (0 : Int) < ((2 ^ n : Nat) : Int) := by exact_mod_cast Nat.pow_pos (by omega)
theorem iless_ge {a c : Int} {n : Nat} (h : c * ((2 ^ n : Nat) : Int) ≤ a) : c ≤ iless a n := (Int.le_ediv_iff_mul_le (pow_pos' n)).2 h
theorem iless_le {a c : Int} {n : Nat} (h : a ≤ c * ((2 ^ n : Nat) : Int)) : iless a n ≤ c := by
  have h2 := Int.ediv_mul_le a (b := ((2 ^ n : Nat) : Int)) (by have := pow_pos' n; omega)
  have h3 : iless a n * ((2 ^ n : Nat) : Int) ≤ c * ((2 ^ n : Nat) : Int) := Int.le_trans h2 h
  exact Int.le_of_mul_le_mul_right h3 (pow_pos' n)
theorem imore_le {a c : Int} {n : Nat} (h : a ≤ c * ((2 ^ n : Nat) : Int)) : imore a n ≤ c := by
  have := iless_ge (a := -a) (c := -c) (n := n) (by rw [Int.neg_mul]; omega)
  unfold imore
  unfold iless at this
  omega
theorem imore_ge {a c : Int} {n : Nat} (h : c * ((2 ^ n : Nat) : Int) ≤ a) : c ≤ imore a n := by
  have := iless_le (a := -a) (c := -c) (n := n) (by rw [Int.neg_mul]; omega)
  unfold imore
  unfold iless at this
  omega
/-- the least, the greatest of four -/
def mn4 (p q r s : Int) : Int := min (min (min p q) r) s
def mx4 (p q r s : Int) : Int := max (max (max p q) r) s
def iprod (a b : Int × Int) (w : Nat) : Int × Int := (iless (mn4 (a.1 * b.1) (a.1 * b.2) (a.2 * b.1) (a.2 * b.2)) w, imore (mx4 (a.1 * b.1) (a.1 * b.2) (a.2 * b.1) (a.2 * b.2)) w)
def iby (a : Int × Int) (n : Nat) : Int × Int := (a.1 / (n : Int), -(-a.2 / (n : Int)))
def isum (a b : Int × Int) : Int × Int := (a.1 + b.1, a.2 + b.2)
def iwide (a : Int × Int) (n : Int) : Int × Int := (a.1 + -n, a.2 + n)
def imost (a : Int × Int) : Int := if (a.2.natAbs : Int) < a.1.natAbs then (a.1.natAbs : Int) else (a.2.natAbs : Int)
def iback (a : Int × Int) (n : Nat) : Int × Int := (iless a.1 n, imore a.2 n)
/-- both ends, without their signs, are at most A -/
def within (a : Int × Int) (A : Int) : Prop := (-A ≤ a.1 ∧ a.1 ≤ A) ∧ -A ≤ a.2 ∧ a.2 ≤ A
theorem imost_le {a : Int × Int} {A : Int} (h : within a A) : imost a ≤ A := by
  obtain ⟨h1, h2⟩ := h
  unfold imost
  split <;> omega
theorem mul_in {x y A B : Int} (h1 : -A ≤ x) (h2 : x ≤ A) (h3 : -B ≤ y) (h4 : y ≤ B) : -(A * B) ≤ x * y ∧ x * y ≤ A * B := by
  have hA : 0 ≤ A := by omega
  have hB : 0 ≤ B := by omega
  have a1 := Int.mul_nonneg (show 0 ≤ A - x by omega) (show 0 ≤ B - y by omega)
  have a2 := Int.mul_nonneg (show 0 ≤ A + x by omega) (show 0 ≤ B + y by omega)
  have a3 := Int.mul_nonneg (show 0 ≤ A - x by omega) (show 0 ≤ B + y by omega)
  have a4 := Int.mul_nonneg (show 0 ≤ A + x by omega) (show 0 ≤ B - y by omega)
  have e1 : (A - x) * (B - y) = A * B - A * y - x * B + x * y := by grind
  have e2 : (A + x) * (B + y) = A * B + A * y + x * B + x * y := by grind
  have e3 : (A - x) * (B + y) = A * B + A * y - x * B - x * y := by grind
  have e4 : (A + x) * (B - y) = A * B - A * y + x * B - x * y := by grind
  generalize (A - x) * (B - y) = t1 at *
  generalize (A + x) * (B + y) = t2 at *
  generalize (A - x) * (B + y) = t3 at *
  generalize (A + x) * (B - y) = t4 at *
  generalize A * B = u at *
  generalize A * y = u1 at *
  generalize x * B = u2 at *
  generalize x * y = u3 at *
  omega
theorem iprod_in {a b : Int × Int} {w : Nat} {A B C : Int} (ha : within a A) (hb : within b B) (h : A * B ≤ C * ((2 ^ w : Nat) : Int)) : within (iprod a b w) C := by
  obtain ⟨⟨a1, a2⟩, a3, a4⟩ := ha
  obtain ⟨⟨b1, b2⟩, b3, b4⟩ := hb
  have p := mul_in a1 a2 b1 b2
  have q := mul_in a1 a2 b3 b4
  have r := mul_in a3 a4 b1 b2
  have s := mul_in a3 a4 b3 b4
  have n1 : -(C * ((2 ^ w : Nat) : Int)) ≤ mn4 (a.1 * b.1) (a.1 * b.2) (a.2 * b.1) (a.2 * b.2) ∧ mn4 (a.1 * b.1) (a.1 * b.2) (a.2 * b.1) (a.2 * b.2) ≤ C * ((2 ^ w : Nat) : Int) := by unfold mn4; omega
  have n2 : -(C * ((2 ^ w : Nat) : Int)) ≤ mx4 (a.1 * b.1) (a.1 * b.2) (a.2 * b.1) (a.2 * b.2) ∧ mx4 (a.1 * b.1) (a.1 * b.2) (a.2 * b.1) (a.2 * b.2) ≤ C * ((2 ^ w : Nat) : Int) := by unfold mx4; omega
  exact ⟨⟨iless_ge (by rw [Int.neg_mul]; exact n1.1), iless_le n1.2⟩, imore_ge (by rw [Int.neg_mul]; exact n2.1), imore_le n2.2⟩
theorem idiv_in {x A C : Int} {n : Nat} (hn : 0 < n) (h1 : -A ≤ x) (h2 : x ≤ A) (h : A ≤ C * (n : Int)) : -C ≤ x / (n : Int) ∧ x / (n : Int) ≤ C := by
  have hp : (0 : Int) < (n : Int) := by omega
  refine ⟨(Int.le_ediv_iff_mul_le hp).2 (by rw [Int.neg_mul]; omega), ?_⟩
  have h3 := Int.ediv_mul_le x (b := (n : Int)) (by omega)
  exact Int.le_of_mul_le_mul_right (Int.le_trans h3 (Int.le_trans h2 h)) hp
theorem iby_in {a : Int × Int} {n : Nat} {A C : Int} (hn : 0 < n) (ha : within a A) (h : A ≤ C * (n : Int)) : within (iby a n) C := by
  obtain ⟨⟨a1, a2⟩, a3, a4⟩ := ha
  have p := idiv_in hn a1 a2 h
  have q := idiv_in (x := -a.2) hn (by omega) (by omega) h
  unfold within iby
  omega
theorem two_up (n : Nat) : ((2 ^ (n + 1) : Nat) : Int) = 2 * ((2 ^ n : Nat) : Int) := by rw [Nat.pow_succ]; omega
theorem two_add (m n : Nat) : ((2 ^ (m + n) : Nat) : Int) = ((2 ^ m : Nat) : Int) * ((2 ^ n : Nat) : Int) := by rw [Nat.pow_add]; exact Int.natCast_mul _ _
theorem two_mono {m n : Nat} (h : m ≤ n) : ((2 ^ m : Nat) : Int) ≤ ((2 ^ n : Nat) : Int) := by exact_mod_cast Nat.pow_le_pow_right (by omega) h
theorem iless_zero {z : Int} {m n : Nat} (h0 : 0 ≤ z) (h : z ≤ ((2 ^ m : Nat) : Int)) (hm : m < n) : iless z n = 0 := by
  unfold iless
  refine Int.ediv_eq_zero_of_lt h0 ?_
  have : ((2 ^ m : Nat) : Int) < ((2 ^ n : Nat) : Int) := by exact_mod_cast Nat.pow_lt_pow_right (by omega) hm
  omega
end Go.Proofs.YtjfaefgabaimaaaGreat.P
set_option linter.unusedSimpArgs false
set_option linter.unusedVariables false
namespace Go.Proofs.YtjfaefgabaimaaaGreat.P
def ioften (a : Int × Int) (n : Int) : Int × Int := (a.1 * n, a.2 * n)
def iminus (a b : Int × Int) : Int × Int := (a.1 + -b.2, a.2 + -b.1)
/-- the row: t is the last power, s the sum, q the square -/
def lgGo (W : Nat) (q : Int × Int) : Nat → Nat → Int × Int → Int × Int → Int × Int
  | 0, _, _, s => s
  | f + 1, i, t, s =>
    if imost (iprod t q W) ≤ 2 then ioften (iwide (isum s (iby (iprod t q W) (2 * i + 1))) 4) 2
    else lgGo W q f (i + 1) (iprod t q W) (isum s (iby (iprod t q W) (2 * i + 1)))
def lgIv (y : Int × Int) (W : Nat) : Int × Int := lgGo W (iprod y y W) (W + 5) 1 y y
/-- all is well at the beginning of a round -/
structure LgAt (W : Nat) (c : Nat) (B : Int) (i e : Nat) (t s : Int × Int) (D : Int) : Prop where
  i1 : 1 ≤ i
  ie : i + e ≤ W + 1
  e2 : 2 ≤ e
  te : within t ((2 ^ e : Nat) : Int)
  se : within s D
  d0 : 0 ≤ D
  dB : (((2 ^ c : Nat) : Int) - 1) * D + ((2 ^ e : Nat) : Int) ≤ B
theorem lg_next {W c e : Nat} {q t : Int × Int} (hc : c ≤ W) (hq : within q ((2 ^ (W - c) : Nat) : Int)) (ht : within t ((2 ^ e : Nat) : Int)) :
    (c ≤ e → within (iprod t q W) ((2 ^ (e - c) : Nat) : Int)) ∧ (e ≤ c → within (iprod t q W) 1) := by
  refine ⟨fun h => iprod_in ht hq ?_, fun h => iprod_in ht hq ?_⟩
  · rw [← two_add, ← two_add, show e + (W - c) = e - c + W by omega]
    exact Int.le_refl _
  · rw [← two_add, Int.one_mul]
    exact two_mono (by omega)
theorem iby_mono {a : Int × Int} {n : Nat} {A : Int} (hn : 0 < n) (h0 : 0 ≤ A) (h : within a A) : within (iby a n) A := by
  refine iby_in hn h ?_
  have := Int.mul_le_mul_of_nonneg_left (show (1 : Int) ≤ (n : Int) by omega) h0
  omega
theorem isum_in {a b : Int × Int} {A B : Int} (h : within a A) (k : within b B) : within (isum a b) (A + B) := by
  unfold within isum at *
  simp only
  omega
theorem lg_step {W c i e : Nat} {B D : Int} {q t s : Int × Int} (hc : c ≤ W) (hc1 : 1 ≤ c) (hq : within q ((2 ^ (W - c) : Nat) : Int)) (h : LgAt W c B i e t s D) :
    (∃ D', 0 ≤ D' ∧ (((2 ^ c : Nat) : Int) - 1) * D' ≤ B + ((2 ^ c : Nat) : Int) ∧ within (isum s (iby (iprod t q W) (2 * i + 1))) D') ∧
    within (iprod t q W) ((2 ^ e : Nat) : Int) ∧
    (¬ imost (iprod t q W) ≤ 2 → ∃ e' D', e' < e ∧ LgAt W c B (i + 1) e' (iprod t q W) (isum s (iby (iprod t q W) (2 * i + 1))) D') := by
  obtain ⟨i1, ie, e2, te, se, d0, dB⟩ := h
  obtain ⟨n1, n2⟩ := lg_next hc hq te
  have hM : (2 : Int) ≤ ((2 ^ c : Nat) : Int) := two_mono (m := 1) hc1
  have he0 := pow_pos' e
  generalize hu : iprod t q W = u at *
  by_cases hce : c ≤ e
  · have m1 := n1 hce
    have hz := pow_pos' (e - c)
    have hs : ((2 ^ c : Nat) : Int) * ((2 ^ (e - c) : Nat) : Int) = ((2 ^ e : Nat) : Int) := by
      rw [← two_add, show c + (e - c) = e by omega]
    have m2 := isum_in se (iby_mono (n := 2 * i + 1) (by omega) (Int.le_of_lt hz) m1)
    have hme : ((2 ^ (e - c) : Nat) : Int) ≤ ((2 ^ e : Nat) : Int) := two_mono (by omega)
    have key : (((2 ^ c : Nat) : Int) - 1) * (D + ((2 ^ (e - c) : Nat) : Int)) = (((2 ^ c : Nat) : Int) - 1) * D + ((2 ^ e : Nat) : Int) - ((2 ^ (e - c) : Nat) : Int) := by
      rw [← hs]; grind
    refine ⟨⟨D + ((2 ^ (e - c) : Nat) : Int), by omega, by rw [key]; omega, m2⟩, by unfold within at *; omega, fun hm => ⟨e - c, D + ((2 ^ (e - c) : Nat) : Int), by omega, ?_⟩⟩
    have e5 : 2 ≤ e - c := by
      rcases Nat.lt_or_ge (e - c) 2 with h5 | h5
      · exfalso
        have h6 : ((2 ^ (e - c) : Nat) : Int) ≤ 2 := by
          have := two_mono (m := e - c) (n := 1) (by omega)
          simpa using this
        exact hm (imost_le (a := u) (A := 2) (by unfold within at *; omega))
      · exact h5
    exact ⟨by omega, by omega, e5, m1, m2, by omega, by rw [key]; omega⟩
  · have m1 := n2 (by omega)
    have m2 := isum_in se (iby_mono (n := 2 * i + 1) (by omega) (show (0 : Int) ≤ 1 by omega) m1)
    have key : (((2 ^ c : Nat) : Int) - 1) * (D + 1) = (((2 ^ c : Nat) : Int) - 1) * D + (((2 ^ c : Nat) : Int) - 1) := by grind
    refine ⟨⟨D + 1, by omega, by rw [key]; omega, m2⟩, by unfold within at *; omega, fun hm => ?_⟩
    exact absurd (imost_le (a := u) (A := 2) (by unfold within at *; omega)) hm
/-- how large the row is -/
theorem lgGo_in {W c : Nat} {B : Int} {q : Int × Int} (hc : c ≤ W) (hc1 : 1 ≤ c) (hB : 0 ≤ B) (hq : within q ((2 ^ (W - c) : Nat) : Int)) : ∀ (f i e : Nat) (t s : Int × Int) (D : Int), e + 1 ≤ f → LgAt W c B i e t s D →
    ∃ D', 0 ≤ D' ∧ (((2 ^ c : Nat) : Int) - 1) * D' ≤ B + ((2 ^ c : Nat) : Int) ∧ within (lgGo W q f i t s) (2 * (D' + 4))
  | 0, i, e, t, s, D, hf, _ => by omega
  | f + 1, i, e, t, s, D, hf, h => by
    obtain ⟨⟨D', d0, d1, d2⟩, _, h2⟩ := lg_step hc hc1 hq h
    unfold lgGo
    split
    · refine ⟨D', d0, d1, ?_⟩
      unfold within ioften iwide at *
      simp only
      omega
    · rename_i hm
      obtain ⟨e', D2, he, h3⟩ := h2 hm
      exact lgGo_in hc hc1 hB hq f (i + 1) e' _ _ D2 (by omega) h3
theorem lg_start {W c e : Nat} {y : Int × Int} (h2 : 2 ≤ e) (he : e ≤ W) (hy : within y ((2 ^ e : Nat) : Int)) : LgAt W c (((2 ^ (c + e) : Nat) : Int)) 1 e y y ((2 ^ e : Nat) : Int) :=
  ⟨by omega, by omega, h2, hy, hy, Int.le_of_lt (pow_pos' e), by rw [two_add]; grind⟩
theorem sq_in {W c e : Nat} {y : Int × Int} (h : 2 * e + c ≤ 2 * W) (hc : c ≤ W) (hy : within y ((2 ^ e : Nat) : Int)) : within (iprod y y W) ((2 ^ (W - c) : Nat) : Int) := by
  refine iprod_in hy hy ?_
  rw [← two_add, ← two_add]
  exact two_mono (by omega)
def pos (a : Int × Int) : Prop := 0 ≤ a.1 ∧ 0 ≤ a.2
def neg (a : Int × Int) : Prop := a.1 ≤ 0 ∧ a.2 ≤ 0
theorem iprod_pos {a b : Int × Int} (W : Nat) (h : pos a) (k : pos b) : pos (iprod a b W) := by
  obtain ⟨a1, a2⟩ := h
  obtain ⟨b1, b2⟩ := k
  have p := Int.mul_nonneg a1 b1
  have q := Int.mul_nonneg a1 b2
  have r := Int.mul_nonneg a2 b1
  have s := Int.mul_nonneg a2 b2
  exact ⟨iless_ge (by rw [Int.zero_mul]; unfold mn4; omega), imore_ge (by rw [Int.zero_mul]; unfold mx4; omega)⟩
theorem iprod_neg {a b : Int × Int} (W : Nat) (h : neg a) (k : pos b) : neg (iprod a b W) := by
  obtain ⟨a1, a2⟩ := h
  obtain ⟨b1, b2⟩ := k
  have p := Int.mul_nonpos_of_nonpos_of_nonneg a1 b1
  have q := Int.mul_nonpos_of_nonpos_of_nonneg a1 b2
  have r := Int.mul_nonpos_of_nonpos_of_nonneg a2 b1
  have s := Int.mul_nonpos_of_nonpos_of_nonneg a2 b2
  exact ⟨iless_le (by rw [Int.zero_mul]; unfold mn4; omega), imore_le (by rw [Int.zero_mul]; unfold mx4; omega)⟩
theorem iprod_negneg {a b : Int × Int} (W : Nat) (h : neg a) (k : neg b) : pos (iprod a b W) := by
  obtain ⟨a1, a2⟩ := h
  obtain ⟨b1, b2⟩ := k
  have p := Int.mul_nonneg_of_nonpos_of_nonpos a1 b1
  have q := Int.mul_nonneg_of_nonpos_of_nonpos a1 b2
  have r := Int.mul_nonneg_of_nonpos_of_nonpos a2 b1
  have s := Int.mul_nonneg_of_nonpos_of_nonpos a2 b2
  exact ⟨iless_ge (by rw [Int.zero_mul]; unfold mn4; omega), imore_ge (by rw [Int.zero_mul]; unfold mx4; omega)⟩
theorem iby_pos {a : Int × Int} {n : Nat} (hn : 0 < n) (h : pos a) : pos (iby a n) := by
  obtain ⟨a1, a2⟩ := h
  have p := Int.ediv_nonneg a1 (show (0 : Int) ≤ (n : Int) by omega)
  have q : -a.2 / (n : Int) ≤ 0 := by
    have h2 := Int.ediv_mul_le (-a.2) (b := (n : Int)) (by omega)
    exact Int.le_of_mul_le_mul_right (show -a.2 / (n : Int) * (n : Int) ≤ 0 * (n : Int) by rw [Int.zero_mul]; omega) (show (0 : Int) < (n : Int) by omega)
  unfold pos iby
  simp only
  omega
theorem iby_neg {a : Int × Int} {n : Nat} (hn : 0 < n) (h : neg a) : neg (iby a n) := by
  obtain ⟨a1, a2⟩ := h
  have p := Int.ediv_nonneg (show 0 ≤ -a.2 by omega) (show (0 : Int) ≤ (n : Int) by omega)
  have q : a.1 / (n : Int) ≤ 0 := by
    have h2 := Int.ediv_mul_le a.1 (b := (n : Int)) (by omega)
    exact Int.le_of_mul_le_mul_right (show a.1 / (n : Int) * (n : Int) ≤ 0 * (n : Int) by rw [Int.zero_mul]; omega) (show (0 : Int) < (n : Int) by omega)
  unfold neg iby
  simp only
  omega
/-- a row of numbers not below 0 -/
theorem lgGo_ge {W c : Nat} {B u v : Int} {q : Int × Int} (hc : c ≤ W) (hc1 : 1 ≤ c) (hq : within q ((2 ^ (W - c) : Nat) : Int)) (hp : pos q) : ∀ (f i e : Nat) (t s : Int × Int) (D : Int), e + 1 ≤ f → LgAt W c B i e t s D → pos t → u ≤ s.1 → v ≤ s.2 →
    2 * (u - 4) ≤ (lgGo W q f i t s).1 ∧ 2 * (v + 4) ≤ (lgGo W q f i t s).2
  | 0, i, e, t, s, D, hf, _, _, _, _ => by omega
  | f + 1, i, e, t, s, D, hf, h, ht, h1, h2 => by
    obtain ⟨_, _, h3⟩ := lg_step hc hc1 hq h
    have p1 := iprod_pos W ht hp
    have p2 := iby_pos (n := 2 * i + 1) (by omega) p1
    unfold lgGo
    split
    · unfold pos at p2
      unfold ioften iwide isum
      simp only
      omega
    · rename_i hm
      obtain ⟨e', D2, he, h4⟩ := h3 hm
      refine lgGo_ge hc hc1 hq hp f (i + 1) e' _ _ D2 (by omega) h4 p1 ?_ ?_
      all_goals
        unfold pos at p2
        unfold isum
        simp only
        omega
/-- a row of numbers not above 0 -/
theorem lgGo_le {W c : Nat} {B u v : Int} {q : Int × Int} (hc : c ≤ W) (hc1 : 1 ≤ c) (hq : within q ((2 ^ (W - c) : Nat) : Int)) (hp : pos q) : ∀ (f i e : Nat) (t s : Int × Int) (D : Int), e + 1 ≤ f → LgAt W c B i e t s D → neg t → s.1 ≤ u → s.2 ≤ v →
    (lgGo W q f i t s).1 ≤ 2 * (u - 4) ∧ (lgGo W q f i t s).2 ≤ 2 * (v + 4)
  | 0, i, e, t, s, D, hf, _, _, _, _ => by omega
  | f + 1, i, e, t, s, D, hf, h, ht, h1, h2 => by
    obtain ⟨_, _, h3⟩ := lg_step hc hc1 hq h
    have p1 := iprod_neg W ht hp
    have p2 := iby_neg (n := 2 * i + 1) (by omega) p1
    unfold lgGo
    split
    · unfold neg at p2
      unfold ioften iwide isum
      simp only
      omega
    · rename_i hm
      obtain ⟨e', D2, he, h4⟩ := h3 hm
      refine lgGo_le hc hc1 hq hp f (i + 1) e' _ _ D2 (by omega) h4 p1 ?_ ?_
      all_goals
        unfold neg at p2
        unfold isum
        simp only
        omega
/-- the row's size: y at most a half -/
theorem lgIv_in {W : Nat} {y : Int × Int} (hW : 20 ≤ W) (hy : within y ((2 ^ (W - 1) : Nat) : Int)) : within (lgIv y W) ((2 ^ (W + 1) : Nat) : Int) := by
  obtain ⟨D, d0, d1, d2⟩ := lgGo_in (W := W) (c := 2) (B := ((2 ^ (2 + (W - 1)) : Nat) : Int)) (by omega) (by omega) (Int.le_of_lt (pow_pos' _)) (sq_in (c := 2) (e := W - 1) (by omega) (by omega) hy) (W + 5) 1 (W - 1) y y _ (by omega) (lg_start (by omega) (by omega) hy)
  rw [show 2 + (W - 1) = W + 1 by omega] at d1
  have h4 : ((2 ^ 2 : Nat) : Int) = 4 := by decide
  have h5 : (1024 : Int) ≤ ((2 ^ (W + 1) : Nat) : Int) := two_mono (m := 10) (by omega)
  rw [h4] at d1
  unfold lgIv
  unfold within at *
  omega
/-- the row's size: y at most a quarter -/
theorem lgIv_in' {W : Nat} {y : Int × Int} (hW : 20 ≤ W) (hy : within y ((2 ^ (W - 2) : Nat) : Int)) : ∃ D : Int, 15 * D ≤ 8 * ((2 ^ W : Nat) : Int) + 152 ∧ within (lgIv y W) D := by
  obtain ⟨D, d0, d1, d2⟩ := lgGo_in (W := W) (c := 4) (B := ((2 ^ (4 + (W - 2)) : Nat) : Int)) (by omega) (by omega) (Int.le_of_lt (pow_pos' _)) (sq_in (c := 4) (e := W - 2) (by omega) (by omega) hy) (W + 5) 1 (W - 2) y y _ (by omega) (lg_start (by omega) (by omega) hy)
  have h4 : ((2 ^ 4 : Nat) : Int) = 16 := by decide
  have h5 : ((2 ^ (4 + (W - 2)) : Nat) : Int) = 4 * ((2 ^ W : Nat) : Int) := by
    rw [show 4 + (W - 2) = 2 + W by omega, two_add]; rfl
  rw [h4, h5] at d1
  exact ⟨2 * (D + 4), by omega, d2⟩
theorem lgIv_ge {W : Nat} {y : Int × Int} (hW : 20 ≤ W) (hy : within y ((2 ^ (W - 1) : Nat) : Int)) (hp : pos y) : 2 * (y.1 - 4) ≤ (lgIv y W).1 ∧ 2 * (y.2 + 4) ≤ (lgIv y W).2 :=
  lgGo_ge (c := 2) (B := ((2 ^ (2 + (W - 1)) : Nat) : Int)) (by omega) (by omega) (sq_in (c := 2) (e := W - 1) (by omega) (by omega) hy) (iprod_pos W hp hp) (W + 5) 1 (W - 1) y y _ (by omega) (lg_start (by omega) (by omega) hy) hp (Int.le_refl _) (Int.le_refl _)
theorem lgIv_le {W : Nat} {y : Int × Int} (hW : 20 ≤ W) (hy : within y ((2 ^ (W - 1) : Nat) : Int)) (hn : neg y) : (lgIv y W).1 ≤ 2 * (y.1 - 4) ∧ (lgIv y W).2 ≤ 2 * (y.2 + 4) :=
  lgGo_le (c := 2) (B := ((2 ^ (2 + (W - 1)) : Nat) : Int)) (by omega) (by omega) (sq_in (c := 2) (e := W - 1) (by omega) (by omega) hy) (iprod_negneg W hn hn) (W + 5) 1 (W - 1) y y _ (by omega) (lg_start (by omega) (by omega) hy) hn (Int.le_refl _) (Int.le_refl _)
/-- far above or far below 0 -/
def clear (r : Int × Int) : Prop := 0 ≤ r.1 ∧ 0 ≤ r.2 ∨ r.1 < 0 ∧ r.2 ≤ -1048576
/-- beyond all digits: it is certain -/
theorem iless_all {z : Int} {m n : Nat} (h0 : -((2 ^ m : Nat) : Int) ≤ z) (h : z < 0) (hm : m ≤ n) : iless z n = -1 := by
  have h1 : ((2 ^ m : Nat) : Int) ≤ ((2 ^ n : Nat) : Int) := two_mono hm
  have h2 := pow_pos' n
  have a := iless_ge (a := z) (c := -1) (n := n) (by omega)
  have b : iless z n < 0 := Int.ediv_neg_of_neg_of_pos h h2
  omega
theorem clear_back {r : Int × Int} {m n : Nat} (h : clear r) (hr : within r ((2 ^ m : Nat) : Int)) (h20 : 20 ≤ m) (hm : m < n + 20) : iless (iback r 20).1 n = iless (iback r 20).2 n := by
  obtain ⟨⟨r1, r2⟩, r3, r4⟩ := hr
  have e20 : ((2 ^ 20 : Nat) : Int) = 1048576 := by decide
  have hz := pow_pos' m
  have hk : ((2 ^ m : Nat) : Int) = ((2 ^ (m - 20) : Nat) : Int) * ((2 ^ 20 : Nat) : Int) := by
    rw [← two_add, show m - 20 + 20 = m by omega]
  have hk1 : m - 20 < n := by omega
  have a1 : iless r.1 20 ≤ ((2 ^ (m - 20) : Nat) : Int) := iless_le (by omega)
  have a2 : -((2 ^ (m - 20) : Nat) : Int) ≤ iless r.1 20 := iless_ge (by rw [Int.neg_mul]; omega)
  have b1 : imore r.2 20 ≤ ((2 ^ (m - 20) : Nat) : Int) := imore_le (by omega)
  have b2 : -((2 ^ (m - 20) : Nat) : Int) ≤ imore r.2 20 := imore_ge (by rw [Int.neg_mul]; omega)
  rcases h with ⟨c1, c2⟩ | ⟨c1, c2⟩
  · have d1 : 0 ≤ iless r.1 20 := iless_ge (by omega)
    have d2 : 0 ≤ imore r.2 20 := imore_ge (by omega)
    show iless (iless r.1 20) n = iless (imore r.2 20) n
    rw [iless_zero d1 a1 hk1, iless_zero d2 b1 hk1]
  · have d1 : iless r.1 20 < 0 := Int.ediv_neg_of_neg_of_pos c1 (pow_pos' 20)
    have d2 : imore r.2 20 ≤ -1 := imore_le (by omega)
    show iless (iless r.1 20) n = iless (imore r.2 20) n
    rw [iless_all a2 d1 (by omega), iless_all b2 (by omega) (by omega)]
/-- the row of a number that is not small, and so many times the row of two -/
theorem often_ge {two : Int × Int} {k : Int} {W : Nat} (hk : 1 ≤ k) (ht : ((2 ^ W : Nat) : Int) * 2 ≤ 3 * two.1 + 28 ∧ ((2 ^ W : Nat) : Int) * 2 ≤ 3 * two.2 + 28) (hW : 40 ≤ W) : two.1 ≤ (ioften two k).1 ∧ two.2 ≤ (ioften two k).2 := by
  have h1 : (1024 : Int) ≤ ((2 ^ W : Nat) : Int) := two_mono (m := 10) (by omega)
  have a := Int.mul_le_mul_of_nonneg_left hk (show 0 ≤ two.1 by omega)
  have b := Int.mul_le_mul_of_nonneg_left hk (show 0 ≤ two.2 by omega)
  unfold ioften
  simp only
  omega
theorem lg_clear_sum {r two : Int × Int} {k D : Int} {W : Nat} (hW : 40 ≤ W) (hr : within r D) (hD : 15 * D ≤ 8 * ((2 ^ W : Nat) : Int) + 152) (hk : 1 ≤ k) (ht : ((2 ^ W : Nat) : Int) * 2 ≤ 3 * two.1 + 28 ∧ ((2 ^ W : Nat) : Int) * 2 ≤ 3 * two.2 + 28) : clear (isum r (ioften two k)) := by
  obtain ⟨a, b⟩ := often_ge hk ht hW
  have h1 : (1073741824 : Int) ≤ ((2 ^ W : Nat) : Int) := two_mono (m := 30) (by omega)
  generalize ioften two k = u at *
  unfold within at hr
  unfold clear isum
  simp only
  omega
theorem lg_clear_minus {r two : Int × Int} {k D : Int} {W : Nat} (hW : 40 ≤ W) (hr : within r D) (hD : 15 * D ≤ 8 * ((2 ^ W : Nat) : Int) + 152) (hk : 1 ≤ k) (ht : ((2 ^ W : Nat) : Int) * 2 ≤ 3 * two.1 + 28 ∧ ((2 ^ W : Nat) : Int) * 2 ≤ 3 * two.2 + 28) : clear (iminus r (ioften two k)) := by
  obtain ⟨a, b⟩ := often_ge hk ht hW
  have h1 : (1073741824 : Int) ≤ ((2 ^ W : Nat) : Int) := two_mono (m := 30) (by omega)
  generalize ioften two k = u at *
  unfold within at hr
  unfold clear iminus
  simp only
  omega
theorem ioften_in {a : Int × Int} {A k K : Int} (h : within a A) (h0 : 0 ≤ k) (hk : k ≤ K) : within (ioften a k) (A * K) := by
  obtain ⟨⟨a1, a2⟩, a3, a4⟩ := h
  have p := mul_in a1 a2 (show -K ≤ k by omega) hk
  have q := mul_in a3 a4 (show -K ≤ k by omega) hk
  exact ⟨p, q⟩
theorem iminus_in {a b : Int × Int} {A B : Int} (h : within a A) (k : within b B) : within (iminus a b) (A + B) := by
  unfold within iminus at *
  simp only
  omega
end Go.Proofs.YtjfaefgabaimaaaGreat.P
