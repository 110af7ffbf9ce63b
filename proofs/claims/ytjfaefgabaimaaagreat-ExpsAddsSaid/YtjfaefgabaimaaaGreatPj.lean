/- The row of vernierref6 in whole numbers: it ends, and lies between. -/
import Derived.Test.YtjfaefgabaimaaaGreatPe
set_option linter.unusedSimpArgs false
set_option linter.unusedVariables false
namespace Go.Proofs.YtjfaefgabaimaaaGreat.P

def iless (a : Int) (n : Nat) : Int := a / ((2 ^ n : Nat) : Int)
def imore (a : Int) (n : Nat) : Int := -(-a / ((2 ^ n : Nat) : Int))

theorem pow_pos' (n : Nat) : (0 : Int) < ((2 ^ n : Nat) : Int) := by exact_mod_cast Nat.pow_pos (by omega)

theorem iless_ge {a c : Int} {n : Nat} (h : c * ((2 ^ n : Nat) : Int) ≤ a) : c ≤ iless a n := (Int.le_ediv_iff_mul_le (pow_pos' n)).2 h
theorem iless_le {a c : Int} {n : Nat} (h : a ≤ c * ((2 ^ n : Nat) : Int)) : iless a n ≤ c := by
  have h2 := Int.ediv_mul_le a (b := ((2 ^ n : Nat) : Int)) (by have := pow_pos' n; omega)
  have h3 : iless a n * ((2 ^ n : Nat) : Int) ≤ c * ((2 ^ n : Nat) : Int) := Int.le_trans h2 h
  exact Int.le_of_mul_le_mul_right h3 (pow_pos' n)
theorem imore_le {a c : Int} {n : Nat} (h : a ≤ c * ((2 ^ n : Nat) : Int)) : imore a n ≤ c := by
  have := iless_ge (a := -a) (c := -c) (n := n) (by rw [Int.neg_mul]; omega)
  unfold imore
  unfold iless at this
  omega
theorem imore_ge {a c : Int} {n : Nat} (h : c * ((2 ^ n : Nat) : Int) ≤ a) : c ≤ imore a n := by
  have := iless_le (a := -a) (c := -c) (n := n) (by rw [Int.neg_mul]; omega)
  unfold imore
  unfold iless at this
  omega

/-- the least, the greatest of four -/
def mn4 (p q r s : Int) : Int := min (min (min p q) r) s
def mx4 (p q r s : Int) : Int := max (max (max p q) r) s
def iprod (a b : Int × Int) (w : Nat) : Int × Int := (iless (mn4 (a.1 * b.1) (a.1 * b.2) (a.2 * b.1) (a.2 * b.2)) w, imore (mx4 (a.1 * b.1) (a.1 * b.2) (a.2 * b.1) (a.2 * b.2)) w)
def iby (a : Int × Int) (n : Nat) : Int × Int := (a.1 / (n : Int), -(-a.2 / (n : Int)))
def isum (a b : Int × Int) : Int × Int := (a.1 + b.1, a.2 + b.2)
def iwide (a : Int × Int) (n : Int) : Int × Int := (a.1 + -n, a.2 + n)
def imost (a : Int × Int) : Int := if (a.2.natAbs : Int) < a.1.natAbs then (a.1.natAbs : Int) else (a.2.natAbs : Int)
def iback (a : Int × Int) (n : Nat) : Int × Int := (iless a.1 n, imore a.2 n)

/-- both ends, without their signs, are at most A -/
def within (a : Int × Int) (A : Int) : Prop := (-A ≤ a.1 ∧ a.1 ≤ A) ∧ -A ≤ a.2 ∧ a.2 ≤ A
theorem imost_le {a : Int × Int} {A : Int} (h : within a A) : imost a ≤ A := by
  obtain ⟨h1, h2⟩ := h
  unfold imost
  split <;> omega
theorem imost_in {a : Int × Int} {A : Int} (h : imost a ≤ A) : within a A := by
  unfold imost at h
  unfold within
  split at h <;> omega
theorem mul_in {x y A B : Int} (h1 : -A ≤ x) (h2 : x ≤ A) (h3 : -B ≤ y) (h4 : y ≤ B) : -(A * B) ≤ x * y ∧ x * y ≤ A * B := by
  have hA : 0 ≤ A := by omega
  have hB : 0 ≤ B := by omega
  have a1 := Int.mul_nonneg (show 0 ≤ A - x by omega) (show 0 ≤ B - y by omega)
  have a2 := Int.mul_nonneg (show 0 ≤ A + x by omega) (show 0 ≤ B + y by omega)
  have a3 := Int.mul_nonneg (show 0 ≤ A - x by omega) (show 0 ≤ B + y by omega)
  have a4 := Int.mul_nonneg (show 0 ≤ A + x by omega) (show 0 ≤ B - y by omega)
  have e1 : (A - x) * (B - y) = A * B - A * y - x * B + x * y := by grind
  have e2 : (A + x) * (B + y) = A * B + A * y + x * B + x * y := by grind
  have e3 : (A - x) * (B + y) = A * B + A * y - x * B - x * y := by grind
  have e4 : (A + x) * (B - y) = A * B - A * y + x * B - x * y := by grind
  generalize (A - x) * (B - y) = t1 at *
  generalize (A + x) * (B + y) = t2 at *
  generalize (A - x) * (B + y) = t3 at *
  generalize (A + x) * (B - y) = t4 at *
  generalize A * B = u at *
  generalize A * y = u1 at *
  generalize x * B = u2 at *
  generalize x * y = u3 at *
  omega
theorem iprod_in {a b : Int × Int} {w : Nat} {A B C : Int} (ha : within a A) (hb : within b B) (h : A * B ≤ C * ((2 ^ w : Nat) : Int)) : within (iprod a b w) C := by
  obtain ⟨⟨a1, a2⟩, a3, a4⟩ := ha
  obtain ⟨⟨b1, b2⟩, b3, b4⟩ := hb
  have p := mul_in a1 a2 b1 b2
  have q := mul_in a1 a2 b3 b4
  have r := mul_in a3 a4 b1 b2
  have s := mul_in a3 a4 b3 b4
  have n1 : -(C * ((2 ^ w : Nat) : Int)) ≤ mn4 (a.1 * b.1) (a.1 * b.2) (a.2 * b.1) (a.2 * b.2) ∧ mn4 (a.1 * b.1) (a.1 * b.2) (a.2 * b.1) (a.2 * b.2) ≤ C * ((2 ^ w : Nat) : Int) := by unfold mn4; omega
  have n2 : -(C * ((2 ^ w : Nat) : Int)) ≤ mx4 (a.1 * b.1) (a.1 * b.2) (a.2 * b.1) (a.2 * b.2) ∧ mx4 (a.1 * b.1) (a.1 * b.2) (a.2 * b.1) (a.2 * b.2) ≤ C * ((2 ^ w : Nat) : Int) := by unfold mx4; omega
  exact ⟨⟨iless_ge (by rw [Int.neg_mul]; exact n1.1), iless_le n1.2⟩, imore_ge (by rw [Int.neg_mul]; exact n2.1), imore_le n2.2⟩
theorem idiv_in {x A C : Int} {n : Nat} (hn : 0 < n) (h1 : -A ≤ x) (h2 : x ≤ A) (h : A ≤ C * (n : Int)) : -C ≤ x / (n : Int) ∧ x / (n : Int) ≤ C := by
  have hp : (0 : Int) < (n : Int) := by omega
  refine ⟨(Int.le_ediv_iff_mul_le hp).2 (by rw [Int.neg_mul]; omega), ?_⟩
  have h3 := Int.ediv_mul_le x (b := (n : Int)) (by omega)
  exact Int.le_of_mul_le_mul_right (Int.le_trans h3 (Int.le_trans h2 h)) hp
theorem iby_in {a : Int × Int} {n : Nat} {A C : Int} (hn : 0 < n) (ha : within a A) (h : A ≤ C * (n : Int)) : within (iby a n) C := by
  obtain ⟨⟨a1, a2⟩, a3, a4⟩ := ha
  have p := idiv_in hn a1 a2 h
  have q := idiv_in (x := -a.2) hn (by omega) (by omega) h
  unfold within iby
  omega

/-- the row: t is the last part, s the sum -/
def rowGo (W : Nat) (y : Int × Int) : Nat → Nat → Int × Int → Int × Int → Int × Int
  | 0, _, _, s => s
  | f + 1, i, t, s =>
    if imost (iby (iprod t y W) i) ≤ 2 then iwide (isum s (iby (iprod t y W) i)) 4
    else rowGo W y f (i + 1) (iby (iprod t y W) i) (isum s (iby (iprod t y W) i))
def oneI (W : Nat) : Int × Int := (((2 ^ W : Nat) : Int), ((2 ^ W : Nat) : Int))
def rowIv (y : Int × Int) (W : Nat) : Int × Int := rowGo W y (W + 5) 1 (oneI W) (oneI W)

/-- all is well at the beginning of a round -/
structure RowAt (W : Nat) (i e : Nat) (t s : Int × Int) (D : Int) : Prop where
  i1 : 1 ≤ i
  ie : i + e ≤ W + 1
  e2 : 2 ≤ e
  te : within t ((2 ^ e : Nat) : Int)
  s1 : -D ≤ s.1 - ((2 ^ W : Nat) : Int) ∧ s.1 - ((2 ^ W : Nat) : Int) ≤ D
  s2 : -D ≤ s.2 - ((2 ^ W : Nat) : Int) ∧ s.2 - ((2 ^ W : Nat) : Int) ≤ D
  d0 : 0 ≤ D
  dd : i = 1 ∧ e = W ∧ D = 0 ∨ 2 ≤ i ∧ 7 * D ≤ 2 * ((2 ^ W : Nat) : Int) - ((2 ^ e : Nat) : Int)

theorem two_up (n : Nat) : ((2 ^ (n + 1) : Nat) : Int) = 2 * ((2 ^ n : Nat) : Int) := by rw [Nat.pow_succ]; omega
theorem two_add (m n : Nat) : ((2 ^ (m + n) : Nat) : Int) = ((2 ^ m : Nat) : Int) * ((2 ^ n : Nat) : Int) := by rw [Nat.pow_add]; exact Int.natCast_mul _ _
theorem two_mono {m n : Nat} (h : m ≤ n) : ((2 ^ m : Nat) : Int) ≤ ((2 ^ n : Nat) : Int) := by exact_mod_cast Nat.pow_le_pow_right (by omega) h

/-- the next part -/
theorem next_in {W i e : Nat} {y t : Int × Int} (hW : 10 ≤ W) (hy : within y ((2 ^ (W - 2) : Nat) : Int)) (hi : 1 ≤ i) (he : 2 ≤ e) (ht : within t ((2 ^ e : Nat) : Int)) :
    within (iby (iprod t y W) i) ((2 ^ (e - 2) : Nat) : Int) ∧ (2 ≤ i → 3 ≤ e → within (iby (iprod t y W) i) ((2 ^ (e - 3) : Nat) : Int)) := by
  have hp : within (iprod t y W) ((2 ^ (e - 2) : Nat) : Int) := by
    refine iprod_in ht hy ?_
    rw [← two_add, ← two_add, show e + (W - 2) = e - 2 + W by omega]
    exact Int.le_refl _
  have hz := pow_pos' (e - 2)
  refine ⟨iby_in hi hp ?_, fun h2 h3 => iby_in (by omega) hp ?_⟩
  · have : ((2 ^ (e - 2) : Nat) : Int) * 1 ≤ ((2 ^ (e - 2) : Nat) : Int) * (i : Int) := Int.mul_le_mul_of_nonneg_left (by omega) (by omega)
    omega
  · have h4 := two_up (e - 3)
    rw [show e - 3 + 1 = e - 2 by omega] at h4
    have hz3 := pow_pos' (e - 3)
    have : ((2 ^ (e - 3) : Nat) : Int) * 2 ≤ ((2 ^ (e - 3) : Nat) : Int) * (i : Int) := Int.mul_le_mul_of_nonneg_left (by omega) (by omega)
    omega

theorem row_step {W i e : Nat} {y t s : Int × Int} {D : Int} (hW : 10 ≤ W) (hy : within y ((2 ^ (W - 2) : Nat) : Int)) (h : RowAt W i e t s D) :
    (∃ D', 0 ≤ D' ∧ 7 * D' ≤ 2 * ((2 ^ W : Nat) : Int) + 3 ∧ within (isum s (iby (iprod t y W) i)) (((2 ^ W : Nat) : Int) + D') ∧
      -D' ≤ (isum s (iby (iprod t y W) i)).1 - ((2 ^ W : Nat) : Int) ∧ (isum s (iby (iprod t y W) i)).1 - ((2 ^ W : Nat) : Int) ≤ D' ∧
      -D' ≤ (isum s (iby (iprod t y W) i)).2 - ((2 ^ W : Nat) : Int) ∧ (isum s (iby (iprod t y W) i)).2 - ((2 ^ W : Nat) : Int) ≤ D') ∧
    (¬ imost (iby (iprod t y W) i) ≤ 2 → ∃ e' D', e' < e ∧ RowAt W (i + 1) e' (iby (iprod t y W) i) (isum s (iby (iprod t y W) i)) D') := by
  obtain ⟨i1, ie, e2, te, s1, s2, d0, dd⟩ := h
  obtain ⟨n1, n2⟩ := next_in hW hy i1 e2 te
  generalize iby (iprod t y W) i = u at *
  rcases dd with ⟨rfl, rfl, rfl⟩ | ⟨hi, hd⟩
  · have q1 := two_up (e - 2)
    have q2 := two_up (e - 1)
    rw [show e - 2 + 1 = e - 1 by omega] at q1
    rw [show e - 1 + 1 = e by omega] at q2
    have hz := pow_pos' (e - 2)
    obtain ⟨⟨u1, u2⟩, u3, u4⟩ := n1
    refine ⟨⟨((2 ^ (e - 2) : Nat) : Int), by omega, by omega, ?_, ?_⟩, fun hm => ⟨e - 2, ((2 ^ (e - 2) : Nat) : Int), by omega, ?_⟩⟩
    · unfold within isum; simp only; omega
    · unfold isum; simp only; omega
    · refine ⟨by omega, by omega, by omega, ⟨⟨u1, u2⟩, u3, u4⟩, ?_, ?_, by omega, .inr ⟨by omega, by omega⟩⟩
      · unfold isum; simp only; omega
      · unfold isum; simp only; omega
  · by_cases h3 : 3 ≤ e
    · have n3 := n2 hi h3
      obtain ⟨⟨u1, u2⟩, u3, u4⟩ := n3
      have q1 := two_up (e - 3)
      have q2 := two_up (e - 2)
      have q3 := two_up (e - 1)
      rw [show e - 3 + 1 = e - 2 by omega] at q1
      rw [show e - 2 + 1 = e - 1 by omega] at q2
      rw [show e - 1 + 1 = e by omega] at q3
      have hz := pow_pos' (e - 3)
      have hzW := pow_pos' W
      refine ⟨⟨D + ((2 ^ (e - 3) : Nat) : Int), by omega, by omega, ?_, ?_⟩, fun hm => ⟨e - 3, D + ((2 ^ (e - 3) : Nat) : Int), by omega, ?_⟩⟩
      · unfold within isum; simp only; omega
      · unfold isum; simp only; omega
      · have e5 : 2 ≤ e - 3 := by
          rcases Nat.lt_or_ge (e - 3) 2 with h5 | h5
          · exfalso
            have hm2 := imost_le (a := u) (A := 2) (by
              have : ((2 ^ (e - 3) : Nat) : Int) ≤ 2 := by
                have := two_mono (m := e - 3) (n := 1) (by omega)
                simpa using this
              unfold within; omega)
            exact hm hm2
          · exact h5
        refine ⟨by omega, by omega, e5, ⟨⟨u1, u2⟩, u3, u4⟩, ?_, ?_, by omega, .inr ⟨by omega, by omega⟩⟩
        · unfold isum; simp only; omega
        · unfold isum; simp only; omega
    · have he : e = 2 := by omega
      subst he
      have n1 : within u 1 := by simpa using n1
      obtain ⟨⟨u1, u2⟩, u3, u4⟩ := n1
      have h4 : ((2 ^ 2 : Nat) : Int) = 4 := by decide
      rw [h4] at hd
      have hzW := pow_pos' W
      refine ⟨⟨D + 1, by omega, by omega, ?_, ?_⟩, fun hm => ?_⟩
      · unfold within isum; simp only; omega
      · unfold isum; simp only; omega
      · exact absurd (imost_le (a := u) (A := 2) (by unfold within; omega)) hm

theorem row_start {W : Nat} (hW : 10 ≤ W) : RowAt W 1 W (oneI W) (oneI W) 0 :=
  ⟨by omega, by omega, by omega, by have := pow_pos' W; unfold within oneI; simp only; omega, by unfold oneI; simp, by unfold oneI; simp, by omega, .inl ⟨rfl, rfl, rfl⟩⟩

/-- an interval of positive numbers between L and H -/
def btw (a : Int × Int) (L H : Int) : Prop := (L ≤ a.1 ∧ a.1 ≤ H) ∧ L ≤ a.2 ∧ a.2 ≤ H
theorem rowGo_btw {W : Nat} {y : Int × Int} (hW : 20 ≤ W) (hy : within y ((2 ^ (W - 2) : Nat) : Int)) : ∀ (f i e : Nat) (t s : Int × Int) (D : Int), e + 1 ≤ f → RowAt W i e t s D → btw (rowGo W y f i t s) ((2 ^ (W - 1) : Nat) : Int) (1376 * ((2 ^ (W - 10) : Nat) : Int))
  | 0, i, e, t, s, D, hf, _ => by omega
  | f + 1, i, e, t, s, D, hf, h => by
    obtain ⟨⟨D', d0, d1, _, d2, d3, d4, d5⟩, h2⟩ := row_step (by omega) hy h
    unfold rowGo
    split
    · have q : ((2 ^ W : Nat) : Int) = 1024 * ((2 ^ (W - 10) : Nat) : Int) := by
        have := two_add 10 (W - 10)
        rw [show 10 + (W - 10) = W by omega] at this
        exact this
      have q2 : ((2 ^ (W - 1) : Nat) : Int) = 512 * ((2 ^ (W - 10) : Nat) : Int) := by
        have := two_add 9 (W - 10)
        rw [show 9 + (W - 10) = W - 1 by omega] at this
        exact this
      have q3 : (1024 : Int) ≤ ((2 ^ (W - 10) : Nat) : Int) := by
        have := two_mono (m := 10) (n := W - 10) (by omega)
        exact this
      unfold iwide btw
      simp only
      omega
    · rename_i hm
      obtain ⟨e', D2, he, h3⟩ := h2 hm
      exact rowGo_btw hW hy f (i + 1) e' _ _ D2 (by omega) h3
theorem rowIv_btw {W : Nat} {y : Int × Int} (hW : 20 ≤ W) (hy : within y ((2 ^ (W - 2) : Nat) : Int)) : btw (rowIv y W) ((2 ^ (W - 1) : Nat) : Int) (1376 * ((2 ^ (W - 10) : Nat) : Int)) :=
  rowGo_btw hW hy (W + 5) 1 W _ _ 0 (by omega) (row_start (by omega))

/-- squares -/
theorem iprod_btw {a : Int × Int} {w : Nat} {L H L' H' : Int} (h0 : 0 ≤ L) (ha : btw a L H) (h1 : L' * ((2 ^ w : Nat) : Int) ≤ L * L) (h2 : H * H ≤ H' * ((2 ^ w : Nat) : Int)) : btw (iprod a a w) L' H' := by
  obtain ⟨⟨a1, a2⟩, a3, a4⟩ := ha
  have key : ∀ x y : Int, L ≤ x → x ≤ H → L ≤ y → y ≤ H → L * L ≤ x * y ∧ x * y ≤ H * H := fun x y x1 x2 y1 y2 =>
    ⟨Int.mul_le_mul x1 y1 h0 (by omega), Int.mul_le_mul x2 y2 (by omega) (by omega)⟩
  have p := key a.1 a.1 a1 a2 a1 a2
  have q := key a.1 a.2 a1 a2 a3 a4
  have r := key a.2 a.1 a3 a4 a1 a2
  have s := key a.2 a.2 a3 a4 a3 a4
  have n1 : L * L ≤ mn4 (a.1 * a.1) (a.1 * a.2) (a.2 * a.1) (a.2 * a.2) ∧ mn4 (a.1 * a.1) (a.1 * a.2) (a.2 * a.1) (a.2 * a.2) ≤ H * H := by unfold mn4; omega
  have n2 : L * L ≤ mx4 (a.1 * a.1) (a.1 * a.2) (a.2 * a.1) (a.2 * a.2) ∧ mx4 (a.1 * a.1) (a.1 * a.2) (a.2 * a.1) (a.2 * a.2) ≤ H * H := by unfold mx4; omega
  exact ⟨⟨iless_ge (Int.le_trans h1 n1.1), iless_le (Int.le_trans n1.2 h2)⟩, imore_ge (Int.le_trans h1 n2.1), imore_le (Int.le_trans n2.2 h2)⟩
def sqGo (W : Nat) : Nat → Int × Int → Int × Int
  | 0, r => r
  | k + 1, r => sqGo W k (iprod r r W)
def sqI (W : Nat) (r : Int × Int) : Nat → Int × Int
  | 0 => r
  | k + 1 => iprod (sqI W r k) (sqI W r k) W
/-- how large the squares are, in units of 1/1024 -/
def bnd : Nat → Int
  | 0 => 1376
  | k + 1 => bnd k * bnd k / 1024 + 1
theorem bnd_step (k : Nat) : bnd k * bnd k ≤ bnd (k + 1) * 1024 := by
  show _ ≤ (bnd k * bnd k / 1024 + 1) * 1024
  have := Int.lt_ediv_add_one_mul_self (bnd k * bnd k) (b := 1024) (by omega)
  omega
theorem bnd_8 : bnd 8 ≤ ((2 ^ 120 : Nat) : Int) := by decide +kernel
theorem sqI_btw {W : Nat} {r : Int × Int} (hW : 270 ≤ W) (h : btw r ((2 ^ (W - 1) : Nat) : Int) (1376 * ((2 ^ (W - 10) : Nat) : Int))) : ∀ k, k ≤ 8 → btw (sqI W r k) ((2 ^ (W - 2 ^ k) : Nat) : Int) (bnd k * ((2 ^ (W - 10) : Nat) : Int))
  | 0, _ => h
  | k + 1, hk => by
    have ih := sqI_btw hW h k (by omega)
    have hp : 2 ^ (k + 1) ≤ 2 ^ 8 := Nat.pow_le_pow_right (by omega) hk
    have hp1 : 2 ^ (k + 1) = 2 * 2 ^ k := by rw [Nat.pow_succ, Nat.mul_comm]
    have h8 : 2 ^ 8 = 256 := rfl
    refine iprod_btw (Int.le_of_lt (pow_pos' _)) ih ?_ ?_
    · rw [← two_add, ← two_add, show W - 2 ^ (k + 1) + W = W - 2 ^ k + (W - 2 ^ k) by omega]
      exact Int.le_refl _
    · have hb := bnd_step k
      have e1 : ((2 ^ W : Nat) : Int) = 1024 * ((2 ^ (W - 10) : Nat) : Int) := by
        have := two_add 10 (W - 10)
        rw [show 10 + (W - 10) = W by omega] at this
        exact this
      have hz := pow_pos' (W - 10)
      rw [e1]
      generalize ((2 ^ (W - 10) : Nat) : Int) = u at *
      have e2 : bnd k * u * (bnd k * u) = bnd k * bnd k * (u * u) := by grind
      have e3 : bnd (k + 1) * u * (1024 * u) = bnd (k + 1) * 1024 * (u * u) := by grind
      rw [e2, e3]
      exact Int.mul_le_mul_of_nonneg_right hb (Int.mul_nonneg (by omega) (by omega))
theorem sqI_in {W : Nat} {r : Int × Int} (hW : 20 ≤ W) (h : within r (1376 * ((2 ^ (W - 10) : Nat) : Int))) : ∀ k, within (sqI W r k) (bnd k * ((2 ^ (W - 10) : Nat) : Int))
  | 0 => h
  | k + 1 => by
    have ih := sqI_in hW h k
    refine iprod_in ih ih ?_
    have hb := bnd_step k
    have e1 : ((2 ^ W : Nat) : Int) = 1024 * ((2 ^ (W - 10) : Nat) : Int) := by
      have := two_add 10 (W - 10)
      rw [show 10 + (W - 10) = W by omega] at this
      exact this
    have hz := pow_pos' (W - 10)
    rw [e1]
    generalize ((2 ^ (W - 10) : Nat) : Int) = u at *
    have e2 : bnd k * u * (bnd k * u) = bnd k * bnd k * (u * u) := by grind
    have e3 : bnd (k + 1) * u * (1024 * u) = bnd (k + 1) * 1024 * (u * u) := by grind
    rw [e2, e3]
    exact Int.mul_le_mul_of_nonneg_right hb (Int.mul_nonneg (by omega) (by omega))
theorem bnd_all : ∀ k, k < 9 → bnd k ≤ ((2 ^ 120 : Nat) : Int) := by decide +kernel
theorem sqI_pow {W : Nat} {r : Int × Int} (hW : 20 ≤ W) (h : within r (1376 * ((2 ^ (W - 10) : Nat) : Int))) {k : Nat} (hk : k < 9) : within (sqI W r k) ((2 ^ (W + 110) : Nat) : Int) := by
  have h1 := sqI_in hW h k
  have h2 : bnd k * ((2 ^ (W - 10) : Nat) : Int) ≤ ((2 ^ 120 : Nat) : Int) * ((2 ^ (W - 10) : Nat) : Int) := Int.mul_le_mul_of_nonneg_right (bnd_all k hk) (Int.le_of_lt (pow_pos' _))
  rw [← two_add, show 120 + (W - 10) = W + 110 by omega] at h2
  unfold within at *
  omega
theorem btw_in {a : Int × Int} {L H : Int} (h0 : 0 ≤ L) (h : btw a L H) : within a H := by
  unfold btw at h
  unfold within
  omega
theorem ivback {W : Nat} {r : Int × Int} (hW : 400 ≤ W) (h : btw r ((2 ^ (W - 256) : Nat) : Int) (bnd 8 * ((2 ^ (W - 10) : Nat) : Int))) : btw (iback r 130) 0 ((2 ^ (W - 20) : Nat) : Int) := by
  obtain ⟨⟨a1, a2⟩, a3, a4⟩ := h
  have hz := pow_pos' (W - 256)
  have hb : bnd 8 * ((2 ^ (W - 10) : Nat) : Int) ≤ ((2 ^ (W - 20) : Nat) : Int) * ((2 ^ 130 : Nat) : Int) := by
    rw [← two_add, show W - 20 + 130 = 120 + (W - 10) by omega, two_add]
    exact Int.mul_le_mul_of_nonneg_right bnd_8 (Int.le_of_lt (pow_pos' _))
  exact ⟨⟨iless_ge (by omega), iless_le (by omega)⟩, imore_ge (by omega), imore_le (by omega)⟩
theorem iless_zero {z : Int} {m n : Nat} (h0 : 0 ≤ z) (h : z ≤ ((2 ^ m : Nat) : Int)) (hm : m < n) : iless z n = 0 := by
  unfold iless
  refine Int.ediv_eq_zero_of_lt h0 ?_
  have : ((2 ^ m : Nat) : Int) < ((2 ^ n : Nat) : Int) := by exact_mod_cast Nat.pow_lt_pow_right (by omega) hm
  omega

end Go.Proofs.YtjfaefgabaimaaaGreat.P
