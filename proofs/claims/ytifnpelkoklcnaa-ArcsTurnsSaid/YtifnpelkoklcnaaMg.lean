/- What chapter 8's laws ask: which numbers are looked at, pi; what the balls of angles hold. Conditions: at most 200 bits, tangents of at most 3 limbs. -/
import Derived.Test.YtifnpelkoklcnaaMf
import Derived.Test.YtifnpelkoklcnaaBd
namespace Go.Proofs.Ytifnpelkoklcnaa
open Go.RowKit
set_option linter.unusedSimpArgs false
set_option linter.unusedVariables false

/-- the sequence of a number's angle -/
def atS (q : Rat) (N : Nat) : Rat := if q = 0 then 0 else if ng q = true then -P.wS (nm q) q.den N else P.wS (nm q) q.den N
theorem at_in {q : Rat} {p : Int} (h : rs q ≤ 3) (hp : p ≤ 200) : (P.Ev fun N => atLo q p ≤ atS q N) ∧ (P.Ev fun N => atS q N ≤ atHi q p) := by
  unfold atLo atHi atS
  by_cases h0 : q = 0
  · simp only [if_pos h0]
    exact ⟨P.Ev.all fun N => Rat.le_refl, P.Ev.all fun N => Rat.le_refl⟩
  · simp only [if_neg h0]
    obtain ⟨hA, hI⟩ := at_is (p := p) h h0 hp
    rw [← fr_qv, ← fr_qv]
    by_cases hn : ng q = true
    · simp only [if_pos hn]
      exact ⟨hI.imp fun N hN => Rat.neg_le_neg hN.2, hI.imp fun N hN => Rat.neg_le_neg hN.1⟩
    · simp only [if_neg hn]
      exact ⟨hI.imp fun N hN => hN.1, hI.imp fun N hN => hN.2⟩
theorem pi_in {p : Int} (hp : p ≤ 200) : (P.Ev fun N => piLo p ≤ P.piS N) ∧ (P.Ev fun N => P.piS N ≤ piHi p) := ⟨(pi_is hp).lo, (pi_is hp).hi⟩
theorem wS_nn {n d : Nat} (hn : 0 < n) (hd : 0 < d) : P.Ev fun N => 0 ≤ P.wS n d N := ⟨2, fun N hN => by
  unfold P.wS
  split
  · rename_i h; exact (P.aS_le hd h N).1
  · have := (P.pi_bd hN).1
    have := (P.aS_le (n := d) (d := n) hn (by omega) N).2
    grind⟩
theorem ngI (q : Rat) : ng q = true ↔ q < 0 := by
  unfold ng
  rw [decide_eq_true_eq]
  constructor
  · intro h
    rcases P.rat_lt_or q 0 with h1 | h1
    · exact h1
    · have := Rat.num_nonneg.2 h1; omega
  · intro h
    by_cases h1 : q.num < 0
    · exact h1
    · have := Rat.num_nonneg.1 (show 0 ≤ q.num by omega); grind
theorem cross {x y : Rat} (hx : 0 < x) (h : x ≤ y) : nm x * y.den ≤ nm y * x.den := by
  have e : ∀ q : Rat, 0 < q → ((nm q : Nat) : Rat) = q * ((q.den : Nat) : Rat) := fun q hq => by
    have h1 := sg_nm q
    have h2 : ng q = false := by
      have := mt (ngI q).1 (by grind)
      simpa using this
    rw [h2] at h1
    simp only [Bool.false_eq_true, if_false] at h1
    rw [h1, rat_num]
  have h1 : ((nm x * y.den : Nat) : Rat) ≤ ((nm y * x.den : Nat) : Rat) := by
    rw [Rat.natCast_mul, Rat.natCast_mul, e x hx, e y (by grind)]
    have hp := Rat.mul_nonneg (P.nat_nn x.den) (P.nat_nn y.den)
    have := Rat.mul_le_mul_of_nonneg_right h hp
    grind
  rwa [Rat.natCast_le_natCast] at h1
/-- the greater tangent's angle is not below -/
theorem at_mono {x y : Rat} (h : x ≤ y) : P.SLe (atS x) (atS y) := by
  have P0 : ∀ q : Rat, q ≠ 0 → 0 < nm q ∧ 0 < q.den := fun q hq => ⟨nm_pos hq, q.den_pos⟩
  have pos : ∀ q : Rat, 0 ≤ q → P.Ev fun N => 0 ≤ atS q N := fun q hq => by
    unfold atS
    by_cases h0 : q = 0
    · simp only [if_pos h0]; exact P.Ev.all fun N => Rat.le_refl
    · have hn : ¬ ng q = true := fun e => by have := (ngI q).1 e; grind
      simp only [if_neg h0, if_neg hn]
      exact wS_nn (P0 q h0).1 (P0 q h0).2
  have neg : ∀ q : Rat, q ≤ 0 → P.Ev fun N => atS q N ≤ 0 := fun q hq => by
    unfold atS
    by_cases h0 : q = 0
    · simp only [if_pos h0]; exact P.Ev.all fun N => Rat.le_refl
    · have hn : ng q = true := (ngI q).2 (by grind)
      simp only [if_neg h0, if_pos hn]
      exact (wS_nn (P0 q h0).1 (P0 q h0).2).imp fun N hN => by grind
  by_cases hx : x ≤ 0
  · by_cases hy : 0 ≤ y
    · exact .of (((neg x hx).and (pos y hy)).imp fun N hN => by obtain ⟨a, b⟩ := hN; grind)
    · have x0 : x ≠ 0 := by grind
      have y0 : y ≠ 0 := by grind
      have xn : ng x = true := (ngI x).2 (by grind)
      have yn : ng y = true := (ngI y).2 (by grind)
      have hc := cross (x := -y) (y := -x) (by grind) (by grind)
      rw [nm_neg, nm_neg, den_neg, den_neg] at hc
      have hm := P.wS_mono (P0 y y0).1 (P0 x x0).1 (P0 y y0).2 (P0 x x0).2 hc
      unfold atS
      simp only [if_neg x0, if_neg y0, if_pos xn, if_pos yn]
      exact fun ε he => (hm ε he).imp fun N hN => by grind
  · have x0 : x ≠ 0 := by grind
    have y0 : y ≠ 0 := by grind
    have xn : ¬ ng x = true := fun e => by have := (ngI x).1 e; grind
    have yn : ¬ ng y = true := fun e => by have := (ngI y).1 e; grind
    have hm := P.wS_mono (P0 x x0).1 (P0 y y0).1 (P0 x x0).2 (P0 y y0).2 (cross (by grind) h)
    unfold atS
    simp only [if_neg x0, if_neg y0, if_neg xn, if_neg yn]
    exact hm
theorem at_quarter (q : Rat) : P.SLe (atS q) fun N => P.piS N / 2 := by
  unfold atS
  by_cases h0 : q = 0
  · simp only [if_pos h0]
    exact .of ⟨2, fun N hN => by have := (P.pi_bd hN).1; grind⟩
  · have P0 := nm_pos h0
    simp only [if_neg h0]
    by_cases hn : ng q = true
    · simp only [if_pos hn]
      refine .of (((wS_nn P0 q.den_pos).and ⟨2, fun N hN => hN⟩).imp fun N hN => ?_)
      obtain ⟨a, b⟩ := hN
      have := (P.pi_bd b).1
      grind
    · simp only [if_neg hn]
      exact P.wS_quarter P0 q.den_pos
theorem at_neg {q : Rat} (p : Int) : atLo (-q) p = -atHi q p ∧ atHi (-q) p = -atLo q p := by
  have e : atF (-q) p = atF q p := by unfold atF; rw [nm_neg, den_neg]
  unfold atLo atHi
  rw [e]
  by_cases h0 : q = 0
  · rw [if_pos h0, if_pos h0, if_pos (show -q = 0 by rw [h0]; decide), if_pos (show -q = 0 by rw [h0]; decide)]
    exact ⟨by decide, by decide⟩
  · have h1 : ¬ -q = 0 := by grind
    rw [if_neg h0, if_neg h0, if_neg h1, if_neg h1]
    by_cases hn : ng q = true
    · have h2 : ¬ ng (-q) = true := fun e => by have a := (ngI q).1 hn; have b := (ngI (-q)).1 e; grind
      rw [if_pos hn, if_pos hn, if_neg h2, if_neg h2, Rat.neg_neg, Rat.neg_neg]
      exact ⟨rfl, rfl⟩
    · have h2 : ng (-q) = true := (ngI (-q)).2 (by
        have a := mt (ngI q).2 hn
        grind)
      rw [if_neg hn, if_neg hn, if_pos h2, if_pos h2]
      exact ⟨rfl, rfl⟩
theorem at_le (q : Rat) (p : Int) : atLo q p ≤ atHi q p := by
  unfold atLo atHi
  have h := P.fr_le (Nat.le_add_right (atF q p) 1) (hold p)
  rw [fr_qv, fr_qv] at h
  split
  · exact Rat.le_refl
  · split
    · exact Rat.neg_le_neg h
    · exact h
theorem rs_at {q : Rat} (p : Int) (h : rs q ≤ 3) (hp : p ≤ 200) : rs (atLo q p) ≤ 30 ∧ rs (atHi q p) ≤ 30 := by
  have z : rs 0 ≤ 30 := by decide +kernel
  have hb : hold p ≤ 200 := by have := hold_cast p; omega
  unfold atLo atHi
  by_cases h0 : q = 0
  · rw [if_pos h0, if_pos h0]; exact ⟨z, z⟩
  · rw [if_neg h0, if_neg h0]
    obtain ⟨hA, hI⟩ := at_is (p := p) h h0 hp
    have h6 := len_bits (hI.small hA)
    have h7 := limbs_len_add (atF q p) 1
    have h8 := len_one
    have r1 : rs (P.fr (atF q p) (hold p)) ≤ 30 := rs_fr (by omega) (by omega)
    have r2 : rs (P.fr (atF q p + 1) (hold p)) ≤ 30 := rs_fr (by omega) (by omega)
    rw [← fr_qv, ← fr_qv]
    split
    · rw [rs_neg, rs_neg]; exact ⟨r2, r1⟩
    · exact ⟨r1, r2⟩
theorem rs_pi (p : Int) (hp : p ≤ 200) : rs (piLo p) ≤ 30 ∧ rs (piHi p) ≤ 30 := by
  have hb : hold p ≤ 200 := by have := hold_cast p; omega
  have h6 := len_bits ((pi_is hp).small P.pi_ang)
  have h7 := limbs_len_add (piF p) 1
  have h8 := len_one
  exact ⟨rs_fr (by omega) (by omega), rs_fr (by omega) (by omega)⟩
/-- half of pi's ball -/
def hLo (p : Int) : Rat := mulLo (bb (piLo p) (piHi p)) (bb (qv false 1 (val [2])) (qv false 1 (val [2])))
def hHi (p : Int) : Rat := mulHi (bb (piLo p) (piHi p)) (bb (qv false 1 (val [2])) (qv false 1 (val [2])))
theorem half_is : qv false 1 (val [2]) = 1 / 2 := by decide +kernel
theorem h_in {p : Int} (hp : p ≤ 200) : (P.Ev fun N => hLo p ≤ P.piS N / 2) ∧ (P.Ev fun N => P.piS N / 2 ≤ hHi p) := by
  obtain ⟨a, b⟩ := pi_in hp
  have l := (mulLo_le (bb (piLo p) (piHi p)) (bb (qv false 1 (val [2])) (qv false 1 (val [2])))).1
  have u := (mulHi_ge (bb (piLo p) (piHi p)) (bb (qv false 1 (val [2])) (qv false 1 (val [2])))).2.2.1
  simp only [bb, cr_q, half_is] at l u
  unfold hLo hHi
  simp only [bb, half_is]
  exact ⟨a.imp fun N hN => by grind, b.imp fun N hN => by grind⟩
theorem rs_h (p : Int) (hp : p ≤ 200) : rs (hLo p) ≤ 60 ∧ rs (hHi p) ≤ 60 := by
  obtain ⟨r1, r2⟩ := rs_pi p hp
  have z : rs (qv false 1 (val [2])) ≤ 30 := by decide +kernel
  exact ⟨rs_mulLo (K := 30) (by simpa [bb, cr_q] using r1) (by simpa [bb, cr_q] using r2) (by simpa [bb, cr_q] using z) (by simpa [bb, cr_q] using z), rs_mulHi (K := 30) (by simpa [bb, cr_q] using r1) (by simpa [bb, cr_q] using r2) (by simpa [bb, cr_q] using z) (by simpa [bb, cr_q] using z)⟩
/-- two balls of the same sequence meet -/
theorem side_of {s t : Nat → Rat} {a b c d : Rat} (h : P.SLe s t ∧ P.SLe t s) (h1 : P.Ev fun N => a ≤ s N) (h2 : P.Ev fun N => s N ≤ b) (h3 : P.Ev fun N => c ≤ t N) (h4 : P.Ev fun N => t N ≤ d) : sideI ⟨cr a, cr b⟩ ⟨cr c, cr d⟩ = 0 :=
  side_zero.2 (by simp only [cr_q]; exact ⟨h.2.ends h3 h2, h.1.ends h1 h4⟩)
theorem ev_add {s t : Nat → Rat} {a b : Rat} (h : P.Ev fun N => a ≤ s N) (k : P.Ev fun N => b ≤ t N) : P.Ev fun N => a + b ≤ s N + t N := (h.and k).imp fun N hN => by obtain ⟨x, y⟩ := hN; grind
theorem inv_parts {q : Rat} (h : 0 < q) : nm (1 / q) = q.den ∧ (1 / q).den = nm q ∧ 0 < 1 / q := by
  have h0 : nm q ≠ 0 := by have := nm_pos (show q ≠ 0 by grind); omega
  have hn : ng q = false := by
    have := mt (ngI q).1 (by grind)
    simpa using this
  have e : 1 / q = qv false q.den (nm q) := by
    rw [Rat.div_def, Rat.one_mul]
    conv => lhs; rw [← qv_self q, hn]
    exact qv_inv _ _ _
  have hg : Nat.gcd q.den (nm q) = 1 := by rw [Nat.gcd_comm]; exact q.reduced
  obtain ⟨a, b, _⟩ := nm_qv false q.den (nm q) q.den_nz h0
  rw [hg, Nat.div_one] at a b
  exact ⟨by rw [e]; exact a, by rw [e]; exact b, P.inv_pos' h⟩
theorem rs_inv' {q : Rat} (h : 0 < q) : rs (1 / q) = rs q := by
  obtain ⟨a, b, _⟩ := inv_parts h
  unfold rs
  rw [a, b, Nat.max_comm]
theorem at_turn {q : Rat} (h : 0 < q) : P.SLe (fun N => atS q N + atS (1 / q) N) (fun N => P.piS N / 2) ∧ P.SLe (fun N => P.piS N / 2) fun N => atS q N + atS (1 / q) N := by
  obtain ⟨a, b, c⟩ := inv_parts h
  have h0 : q ≠ 0 := by grind
  have i0 : 1 / q ≠ 0 := by grind
  have hn : ¬ ng q = true := fun e => by have := (ngI q).1 e; grind
  have jn : ¬ ng (1 / q) = true := fun e => by have := (ngI (1 / q)).1 e; grind
  unfold atS
  simp only [if_neg h0, if_neg i0, if_neg hn, if_neg jn, a, b]
  refine P.wS_turn ?_
  by_cases e : nm q = q.den
  · right
    have hg : Nat.gcd (nm q) q.den = 1 := q.reduced
    rw [← e, Nat.gcd_self] at hg
    exact hg
  · exact .inl e
theorem at_width {q : Rat} {p : Int} (h : 0 < q) : atHi q p - atLo q p = P.fr 1 (hold p) := by
  have h0 : q ≠ 0 := by grind
  have hn : ¬ ng q = true := fun e => by have := (ngI q).1 e; grind
  unfold atLo atHi
  rw [if_neg h0, if_neg h0, if_neg hn, if_neg hn, ← fr_qv, ← fr_qv, P.fr_add]
  grind
theorem at_small (n d : Nat) (hd : 0 < d) (hn : 0 < n) (hg : Nat.gcd n d = 1) : atS (qv false n d) = P.wS n d := by
  obtain ⟨a, b, c⟩ := nm_qv false n d (by omega) (by omega)
  rw [hg, Nat.div_one] at a b
  have h0 : qv false n d ≠ 0 := fun e => by
    have := nm_zero.2 e
    omega
  have hf : ¬ ng (qv false n d) = true := by rw [c]; decide
  funext N
  unfold atS
  rw [if_neg h0, if_neg hf, a, b]
/-- more bits lie within fewer -/
theorem at_nest {q : Rat} {p m : Int} (h : rs q ≤ 3) (h0 : 0 ≤ p) (h1 : 0 ≤ m) (h2 : p + m ≤ 200) : atLo q p ≤ atLo q (p + m) ∧ atHi q (p + m) ≤ atHi q p := by
  by_cases hq : q = 0
  · unfold atLo atHi
    simp only [if_pos hq]
    exact ⟨Rat.le_refl, Rat.le_refl⟩
  · have e1 : hold p = p.toNat := by have := hold_cast p; omega
    have e2 : hold (p + m) = p.toNat + m.toNat := by have := hold_cast (p + m); omega
    obtain ⟨hA, hI⟩ := at_is (p := p) h hq (by omega)
    obtain ⟨_, hJ⟩ := at_is (p := p + m) h hq (by omega)
    rw [e1] at hI
    rw [e2] at hJ
    obtain ⟨n1, n2⟩ := hI.nest hA (by omega) hJ
    unfold atLo atHi
    simp only [if_neg hq, ← fr_qv, e1, e2]
    split
    · exact ⟨Rat.neg_le_neg n2, Rat.neg_le_neg n1⟩
    · exact ⟨n1, n2⟩
theorem pi_nest {p m : Int} (h0 : 0 ≤ p) (h1 : 0 ≤ m) (h2 : p + m ≤ 200) : piLo p ≤ piLo (p + m) ∧ piHi (p + m) ≤ piHi p := by
  have e1 : hold p = p.toNat := by have := hold_cast p; omega
  have e2 : hold (p + m) = p.toNat + m.toNat := by have := hold_cast (p + m); omega
  have hI := pi_is (p := p) (by omega)
  have hJ := pi_is (p := p + m) (by omega)
  rw [e1] at hI
  rw [e2] at hJ
  unfold piLo piHi
  rw [e1, e2]
  exact hI.nest P.pi_ang (by omega) hJ
theorem pi_three : piLo 3 = qv false (val [25]) (val [8]) ∧ piHi 3 = qv false (val [13]) (val [4]) := by
  have hb : hold 3 = 3 := by decide
  obtain ⟨a, b⟩ := pi_in (p := 3) (by omega)
  unfold piLo piHi at *
  rw [hb] at a b ⊢
  have h1 : piF 3 = 25 := by
    have u : P.fr (piF 3) 3 ≤ 32 / 10 := by
      obtain ⟨N, h1, h2⟩ := (a.and ⟨2, fun N hN => hN⟩).ex
      exact Rat.le_trans h1 (P.pi_bd h2).2
    have l : 31 / 10 ≤ P.fr (piF 3 + 1) 3 := by
      obtain ⟨N, h1, h2⟩ := (b.and ⟨2, fun N hN => hN⟩).ex
      exact Rat.le_trans (P.pi_bd h2).1 h1
    -- pi lies between 25 and 26 eighths
    have u2 : P.fr (piF 3) 3 < P.fr 26 3 := by
      have : (32 : Rat) / 10 < P.fr 26 3 := by decide +kernel
      grind
    have l2 : P.fr 24 3 < P.fr (piF 3 + 1) 3 := by
      have : P.fr 24 3 < (31 : Rat) / 10 := by decide +kernel
      grind
    have c1 : piF 3 < 26 := by
      rcases Nat.lt_or_ge (piF 3) 26 with h | h
      · exact h
      · have := P.fr_le h 3; grind
    have c2 : 24 < piF 3 + 1 := by
      rcases Nat.lt_or_ge 24 (piF 3 + 1) with h | h
      · exact h
      · have := P.fr_le h 3; grind
    rcases (show piF 3 = 24 ∨ piF 3 = 25 by omega) with h | h
    · exfalso
      rw [h] at b
      obtain ⟨N, h1, h2⟩ := (b.and ⟨2, fun N hN => hN⟩).ex
      have h3 : P.fr (24 + 1) 3 = 25 / 8 := by decide +kernel
      rw [h3] at h1
      obtain ⟨a1, _⟩ := P.aS_bd (n := 1) (d := 5) (M := 2) (by omega) (by omega) h2
      obtain ⟨_, b2⟩ := P.aS_bd (n := 1) (d := 239) (M := 2) (by omega) (by omega) h2
      have c1 : (25 : Rat) / 8 < 16 * P.aS 1 5 2 - 4 * (P.aS 1 239 2 + 2 * (P.cA 2 * (P.vR 1 239 * P.rp (P.uR 1 239) 2))) := by decide +kernel
      unfold P.piS at h1
      generalize 2 * (P.cA 2 * (P.vR 1 239 * P.rp (P.uR 1 239) 2)) = e1 at *
      grind
    · exact h
  rw [h1, fr_qv, fr_qv]
  exact ⟨rfl, by decide +kernel⟩
theorem one_S : atS ((1 : Int) : Rat) = P.wS 1 1 := at_small 1 1 (by omega) (by omega) (by decide) ▸ (by rw [show ((1 : Int) : Rat) = qv false 1 1 by decide +kernel])
/-- four angles of 1, a half's and a third's together; how wide -/
theorem ones_meet {p : Int} (h0 : 0 ≤ p) (hp : p ≤ 100) : sideI (bb (mulLo (bb (atLo ((1 : Int) : Rat) p) (atHi ((1 : Int) : Rat) p)) (bb ((4 : Int) : Rat) ((4 : Int) : Rat))) (mulHi (bb (atLo ((1 : Int) : Rat) p) (atHi ((1 : Int) : Rat) p)) (bb ((4 : Int) : Rat) ((4 : Int) : Rat)))) (bb (piLo p) (piHi p)) = 0 ∧ sideI (bb (atLo (qv false 1 2) p + atLo (qv false 1 3) p) (atHi (qv false 1 2) p + atHi (qv false 1 3) p)) (bb (atLo ((1 : Int) : Rat) p) (atHi ((1 : Int) : Rat) p)) = 0 ∧ atHi ((1 : Int) : Rat) p - atLo ((1 : Int) : Rat) p = qv false 1 (2 ^ p.toNat) := by
  have w11 : ∀ N, P.wS 1 1 N = P.aS 1 1 N := fun N => if_pos (Nat.le_refl 1)
  have w12 : ∀ N, P.wS 1 2 N = P.aS 1 2 N := fun N => if_pos (by omega)
  have w13 : ∀ N, P.wS 1 3 N = P.aS 1 3 N := fun N => if_pos (by omega)
  obtain ⟨a1, a2⟩ := at_in (q := ((1 : Int) : Rat)) (p := p) (by decide +kernel) (by omega)
  obtain ⟨b1, b2⟩ := at_in (q := qv false 1 2) (p := p) (by decide +kernel) (by omega)
  obtain ⟨c1, c2⟩ := at_in (q := qv false 1 3) (p := p) (by decide +kernel) (by omega)
  obtain ⟨d1, d2⟩ := pi_in (p := p) (by omega)
  rw [one_S] at a1 a2
  rw [at_small 1 2 (by omega) (by omega) (by decide)] at b1 b2
  rw [at_small 1 3 (by omega) (by omega) (by decide)] at c1 c2
  simp only [w11, w12, w13] at a1 a2 b1 b2 c1 c2
  refine ⟨?_, side_of P.both_one (ev_add b1 c1) (((b2.and c2)).imp fun N hN => by obtain ⟨x, y⟩ := hN; grind) a1 a2, ?_⟩
  · have l := (mulLo_le (bb (atLo ((1 : Int) : Rat) p) (atHi ((1 : Int) : Rat) p)) (bb ((4 : Int) : Rat) ((4 : Int) : Rat))).1
    have u := (mulHi_ge (bb (atLo ((1 : Int) : Rat) p) (atHi ((1 : Int) : Rat) p)) (bb ((4 : Int) : Rat) ((4 : Int) : Rat))).2.2.1
    simp only [bb, cr_q] at l u
    have e4 : ((4 : Int) : Rat) = 4 := rfl
    exact side_of P.one_pi (a1.imp fun N hN => by simp only [bb]; rw [e4] at *; grind) (a2.imp fun N hN => by simp only [bb]; rw [e4] at *; grind) d1 d2
  · rw [at_width (by decide), fr_qv]
    have e1 : hold p = p.toNat := by have := hold_cast p; omega
    rw [e1]
theorem within_of {a b c d : Rat} (h1 : a ≤ c) (h2 : c ≤ d) (h3 : d ≤ b) : (hasB a b c && hasB a b d) = true := by
  unfold hasB
  rw [decide_eq_true h1, decide_eq_true (Rat.le_trans h2 h3), decide_eq_true (Rat.le_trans h1 h2), decide_eq_true h3]
  rfl
theorem pi_le (p : Int) : piLo p ≤ piHi p := P.fr_le (Nat.le_add_right _ 1) _
theorem rises_all {x y : Rat} {p m : Int} (hx : rs x ≤ 3) (hy : rs y ≤ 3) (h : x ≤ y) (h0 : 0 ≤ p) (h1 : p ≤ 50) (h2 : 0 ≤ m) (h3 : m ≤ 50) : atLo x p ≤ atHi y p ∧ (hasB (atLo x p) (atHi x p) (atLo x (p + m)) && hasB (atLo x p) (atHi x p) (atHi x (p + m))) = true ∧ atLo y p ≤ hHi p ∧ (hasB (piLo p) (piHi p) (piLo (p + m)) && hasB (piLo p) (piHi p) (piHi (p + m))) = true := by
  obtain ⟨a1, a2⟩ := at_in (q := x) (p := p) hx (by omega)
  obtain ⟨b1, b2⟩ := at_in (q := y) (p := p) hy (by omega)
  obtain ⟨c1, c2⟩ := h_in (p := p) (by omega)
  obtain ⟨n1, n2⟩ := at_nest (q := x) (p := p) (m := m) hx h0 h2 (by omega)
  obtain ⟨n3, n4⟩ := pi_nest (p := p) (m := m) h0 h2 (by omega)
  exact ⟨(at_mono h).ends a1 b2, within_of n1 (at_le _ _) n2, (at_quarter y).ends b1 c2, within_of n3 (pi_le _) n4⟩
theorem turns_all {y : Rat} {p : Int} (hy : rs y ≤ 3) (h : 0 < y) (hp : p ≤ 200) : sideI (bb (atLo y p + atLo (1 / y) p) (atHi y p + atHi (1 / y) p)) (bb (hLo p) (hHi p)) = 0 := by
  obtain ⟨a1, a2⟩ := at_in (q := y) (p := p) hy hp
  obtain ⟨b1, b2⟩ := at_in (q := 1 / y) (p := p) (by rw [rs_inv' h]; exact hy) hp
  obtain ⟨c1, c2⟩ := h_in (p := p) hp
  exact side_of (at_turn h) (ev_add a1 b1) ((a2.and b2).imp fun N hN => by obtain ⟨x, y⟩ := hN; grind) c1 c2
theorem ab_gt {q : Rat} (h : q ≠ 0) : 0 < ab q := by
  by_cases hn : ng q = true
  · have e : ab q = -q := by
      conv => rhs; rw [← qv_self q, hn, qv_neg]
      rfl
    have := (ngI q).1 hn
    rw [e]
    grind
  · have hf : ng q = false := by simpa using hn
    have := mt (ngI q).2 hn
    rw [ab_nonneg hf]
    grind

def d_law8_big : Den := den1 aRats (fun l => l.length ≤ 1000 ∧ ∀ r ∈ l, r.sz ≤ 100000000000000) fun l => boolV (l.any bigR)
set_option maxRecDepth 100000 in
set_option maxHeartbeats 1000000 in
theorem s_law8_big : Sound Try.prog 20 d_law8_big := by
  refine sound1 (fz := nofz) (l := []) TT_ok trivial mixed Try.func20 Try.ntmps20 Try.results20 Try.call20 rfl (by omega) (fun _ => rfl) ?_
  intro a hp ha
  rw [codeK_start]
  simp only [go_sem, Nat.reduceBEq, Nat.reduceBNe, Nat.reduceLT, Nat.reduceLeDiff, Nat.reduceAdd, Nat.reduceSub, Nat.reduceMul, Nat.reduceEqDiff, Int.reduceNeg, Int.reduceAdd, Int.reduceLT, Int.reduceLE, Int.reduceToNat, ↓reduceIte]
  refine codeK_loop (fun i : { i : Nat // i ≤ a.length ∧ (a.take i).any bigR = false } => [(3, 0, .av (intV (i.1 : Nat))), (2, 0, .av (boolV false)), (0, 0, .av (ratsV a))]) (fun i => a.length - i.1) ⟨0, by omega, by simp⟩ (le_of ?_) ?_
  · simp only [go_sem, leL, Nat.reduceBEq, Nat.reduceBNe, Nat.reduceLT, Nat.reduceLeDiff, Nat.reduceAdd, Nat.reduceSub, Nat.reduceMul, Nat.reduceEqDiff, Int.reduceNeg, Int.reduceAdd, Int.reduceLT, Int.reduceLE, Int.reduceToNat, ↓reduceIte, Int.ofNat_zero, Int.natCast_zero, Int.cast_ofNat_Int]
  · rintro ⟨i, hi0, hs0⟩
    by_cases hi : i < a.length
    · have hm := hp.2 _ (getD_mem (d := rr0) hi)
      have hst : (a.take (i + 1)).any bigR = bigR (a.getD i rr0) := by
        rw [List.take_succ_eq_append_getElem hi, List.any_append, hs0, List.getD_eq_getElem?_getD, List.getElem?_eq_getElem hi]
        simp
      simp only [go_sem, getD_rats hi, Int.ofNat_lt, hi, Nat.reduceBEq, Nat.reduceBNe, Nat.reduceLT, Nat.reduceLeDiff, Nat.reduceAdd, Nat.reduceSub, Nat.reduceMul, Nat.reduceEqDiff, Int.reduceNeg, Int.reduceAdd, Int.reduceLT, Int.reduceLE, Int.reduceToNat, ↓reduceIte]
      have hall : bigR (a.getD i rr0) = true → a.any bigR = true := fun h => List.any_eq_true.2 ⟨_, getD_mem hi, h⟩
      split
      · rename_i h1
        have h1 : ¬ (3 < ((a.getD i rr0).n.length : Int)) := of_decide_eq_false h1
        split
        · rename_i h2
          refine (hall ?_).symm
          unfold bigR
          rw [Bool.or_eq_true]
          exact .inr (decide_eq_true (by omega))
        · rename_i h2
          have hb : bigR (a.getD i rr0) = false := by
            unfold bigR
            rw [Bool.or_eq_false_iff]
            exact ⟨decide_eq_false (by omega), decide_eq_false (by omega)⟩
          refine ⟨⟨by omega, by omega⟩, ⟨⟨i + 1, by omega, by rw [hst]; exact hb⟩, by show _ < _; simp only []; omega, le_of ?_⟩⟩
          simp only [go_sem, leL, Nat.reduceBEq, Nat.reduceBNe, Nat.reduceLT, Nat.reduceLeDiff, Nat.reduceAdd, Nat.reduceSub, Nat.reduceMul, Nat.reduceEqDiff, Int.reduceNeg, Int.reduceAdd, Int.reduceLT, Int.reduceLE, Int.reduceToNat, ↓reduceIte]
          omega
      · rename_i h1
        have h1 : 3 < ((a.getD i rr0).n.length : Int) := by
          rcases Classical.em (3 < ((a.getD i rr0).n.length : Int)) with h | h
          · exact h
          · exact absurd (decide_eq_false h) h1
        refine (hall ?_).symm
        unfold bigR
        rw [Bool.or_eq_true]
        exact .inl (decide_eq_true (by omega))
    · simp only [go_sem, Int.ofNat_lt, hi, Nat.reduceBEq, Nat.reduceBNe, Nat.reduceLT, Nat.reduceLeDiff, Nat.reduceAdd, Nat.reduceSub, Nat.reduceMul, Nat.reduceEqDiff, Int.reduceNeg, Int.reduceAdd, Int.reduceLT, Int.reduceLE, Int.reduceToNat, ↓reduceIte]
      have e : i = a.length := by omega
      subst e
      rw [List.take_length] at hs0
      exact hs0.symm

def d_law8_known : Den := den0 (boolV true)
set_option maxRecDepth 100000 in
set_option maxHeartbeats 1000000 in
theorem s_law8_known : Sound Try.prog 32 d_law8_known := by
  refine sound0 (fz := nofz) (l := [(27, d_arcs_Pi), (28, d_ref2_Of), (16, d_ref4_Same)]) TT_ok ⟨s_arcs_Pi, s_ref2_Of, s_ref4_Same, trivial⟩ mixed Try.func32 Try.ntmps32 Try.results32 Try.call32 rfl rfl ?_
  rw [codeK_start]
  simp only [go_sem, d_arcs_Pi, d_ref2_Of, d_ref4_Same, Nat.reduceBEq, Nat.reduceBNe, Nat.reduceLT, Nat.reduceLeDiff, Nat.reduceAdd, Nat.reduceSub, Nat.reduceMul, Nat.reduceEqDiff, Int.reduceNeg, Int.reduceAdd, Int.reduceLT, Int.reduceLE, Int.reduceToNat, ↓reduceIte]
  obtain ⟨e1, e2⟩ := pi_three
  rw [e1, e2]
  refine ⟨⟨by decide +kernel, by decide +kernel⟩, ?_⟩
  unfold sameB
  simp


def d_law8_part1 : Den := den1 aU32 (fun n => 0 ≤ n ∧ n < 4294967296) fun n => ratV (cr (qv false 1 n.toNat))
set_option maxRecDepth 100000 in
set_option maxHeartbeats 1000000 in
theorem s_law8_part1 : Sound Try.prog 33 d_law8_part1 := by
  refine sound1 (fz := nofz) (l := [(28, d_ref2_Of)]) TT_ok ⟨s_ref2_Of, trivial⟩ mixed Try.func33 Try.ntmps33 Try.results33 Try.call33 rfl (by omega) (fun _ => rfl) ?_
  intro a hp ha
  rw [codeK_start]
  simp only [go_sem, d_ref2_Of, Nat.reduceBEq, Nat.reduceBNe, Nat.reduceLT, Nat.reduceLeDiff, Nat.reduceAdd, Nat.reduceSub, Nat.reduceMul, Nat.reduceEqDiff, Int.reduceNeg, Int.reduceAdd, Int.reduceLT, Int.reduceLE, Int.reduceToNat, ↓reduceIte]
  have e : val [a.toNat] = a.toNat := by simp [val]
  rw [e]
  exact ⟨hp, rfl, rfl, rfl⟩


end Go.Proofs.Ytifnpelkoklcnaa
