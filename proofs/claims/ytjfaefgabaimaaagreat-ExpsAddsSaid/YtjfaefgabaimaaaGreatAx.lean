/- What roots are, in plain Lean: squares' roots; a number without its sign. No condition. The order of numbers by their parts; what roots' ends are. No condition. vernierref4.Mul by the abstract walk. Condition: numbers of at most 10^8 limbs. -/
import Derived.Test.YtjfaefgabaimaaaGreatAu
namespace Go.Proofs.YtjfaefgabaimaaaGreat
open Go.RowKit

theorem not_big {r : RR} (h : bigR r = false) : r.sz ≤ 3 := by
  unfold bigR at h
  rw [Bool.or_eq_false_iff] at h
  have h1 := of_decide_eq_false h.1
  have h2 := of_decide_eq_false h.2
  exact RR.sz_le (by omega) (by omega)
theorem rt_sq (n : Nat) : rt (n * n) = n := rt_unique (Nat.le_refl _) (by rw [Nat.add_mul, Nat.mul_add]; omega)
theorem sqn_sq (n : Nat) : sqn (n * n) = true := by unfold sqn; rw [rt_sq]; exact decide_eq_true rfl

theorem mul_qv2 (p q : Rat) : p * q = qv (ng p != ng q) (nm p * nm q) (p.den * q.den) := by
  conv => lhs; rw [← qv_self p, ← qv_self q]
  rw [qv_mul]

theorem sq_parts (q : Rat) : nm (q * q) = nm q * nm q ∧ (q * q).den = q.den * q.den ∧ ng (q * q) = false := by
  have h : q * q = qv false (nm q * nm q) (q.den * q.den) := by rw [mul_qv2, bne_self_eq_false]
  by_cases h0 : nm q = 0
  · have := nm_zero.1 h0
    subst this
    decide +kernel
  · have hc : Nat.Coprime (nm q * nm q) (q.den * q.den) := by
      have := q.reduced
      exact (Nat.Coprime.mul_left this this).mul_right (Nat.Coprime.mul_left this this)
    obtain ⟨p1, p2, p3⟩ := nm_qv false (nm q * nm q) (q.den * q.den) (Nat.mul_ne_zero h0 h0) (Nat.mul_ne_zero (den_ne q) (den_ne q))
    rw [h, p1, p2, p3, hc, Nat.div_one, Nat.div_one]
    exact ⟨rfl, rfl, rfl⟩

/-- without its sign -/
def ab (q : Rat) : Rat := qv false (nm q) q.den
theorem ab_nonneg {q : Rat} (h : ng q = false) : ab q = q := by
  unfold ab
  rw [← h]; exact qv_self q
theorem ab_zero {q : Rat} : ab q = 0 ↔ q = 0 := by
  constructor
  · intro h
    by_cases h0 : nm q = 0
    · exact nm_zero.1 h0
    · exfalso
      obtain ⟨p1, _, _⟩ := nm_qv false (nm q) q.den h0 (den_ne q)
      have hr : Nat.gcd (nm q) q.den = 1 := q.reduced
      rw [hr, Nat.div_one] at p1
      unfold ab at h
      rw [h] at p1
      exact h0 p1.symm
  · rintro rfl; decide +kernel
theorem ab_sq (q : Rat) : ab q * ab q = q * q := by
  unfold ab
  rw [qv_mul, mul_qv2 q q, bne_self_eq_false, bne_self_eq_false]
theorem sqB_sq (q : Rat) : sqB (q * q) = true := by
  obtain ⟨h1, h2, h3⟩ := sq_parts q
  unfold sqB
  rw [h1, h2, h3, sqn_sq, sqn_sq]; rfl
theorem sqR_sq (q : Rat) : sqR (q * q) = ab q := by
  obtain ⟨h1, h2, h3⟩ := sq_parts q
  rw [sqR_some (sqB_sq q), h1, h2, rt_sq, rt_sq]; rfl
theorem ng_sq (q : Rat) : ng (q * q) = false := (sq_parts q).2.2
theorem sqLo_sq (q : Rat) (p : Int) : sqLo (q * q) p = ab q := by unfold sqLo; rw [ng_sq, sqB_sq, sqR_sq]; rfl
theorem sqHi_sq (q : Rat) (p : Int) : sqHi (q * q) p = ab q := by unfold sqHi; rw [ng_sq, sqB_sq, sqR_sq]; rfl
theorem rr_ab (a : RR) : (⟨false, (cr a.q).n, (cr a.q).d⟩ : RR).q = ab a.q := by
  show qv false (val (limbs (nm a.q))) (val (limbs a.q.den)) = _
  rw [val_limbs, val_limbs]; rfl
theorem ng_neg_ab (q : Rat) : ((!ng (-ab q)) == decide (ab q = 0)) = true := by
  by_cases h : q = 0
  · subst h; decide +kernel
  · have h0 : nm q ≠ 0 := fun e => h (nm_zero.1 e)
    have e1 : decide (ab q = 0) = false := decide_eq_false fun e => h (ab_zero.1 e)
    have e2 : ng (-ab q) = true := by unfold ab; rw [qv_neg]; exact (nm_qv true _ _ h0 (den_ne q)).2.2
    rw [e1, e2]; rfl
theorem rs_ab {q : Rat} {K : Nat} (h : rs q ≤ K) (hK : 1 ≤ K) : rs (ab q) ≤ K := rs_qv _ _ _ _ (rs_parts h).1 (rs_parts h).2 hK

end Go.Proofs.YtjfaefgabaimaaaGreat

namespace Go.Proofs.YtjfaefgabaimaaaGreat
open Go.RowKit
set_option linter.unusedSimpArgs false

theorem qv_le {a b c d : Nat} (hb : 0 < b) (hd : 0 < d) : qv false a b ≤ qv false c d ↔ a * d ≤ c * b := by
  obtain ⟨n1, d1⟩ := qv_parts false a b (by omega)
  obtain ⟨n2, d2⟩ := qv_parts false c d (by omega)
  rw [Rat.le_iff, n1, d1, n2, d2]
  have g1 : 0 < Nat.gcd a b := Nat.gcd_pos_of_pos_right _ hb
  have g2 : 0 < Nat.gcd c d := Nat.gcd_pos_of_pos_right _ hd
  obtain ⟨a', ha⟩ := Nat.gcd_dvd_left a b
  obtain ⟨b', hb'⟩ := Nat.gcd_dvd_right a b
  obtain ⟨c', hc⟩ := Nat.gcd_dvd_left c d
  obtain ⟨d', hd'⟩ := Nat.gcd_dvd_right c d
  generalize Nat.gcd a b = g at *
  generalize Nat.gcd c d = h at *
  subst ha hb' hc hd'
  rw [Nat.mul_div_cancel_left _ g1, Nat.mul_div_cancel_left _ g1, Nat.mul_div_cancel_left _ g2, Nat.mul_div_cancel_left _ g2]
  simp only [sg, Bool.false_eq_true, if_false]
  have e1 : g * a' * (h * d') = (g * h) * (a' * d') := by simp only [Nat.mul_assoc, Nat.mul_left_comm]
  have e2 : h * c' * (g * b') = (g * h) * (c' * b') := by simp only [Nat.mul_assoc, Nat.mul_left_comm]
  rw [e1, e2, Nat.mul_le_mul_left_iff (Nat.mul_pos g1 g2)]
  exact_mod_cast Iff.rfl

theorem qv_nonneg (a b : Nat) : 0 ≤ qv false a b := by
  rcases Nat.eq_zero_or_pos b with rfl | hb
  · rw [qv_zero_den]; exact Rat.le_refl
  · have : qv false 0 1 ≤ qv false a b := (qv_le (by omega) hb).2 (by omega)
    rwa [qv_zero_num] at this

theorem two_pow2 (P : Nat) : (2 : Nat) ^ (2 * P) = 2 ^ P * 2 ^ P := by rw [Nat.two_mul, Nat.pow_add]

theorem qv_of {q : Rat} (h : ng q = false) : q = qv false (nm q) q.den := (ab_nonneg h).symm

/-- the whole number below a root, by its units -/
theorem sqI_spec (q : Rat) (p : Int) : sqI q p * sqI q p * q.den ≤ nm q * (2 ^ hold p * 2 ^ hold p) ∧ nm q * (2 ^ hold p * 2 ^ hold p) < (sqI q p + 1) * (sqI q p + 1) * q.den := by
  obtain ⟨h1, h2⟩ := rt_spec (nm q * 2 ^ (2 * hold p) / q.den)
  have hd : 0 < q.den := Nat.pos_of_ne_zero (den_ne q)
  rw [Nat.le_div_iff_mul_le hd] at h1
  rw [Nat.div_lt_iff_lt_mul hd] at h2
  rw [two_pow2] at h1 h2
  unfold sqI
  rw [two_pow2]
  exact ⟨h1, h2⟩

theorem sqR_exact {q : Rat} (h : sqB q = true) : sqR q * sqR q = q := by
  have h' := h
  unfold sqB at h
  simp only [Bool.and_eq_true, Bool.not_eq_true'] at h
  have h1 : rt (nm q) * rt (nm q) = nm q := of_decide_eq_true h.2.1
  have h2 : rt q.den * rt q.den = q.den := of_decide_eq_true h.2.2
  rw [sqR_some h', qv_mul, h1, h2, bne_self_eq_false]
  exact (qv_of h.1).symm

theorem sqLo_nonneg (q : Rat) (p : Int) : 0 ≤ sqLo q p := by
  unfold sqLo
  split
  · exact Rat.le_refl
  · split
    · rename_i h; rw [sqR_some h]; exact qv_nonneg _ _
    · exact qv_nonneg _ _
theorem sqHi_nonneg (q : Rat) (p : Int) : 0 ≤ sqHi q p := by
  unfold sqHi
  split
  · exact Rat.le_refl
  · split
    · rename_i h; rw [sqR_some h]; exact qv_nonneg _ _
    · exact qv_nonneg _ _

theorem sqLo_sq_le {q : Rat} (h : ng q = false) (p : Int) : sqLo q p * sqLo q p ≤ q := by
  unfold sqLo
  rw [h]
  simp only [Bool.false_eq_true, if_false]
  split
  · rename_i hs; rw [sqR_exact hs]; exact Rat.le_refl
  · rw [qv_mul, bne_self_eq_false]
    conv => rhs; rw [qv_of h]
    have hp : 0 < 2 ^ hold p := Nat.pow_pos (by omega)
    exact (qv_le (Nat.mul_pos hp hp) (Nat.pos_of_ne_zero (den_ne q))).2 (sqI_spec q p).1
theorem le_sqHi_sq {q : Rat} (h : ng q = false) (p : Int) : q ≤ sqHi q p * sqHi q p := by
  unfold sqHi
  rw [h]
  simp only [Bool.false_eq_true, if_false]
  split
  · rename_i hs; rw [sqR_exact hs]; exact Rat.le_refl
  · rw [qv_mul, bne_self_eq_false]
    conv => lhs; rw [qv_of h]
    have hp : 0 < 2 ^ hold p := Nat.pow_pos (by omega)
    exact (qv_le (Nat.pos_of_ne_zero (den_ne q)) (Nat.mul_pos hp hp)).2 (Nat.le_of_lt (sqI_spec q p).2)

theorem ng_iff {q : Rat} : ng q = false ↔ 0 ≤ q := by
  unfold ng
  rw [decide_eq_false_iff_not, Rat.le_iff]
  simp
theorem ng_of_le {a b : Rat} (h : ng a = false) (hab : a ≤ b) : ng b = false := ng_iff.2 (Rat.le_trans (ng_iff.1 h) hab)

theorem sqLo_le_sqHi {a b : Rat} (h : ng a = false) (hab : a ≤ b) (p r : Int) : sqLo a p ≤ sqHi b r :=
  sq_le_sq (sqLo_nonneg _ _) (sqHi_nonneg _ _) (Rat.le_trans (sqLo_sq_le h p) (Rat.le_trans hab (le_sqHi_sq (ng_of_le h hab) r)))

theorem rs_sqR {q : Rat} {K : Nat} (h : rs q ≤ K) (hK : 1 ≤ K) : rs (sqR q) ≤ K := by
  unfold sqR
  split
  · have hp := rs_parts h
    exact rs_qv _ _ _ _ (Nat.le_trans (limbs_len_mono (rt_le _)) hp.1) (Nat.le_trans (limbs_len_mono (rt_le _)) hp.2) hK
  · exact hK
theorem sqI_len {q : Rat} {K : Nat} (h : rs q ≤ K) (p : Int) : (limbs (sqI q p)).length ≤ K + 33 := by
  have hp := rs_parts h
  unfold sqI
  have h1 := limbs_len_mono (rt_le (nm q * 2 ^ (2 * hold p) / q.den))
  have h2 := limbs_len_mono (Nat.div_le_self (nm q * 2 ^ (2 * hold p)) q.den)
  have h3 := limbs_len_mul (nm q) (2 ^ (2 * hold p))
  have h4 := pow_len (k := 2 * hold p) (by have := hold_le p; omega)
  omega
theorem rs_sqLo {q : Rat} {K : Nat} (h : rs q ≤ K) (hK : 1 ≤ K) (p : Int) : rs (sqLo q p) ≤ K + 34 := by
  have h1 := sqI_len h p
  have h4 := pow_len (k := hold p) (by have := hold_le p; omega)
  unfold sqLo
  split
  · exact Nat.le_trans (by decide : (1 : Nat) ≤ 34) (by omega)
  · split
    · have := rs_sqR h hK; omega
    · exact rs_qv _ _ _ _ (by omega) (by omega) (by omega)
theorem rs_sqHi {q : Rat} {K : Nat} (h : rs q ≤ K) (hK : 1 ≤ K) (p : Int) : rs (sqHi q p) ≤ K + 34 := by
  have h1 := sqI_len h p
  have h2 := limbs_len_add (sqI q p) 1
  have h3 : (limbs 1).length = 1 := rfl
  have h4 := pow_len (k := hold p) (by have := hold_le p; omega)
  unfold sqHi
  split
  · exact Nat.le_trans (by decide : (1 : Nat) ≤ 34) (by omega)
  · split
    · have := rs_sqR h hK; omega
    · exact rs_qv _ _ _ _ (by omega) (by omega) (by omega)

theorem sq_mono {a b : Nat} (h : a * a < b * b) : a < b := by
  rcases Nat.lt_or_ge a b with h1 | h1
  · exact h1
  · have := Nat.mul_le_mul h1 h1; omega

theorem hold_add {p m : Int} (h1 : 0 ≤ p) (h2 : 0 ≤ m) (h3 : p + m ≤ 512) : hold (p + m) = hold p + m.toNat := by unfold hold; omega

/-- more bits lie within fewer -/
theorem sqI_more {q : Rat} {p m : Int} (h1 : 0 ≤ p) (h2 : 0 ≤ m) (h3 : p + m ≤ 512) : sqI q p * 2 ^ m.toNat ≤ sqI q (p + m) ∧ sqI q (p + m) + 1 ≤ (sqI q p + 1) * 2 ^ m.toNat := by
  obtain ⟨a1, a2⟩ := sqI_spec q p
  obtain ⟨b1, b2⟩ := sqI_spec q (p + m)
  rw [hold_add h1 h2 h3, Nat.pow_add] at b1 b2
  have hd : 0 < q.den := Nat.pos_of_ne_zero (den_ne q)
  generalize sqI q p = I at *
  generalize sqI q (p + m) = J at *
  generalize (2 : Nat) ^ hold p = P at *
  have hM : 0 < 2 ^ m.toNat := Nat.pow_pos (by omega)
  generalize (2 : Nat) ^ m.toNat = M at *
  have e1 : nm q * (P * M * (P * M)) = nm q * (P * P) * (M * M) := by simp only [Nat.mul_assoc, Nat.mul_left_comm]
  rw [e1] at b1 b2
  constructor
  · have k1 := Nat.mul_le_mul_right (M * M) a1
    have e2 : I * I * q.den * (M * M) = I * M * (I * M) * q.den := by simp only [Nat.mul_assoc, Nat.mul_left_comm, Nat.mul_comm]
    rw [e2] at k1
    have k2 : I * M * (I * M) * q.den < (J + 1) * (J + 1) * q.den := by omega
    have := sq_mono (Nat.lt_of_mul_lt_mul_right k2)
    omega
  · have k1 := Nat.mul_lt_mul_of_pos_right a2 (Nat.mul_pos hM hM)
    have e2 : (I + 1) * (I + 1) * q.den * (M * M) = (I + 1) * M * ((I + 1) * M) * q.den := by simp only [Nat.mul_assoc, Nat.mul_left_comm, Nat.mul_comm]
    rw [e2] at k1
    have k2 : J * J * q.den < (I + 1) * M * ((I + 1) * M) * q.den := by omega
    exact sq_mono (Nat.lt_of_mul_lt_mul_right k2)

theorem within_more {q : Rat} {p m : Int} (h : ng q = false) (h1 : 0 ≤ p) (h2 : 0 ≤ m) (h3 : p + m ≤ 512) : (hasB (sqLo q p) (sqHi q p) (sqLo q (p + m)) && hasB (sqLo q p) (sqHi q p) (sqHi q (p + m))) = true := by
  have key : sqLo q p ≤ sqLo q (p + m) ∧ sqHi q (p + m) ≤ sqHi q p := by
    unfold sqLo sqHi
    rw [h]
    simp only [Bool.false_eq_true, if_false]
    cases hs : sqB q with
    | true => simp only [if_true]; exact ⟨Rat.le_refl, Rat.le_refl⟩
    | false =>
      simp only [Bool.false_eq_true, if_false]
      obtain ⟨k1, k2⟩ := sqI_more (q := q) h1 h2 h3
      rw [hold_add h1 h2 h3, Nat.pow_add]
      have hP : 0 < 2 ^ hold p := Nat.pow_pos (by omega)
      have hM : 0 < 2 ^ m.toNat := Nat.pow_pos (by omega)
      generalize (2 : Nat) ^ hold p = P at *
      generalize (2 : Nat) ^ m.toNat = M at *
      refine ⟨(qv_le hP (Nat.mul_pos hP hM)).2 ?_, (qv_le (Nat.mul_pos hP hM) hP).2 ?_⟩
      · have := Nat.mul_le_mul_right P k1
        rw [show sqI q p * (P * M) = sqI q p * M * P by simp only [Nat.mul_assoc, Nat.mul_comm]]; exact this
      · have := Nat.mul_le_mul_right P k2
        rw [show (sqI q p + 1) * (P * M) = (sqI q p + 1) * M * P by simp only [Nat.mul_assoc, Nat.mul_comm]]; exact this
  have l1 := sqLo_le_sqHi h Rat.le_refl p (p + m)
  have l2 := sqLo_le_sqHi h Rat.le_refl (p + m) p
  unfold hasB
  simp [key.1, key.2, l1, l2]

end Go.Proofs.YtjfaefgabaimaaaGreat

namespace Go.Proofs.YtjfaefgabaimaaaGreat
open Go.RowKit
set_option linter.unusedSimpArgs false
set_option linter.unusedVariables false

def mn (p q : Rat) : Rat := if p ≤ q then p else q
def mx (p q : Rat) : Rat := if q ≤ p then p else q
theorem lowR_cr (p q : Rat) : lowR (cr p) (cr q) = cr (mn p q) := by unfold lowR mn; rw [cr_q, cr_q]; split <;> rfl
theorem highR_cr (p q : Rat) : highR (cr p) (cr q) = cr (mx p q) := by unfold highR mx; rw [cr_q, cr_q]; split <;> rfl
def prods (a b : BB) : Nat → Rat
  | 0 => a.lo.q * b.lo.q
  | 1 => a.lo.q * b.hi.q
  | 2 => a.hi.q * b.lo.q
  | _ => a.hi.q * b.hi.q
def accLo (f : Nat → Rat) : Nat → Rat
  | 0 => f 0
  | n + 1 => mn (accLo f n) (f (n + 1))
def accHi (f : Nat → Rat) : Nat → Rat
  | 0 => f 0
  | n + 1 => mx (accHi f n) (f (n + 1))
def mulLo (a b : BB) : Rat := accLo (prods a b) 3
def mulHi (a b : BB) : Rat := accHi (prods a b) 3
theorem rsb_mn {p q : Rat} {K : Nat} (h1 : rs p ≤ K) (h2 : rs q ≤ K) : rs (mn p q) ≤ K := by unfold mn; split <;> assumption
theorem rsb_mx {p q : Rat} {K : Nat} (h1 : rs p ≤ K) (h2 : rs q ≤ K) : rs (mx p q) ≤ K := by unfold mx; split <;> assumption
theorem rs_accLo {f : Nat → Rat} {K : Nat} (h : ∀ i, rs (f i) ≤ K) : ∀ n, rs (accLo f n) ≤ K
  | 0 => h 0
  | n + 1 => rsb_mn (rs_accLo h n) (h _)
theorem rs_accHi {f : Nat → Rat} {K : Nat} (h : ∀ i, rs (f i) ≤ K) : ∀ n, rs (accHi f n) ≤ K
  | 0 => h 0
  | n + 1 => rsb_mx (rs_accHi h n) (h _)
def prodRows (a b : BB) : List (List CV) := [ratCells (cr (prods a b 0)), ratCells (cr (prods a b 1)), ratCells (cr (prods a b 2)), ratCells (cr (prods a b 3))]

def d_ref4_Mul : Den := den2 aBall aBall (fun a b => a.sz ≤ 100000000 ∧ b.sz ≤ 100000000) fun a b => ballV (bb (mulLo a b) (mulHi a b))
set_option maxRecDepth 100000 in
set_option maxHeartbeats 1000000 in
theorem s_ref4_Mul : Sound Tryz.prog 12 d_ref4_Mul := by
  refine sound2 (fz := nofz) (l := [(18, d_ref2_Mul), (45, d_ref4_low), (46, d_ref4_high)]) TT_ok ⟨s_ref2_Mul, s_ref4_low, s_ref4_high, trivial⟩ mixed Tryz.func12 Tryz.ntmps12 Tryz.results12 Tryz.call12 rfl (by omega) (fun _ _ => rfl) ?_
  intro a b hp ha hb
  rw [codeK_start]
  simp only [go_sem, d_ref2_Mul, d_ref4_low, d_ref4_high, Nat.reduceBEq, Nat.reduceBNe, Nat.reduceLT, Nat.reduceLeDiff, Nat.reduceAdd, Nat.reduceSub, Nat.reduceMul, Nat.reduceEqDiff, Int.reduceNeg, Int.reduceAdd, Int.reduceLT, Int.reduceLE, Int.reduceToNat, ↓reduceIte]
  have l := BB.lens hp.1
  have m := BB.lens hp.2
  have q1 : rs a.lo.q ≤ 100000000 := rs_ok ha.1 l.1 (by omega)
  have q2 : rs a.hi.q ≤ 100000000 := rs_ok ha.2 l.2 (by omega)
  have q3 : rs b.lo.q ≤ 100000000 := rs_ok hb.1 m.1 (by omega)
  have q4 : rs b.hi.q ≤ 100000000 := rs_ok hb.2 m.2 (by omega)
  have hr : ∀ i, rs (prods a b i) ≤ 200000000 := by
    intro i
    unfold prods
    split <;> (refine rsb_mul ‹_› ‹_› ?_; omega)
  have hlo := rs_accLo hr
  have hhi := rs_accHi hr
  refine ⟨⟨by omega, by omega⟩, ⟨by omega, by omega⟩, ⟨by omega, by omega⟩, ⟨by omega, by omega⟩, by kernel_rfl, by omega, by omega, by kernel_rfl, ?_⟩
  refine codeK_loop (fun i : { i : Nat // i ≤ 3 } => [(7, 0, .av (intV ((i.1 : Nat) + 1 : Int))), (6, 0, .av (.one (.cel (.ptr 6 0)))), (6, 1, .cv (.bool (cr (accLo (prods a b) i.1)).s)), (6, 2, .cv (.lim none (cr (accLo (prods a b) i.1)).n)), (6, 3, .cv (.lim none (cr (accLo (prods a b) i.1)).d)), (6, 4, .cv (.bool (cr (accHi (prods a b) i.1)).s)), (6, 5, .cv (.lim none (cr (accHi (prods a b) i.1)).n)), (6, 6, .cv (.lim none (cr (accHi (prods a b) i.1)).d)),
    (5, 0, .av (.one (.cel (.sl none 3 (prodRows a b))))), (4, 0, .av (.one (.cel (.ptr 4 0)))), (4, 1, .cv (.bool false)), (4, 2, .cv .nil), (4, 3, .cv .nil), (4, 4, .cv (.bool false)), (4, 5, .cv .nil), (4, 6, .cv .nil)]) (fun i => 3 - i.1) ⟨0, by omega⟩ (le_of ?_) ?_
  · simp only [go_sem, leL, Nat.reduceBEq, Nat.reduceBNe, Nat.reduceLT, Nat.reduceLeDiff, Nat.reduceAdd, Nat.reduceSub, Nat.reduceMul, Nat.reduceEqDiff, Int.reduceNeg, Int.reduceAdd, Int.reduceLT, Int.reduceLE, Int.reduceToNat, ↓reduceIte, prodRows, prods, accLo, accHi, Int.ofNat_zero, Int.natCast_zero, Int.cast_ofNat_Int, Int.zero_add]
  · rintro ⟨i, hi⟩
    have hc : i = 0 ∨ i = 1 ∨ i = 2 ∨ i = 3 := by omega
    rcases hc with rfl | rfl | rfl | rfl
    all_goals simp only [go_sem, d_ref2_Mul, d_ref4_low, d_ref4_high, lowR_cr, highR_cr, prodRows, Int.cast_ofNat_Int, Int.natCast_zero, Int.ofNat_zero, Int.zero_add, Nat.reduceBEq, Nat.reduceBNe, Nat.reduceLT, Nat.reduceLeDiff, Nat.reduceAdd, Nat.reduceSub, Nat.reduceMul, Nat.reduceEqDiff, Int.reduceNeg, Int.reduceAdd, Int.reduceLT, Int.reduceLE, Int.reduceToNat, ↓reduceIte]
    · have k1 := hlo 0
      have k2 := hhi 0
      have k3 := hr 1
      refine ⟨⟨by omega, by omega⟩, ⟨by omega, by omega⟩, by kernel_rfl, ⟨⟨1, by omega⟩, by show 3 - 1 < 3 - 0; omega, le_of ?_⟩⟩
      simp only [go_sem, leL, Nat.reduceBEq, Nat.reduceBNe, Nat.reduceLT, Nat.reduceLeDiff, Nat.reduceAdd, Nat.reduceSub, Nat.reduceMul, Nat.reduceEqDiff, Int.reduceNeg, Int.reduceAdd, Int.reduceLT, Int.reduceLE, Int.reduceToNat, ↓reduceIte, prodRows, accLo, accHi, Int.cast_ofNat_Int, Int.natCast_zero, Int.ofNat_zero, Int.zero_add]
    · have k1 := hlo 1
      have k2 := hhi 1
      have k3 := hr 2
      refine ⟨⟨by omega, by omega⟩, ⟨by omega, by omega⟩, by kernel_rfl, ⟨⟨2, by omega⟩, by show 3 - 2 < 3 - 1; omega, le_of ?_⟩⟩
      simp only [go_sem, leL, Nat.reduceBEq, Nat.reduceBNe, Nat.reduceLT, Nat.reduceLeDiff, Nat.reduceAdd, Nat.reduceSub, Nat.reduceMul, Nat.reduceEqDiff, Int.reduceNeg, Int.reduceAdd, Int.reduceLT, Int.reduceLE, Int.reduceToNat, ↓reduceIte, prodRows, accLo, accHi, Int.cast_ofNat_Int, Int.natCast_zero, Int.ofNat_zero, Int.zero_add]
    · have k1 := hlo 2
      have k2 := hhi 2
      have k3 := hr 3
      refine ⟨⟨by omega, by omega⟩, ⟨by omega, by omega⟩, by kernel_rfl, ⟨⟨3, by omega⟩, by show 3 - 3 < 3 - 2; omega, le_of ?_⟩⟩
      simp only [go_sem, leL, Nat.reduceBEq, Nat.reduceBNe, Nat.reduceLT, Nat.reduceLeDiff, Nat.reduceAdd, Nat.reduceSub, Nat.reduceMul, Nat.reduceEqDiff, Int.reduceNeg, Int.reduceAdd, Int.reduceLT, Int.reduceLE, Int.reduceToNat, ↓reduceIte, prodRows, accLo, accHi, Int.cast_ofNat_Int, Int.natCast_zero, Int.ofNat_zero, Int.zero_add]
    · and_intros <;> rfl


end Go.Proofs.YtjfaefgabaimaaaGreat
