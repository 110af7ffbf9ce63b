/- e to a rational power, of whatever two parts, is not near a rational of few digits. Conditions: the power's norm at most 128, its denominator at most 2^200, the other's at most 2^512. e to a rational power, compared with rationals. No condition. -/
import Derived.Test.YtjfaefgabaimaaaGreatPb
set_option linter.unusedSimpArgs false
set_option linter.unusedVariables false
namespace Go.Proofs.YtjfaefgabaimaaaGreat.P
open GQ
theorem rp_add (a : Rat) (m : Nat) : ∀ n, rp a (m + n) = rp a m * rp a n
  | 0 => by show rp a m = rp a m * 1; rw [Rat.mul_one]
  | n + 1 => by show rp a (m + n) * a = rp a m * (rp a n * a); rw [rp_add a m n, Rat.mul_assoc]
theorem rp_rp (a : Rat) (m : Nat) : ∀ n, rp (rp a m) n = rp a (m * n)
  | 0 => rfl
  | n + 1 => by show rp (rp a m) n * rp a m = rp a (m * n + m); rw [rp_rp a m n, rp_add]
theorem rp_le {a b : Rat} (ha : 0 ≤ a) (h : a ≤ b) : ∀ n, rp a n ≤ rp b n
  | 0 => Rat.le_refl
  | n + 1 => rmul_le (rp_le ha h n) h ha (rp_nn (Rat.le_trans ha h) n)
theorem rp_one_le {a : Rat} (h : 1 ≤ a) : ∀ n, 1 ≤ rp a n
  | 0 => Rat.le_refl
  | n + 1 => by
    have h1 := rp_one_le h n
    have h2 := rmul_le h1 h (by decide) (by grind)
    show 1 ≤ rp a n * a
    rwa [Rat.one_mul] at h2
theorem rp_mono {a : Rat} (h : 1 ≤ a) {m n : Nat} (hmn : m ≤ n) : rp a m ≤ rp a n := by
  obtain ⟨d, rfl⟩ : ∃ d, n = m + d := ⟨n - m, by omega⟩
  rw [rp_add]
  have h1 := rp_one_le h d
  have h2 := Rat.mul_le_mul_of_nonneg_left h1 (rp_nn (show 0 ≤ a by grind) m)
  rwa [Rat.mul_one] at h2
theorem rp_nat (a : Nat) : ∀ n, rp (a : Rat) n = ((a ^ n : Nat) : Rat)
  | 0 => by show (1 : Rat) = ((1 : Nat) : Rat); rfl
  | n + 1 => by show rp (a : Rat) n * (a : Rat) = _; rw [rp_nat a n, Nat.pow_succ, Rat.natCast_mul]
theorem rp2_nat (n : Nat) : rp 2 n = ((2 ^ n : Nat) : Rat) := by
  rw [← rp_nat]; rfl
theorem rp2_succ (n : Nat) : rp 2 (n + 1) = rp 2 n * 2 := rfl
theorem rt_scale (c x : Rat) : ∀ j, rt (c * x) j = rp c j * rt x j
  | 0 => by show (1 : Rat) = 1 * 1; rw [Rat.mul_one]
  | j + 1 => by
    show rt (c * x) j * (1 / ((j + 1 : Nat) : Rat) * (c * x)) = rp c j * c * (rt x j * (1 / ((j + 1 : Nat) : Rat) * x))
    rw [rt_scale c x j]
    grind
theorem nr_gn_mul (d : Nat) (x : GQ) : nr (gn d * x) = (d : Rat) * nr x := by
  unfold nr gn
  simp only [mul_re, mul_im, q_re, q_im]
  rw [show ∀ a b : Rat, a * b - 0 * x.im = a * b from fun a b => by grind, show ∀ a b : Rat, a * b + 0 * x.re = a * b from fun a b => by grind, ab_mul, ab_mul, ab_of (nat_nn d)]
  grind
theorem small {m : Nat} (hm : 0 < m) {cs : List Nat} (hcs : ∀ c ∈ cs, c ≤ m) {b : GQ} {B : Rat} (hb : nr b ≤ B) (h4 : ((2 * m : Nat) : Rat) * B + ((2 * m : Nat) : Rat) * B ≤ ((cs.length + 1 : Nat) : Rat)) (r : Nat) :
    nr (sm (fun j => hs m cs j * et b j) (cs.length + r)) ≤ rt (2 * B) cs.length + rt (2 * B) cs.length := by
  have hB : 0 ≤ B := Rat.le_trans (nr_nn b) hb
  have hx : 0 ≤ ((2 * m : Nat) : Rat) * B := Rat.mul_nonneg (nat_nn _) hB
  have hmp : 0 < rp ((m : Nat) : Rat) cs.length := by
    rw [rp_nat]; exact nat_pos (Nat.pow_pos hm)
  have hterm : ∀ j, rp ((m : Nat) : Rat) cs.length * nr (hs m cs j * et b j) ≤ rt (((2 * m : Nat) : Rat) * B) j := by
    intro j
    have h1 := hn_bound hm m (Nat.le_refl _) cs hcs j
    have h2 : ((hn m cs j * m ^ cs.length : Nat) : Rat) ≤ (((2 * m) ^ j : Nat) : Rat) := Rat.natCast_le_natCast.2 h1
    rw [Rat.natCast_mul, ← rp_nat, ← rp_nat] at h2
    rw [show hs m cs j = gn (hn m cs j) from rfl, nr_gn_mul, rt_scale]
    have h3 := nr_et hb j
    have h5 := rmul_le h2 h3 (nr_nn _) (rp_nn (nat_nn _) j)
    have e : rp ((m : Nat) : Rat) cs.length * (((hn m cs j : Nat) : Rat) * nr (et b j)) = ((hn m cs j : Nat) : Rat) * rp ((m : Nat) : Rat) cs.length * nr (et b j) := by grind
    rw [e]; exact h5
  have key : ∀ r, rp ((m : Nat) : Rat) cs.length * nr (sm (fun j => hs m cs j * et b j) (cs.length + r)) + (rt (((2 * m : Nat) : Rat) * B) (cs.length + r) + rt (((2 * m : Nat) : Rat) * B) (cs.length + r)) ≤ rt (((2 * m : Nat) : Rat) * B) cs.length + rt (((2 * m : Nat) : Rat) * B) cs.length := by
    intro r
    induction r with
    | zero =>
      rw [Nat.add_zero, sm_all0 fun j hj => by rw [show hs m cs j = gn (hn m cs j) from rfl, hn_zero m cs j hj, gn_zero, gzero_mul], nr_zero, Rat.mul_zero, Rat.zero_add]
      exact Rat.le_refl
    | succ r ih =>
      have h1 := hterm (cs.length + r)
      have h2 := rt_half hx h4 r
      have h3 := nr_add (sm (fun j => hs m cs j * et b j) (cs.length + r)) (hs m cs (cs.length + r) * et b (cs.length + r))
      have h5 := Rat.mul_le_mul_of_nonneg_left h3 (Rat.le_of_lt hmp)
      rw [← Nat.add_assoc, sm_succ]
      rw [Rat.mul_add] at h5
      grind
  have h6 := key r
  have h7 := rt_nn hx (cs.length + r)
  have e : rt (((2 * m : Nat) : Rat) * B) cs.length = rp ((m : Nat) : Rat) cs.length * rt (2 * B) cs.length := by
    rw [← rt_scale]
    congr 1
    rw [Rat.natCast_mul, show ((2 : Nat) : Rat) = 2 from rfl]; grind
  rw [e] at h6
  have h8 : rp ((m : Nat) : Rat) cs.length * nr (sm (fun j => hs m cs j * et b j) (cs.length + r)) ≤ rp ((m : Nat) : Rat) cs.length * (rt (2 * B) cs.length + rt (2 * B) cs.length) := by grind
  exact Rat.le_of_mul_le_mul_left h8 hmp
theorem fc_et (z : GQ) : ∀ i, gn (fc i) * et z i = pw z i
  | 0 => by show gn 1 * 1 = 1; rw [gn_one, gmul_one]
  | i + 1 => by
    show gn ((i + 1) * fc i) * et z (i + 1) = pw z i * z
    rw [← fc_et z i, gn_mul, gmul_comm (gn (i + 1)), gmul_assoc, et_next, gmul_assoc]
theorem pw_gn' (c : Nat) (j : Nat) : gn (c ^ j) = pw (gn c) j := (pw_gn c j).symm
theorem et_wh {b n i : Nat} {z : GQ} (hz : Wh (gn b * z)) (hi : i ≤ n) : Wh (gn (fc n) * pw (gn b) n * et z i) := by
  obtain ⟨t, ht⟩ := fc_dvd n i (n - i) (by omega)
  have e : gn (fc n) * pw (gn b) n * et z i = gn (fc (n - i) * t) * pw (gn b) (n - i) * pw (gn b * z) i := by
    have h1 : pw (gn b) n = pw (gn b) i * pw (gn b) (n - i) := by rw [← pw_add]; congr 1; omega
    rw [ht, Nat.mul_assoc, gn_mul (fc i), h1, pw_mul, ← fc_et z i]
    generalize gn (fc (n - i) * t) = u
    generalize pw (gn b) i = v
    generalize pw (gn b) (n - i) = w
    generalize gn (fc i) = x
    generalize et z i = y
    simp only [gmul_assoc, gmul_comm, gmul_left_comm]
  rw [e]
  exact ((Wh.gn _).mul ((Wh.gn _).pw _)).mul (hz.pw _)
def dn (m n b k : Nat) : Nat := fc m ^ (n + 1) * fc m ^ n * fc n * b ^ n * k ^ m
theorem val_wh {m n : Nat} {a : Nat → Nat → GQ} (F : Far m n a) {s : Nat} (hs : s ≤ m) {b k : Nat} {z x : GQ} (hz : Wh (gn b * z)) (hx : Wh (gn k * x)) : Wh (gn (dn m n b k) * val m n a s z x) := by
  unfold val
  rw [← sm_mul]
  refine Wh.sum _ fun l hl => ?_
  rw [← sm_mul_right, ← sm_mul]
  refine Wh.sum _ fun i hi => ?_
  have hp := (dCs_props (n := n) (L := gn (fc m)) (Wh.gn _) (X := fun k => fac k (oth m (n + 1) k)) (fun k _ => by
    clear hl hi
    induction oth m (n + 1) k with
    | nil => exact Wh.one
    | cons l ls ih => exact (Wh.node k l).mul ih) (List.range s) (fun l hl => by have := List.mem_range.1 hl; omega) (c := a) (B := rp 2 (m * (n + 1))) (Rat.le_of_lt (rp2_pos _)) F.sup (fun k hk => unitN F hk) l (by omega)).1 i (by omega)
  obtain ⟨y, hy, ey⟩ := fac_oth (m := m) (k := l) (n + 1) (by omega)
  have e : gn (dn m n b k) * (dCs (List.range s) a l i * et z i * pw x l) = (fac l (oth m (n + 1) l) * dCs (List.range s) a l i * pw (gn (fc m)) (n - i)) * (y * pw (gn (fc m)) i) * (gn (fc n) * pw (gn b) n * et z i) * (pw (gn k) (m - l) * pw (gn k * x) l) := by
    unfold dn
    have h1 : pw (gn (fc m)) n = pw (gn (fc m)) i * pw (gn (fc m)) (n - i) := by rw [← pw_add]; congr 1; omega
    have h2 : pw (gn k) m = pw (gn k) l * pw (gn k) (m - l) := by rw [← pw_add]; congr 1; omega
    rw [gn_mul, gn_mul, gn_mul, gn_mul, pw_gn', pw_gn', pw_gn', pw_gn', ey, h1, h2, pw_mul]
    generalize fac l (oth m (n + 1) l) = t1
    generalize dCs (List.range s) a l i = t2
    generalize pw (gn (fc m)) i = t3
    generalize pw (gn (fc m)) (n - i) = t4
    generalize gn (fc n) = t5
    generalize pw (gn b) n = t6
    generalize et z i = t7
    generalize pw (gn k) l = t8
    generalize pw (gn k) (m - l) = t9
    generalize pw x l = t10
    simp only [gmul_assoc, gmul_comm, gmul_left_comm]
  rw [e]
  exact ((hp.mul (hy.mul ((Wh.gn _).pw _))).mul (et_wh hz (by omega))).mul (((Wh.gn _).pw _).mul (hx.pw _))
theorem pw_dif {u v : GQ} {R : Rat} (hR : 1 ≤ R) (hu : nr u ≤ R) (hv : nr v ≤ R) : ∀ k, nr (pw u k - pw v k) ≤ ((k : Nat) : Rat) * rp R k * nr (u - v)
  | 0 => by
    rw [pw_zero, pw_zero, gsub_self, nr_zero, show ((0 : Nat) : Rat) = 0 from rfl, Rat.zero_mul, Rat.zero_mul]
    exact Rat.le_refl
  | k + 1 => by
    have ih := pw_dif hR hu hv k
    have e : pw u (k + 1) - pw v (k + 1) = pw u k * (u - v) + (pw u k - pw v k) * v := by
      rw [pw_succ, pw_succ, gmul_sub, gsub_mul]
      apply GQ.ext' <;> simp only [add_re, add_im, sub_re, sub_im] <;> grind
    have hd := nr_nn (u - v)
    have hr := rp_nn (show 0 ≤ R by grind) k
    have h1 := nr_add (pw u k * (u - v)) ((pw u k - pw v k) * v)
    have h2 := nr_mul (pw u k) (u - v)
    have h3 := nr_mul (pw u k - pw v k) v
    have h4 : nr (pw u k) ≤ rp R k := Rat.le_trans (nr_pw u k) (rp_le (nr_nn u) hu k)
    have h5 := Rat.mul_le_mul_of_nonneg_right h4 hd
    have h6 := rmul_le ih hv (nr_nn v) (Rat.mul_nonneg (Rat.mul_nonneg (nat_nn k) hr) hd)
    have h7 := Rat.mul_le_mul_of_nonneg_left hR (Rat.mul_nonneg hr hd)
    have e2 : ((k : Nat) : Rat) * rp R k * nr (u - v) * R = ((k : Nat) : Rat) * (rp R k * nr (u - v) * R) := by grind
    have e3 : ((k + 1 : Nat) : Rat) * rp R (k + 1) * nr (u - v) = ((k : Nat) : Rat) * (rp R k * nr (u - v) * R) + rp R k * nr (u - v) * R := by
      rw [Rat.natCast_add, show ((1 : Nat) : Rat) = 1 from rfl]
      show (_ + 1) * (rp R k * R) * _ = _
      grind
    rw [e, e3]
    rw [e2] at h6
    rw [Rat.mul_one] at h7
    grind
theorem val_dif {m n : Nat} {a : Nat → Nat → GQ} (F : Far m n a) {s : Nat} (hs : s ≤ m) {z u v : GQ} {B R : Rat} (hz : nr z ≤ B) (hR : 1 ≤ R) (hu : nr u ≤ R) (hv : nr v ≤ R) :
    nr (val m n a s z u - val m n a s z v) ≤ ((m + 1 : Nat) : Rat) * (rp 2 (m * (n + 1)) * rp ((m + 1 : Nat) : Rat) m * rp 2 n * RE B (n + 1) * (((m : Nat) : Rat) * rp R m)) * nr (u - v) := by
  have hB : 0 ≤ B := Rat.le_trans (nr_nn z) hz
  have hp := fun l (hl : l ≤ m) => (dCs_props (n := n) (L := gn (fc m)) (Wh.gn _) (X := fun k => fac k (oth m (n + 1) k)) (fun k _ => by
    clear hl
    induction oth m (n + 1) k with
    | nil => exact Wh.one
    | cons l ls ih => exact (Wh.node k l).mul ih) (List.range s) (fun l hl => by have := List.mem_range.1 hl; omega) (c := a) (B := rp 2 (m * (n + 1))) (Rat.le_of_lt (rp2_pos _)) F.sup (fun k hk => unitN F hk) l hl).2
  let C : Rat := rp 2 (m * (n + 1)) * rp ((m + 1 : Nat) : Rat) m * rp 2 n
  have hC : 0 ≤ C := Rat.mul_nonneg (Rat.mul_nonneg (Rat.le_of_lt (rp2_pos _)) (rp_nn (nat_nn _) _)) (Rat.le_of_lt (rp2_pos _))
  have hc : ∀ l, l ≤ m → ∀ i, i ≤ n → nr (dCs (List.range s) a l i) ≤ C := by
    intro l hl i hi
    refine Rat.le_trans (hp l hl i hi) (rmul_le (Rat.mul_le_mul_of_nonneg_left ?_ (Rat.le_of_lt (rp2_pos _))) (rp_mono (by decide) (by omega)) (Rat.le_of_lt (rp2_pos _)) (Rat.mul_nonneg (Rat.le_of_lt (rp2_pos _)) (rp_nn (nat_nn _) _)))
    rw [List.length_range]
    exact rp_mono (by rw [show (1 : Rat) = ((1 : Nat) : Rat) from rfl, Rat.natCast_le_natCast]; omega) hs
  have hP : ∀ l, l ≤ m → nr (sm (fun i => dCs (List.range s) a l i * et z i) (n + 1)) ≤ C * RE B (n + 1) := by
    intro l hl
    refine Rat.le_trans (nr_sm _ _) ?_
    unfold RE
    rw [← rsm_mul]
    exact rsm_le fun i hi => Rat.le_trans (nr_mul _ _) (rmul_le (hc l hl i (by omega)) (nr_et hz i) (nr_nn _) hC)
  have e : val m n a s z u - val m n a s z v = sm (fun l => sm (fun i => dCs (List.range s) a l i * et z i) (n + 1) * (pw u l - pw v l)) (m + 1) := by
    unfold val
    rw [gsub_eq_of, ← sm_add]
    exact sm_congr fun l _ => by rw [← gmul_add, gsub_add_cancel]
  rw [e]
  refine Rat.le_trans (nr_sm _ _) ?_
  have hd := nr_nn (u - v)
  refine Rat.le_trans (rsm_le (g := fun _ => C * RE B (n + 1) * (((m : Nat) : Rat) * rp R m) * nr (u - v)) fun l hl => ?_) (by
    rw [rsm_const]
    show ((m + 1 : Nat) : Rat) * (C * RE B (n + 1) * (((m : Nat) : Rat) * rp R m) * nr (u - v)) ≤ ((m + 1 : Nat) : Rat) * (C * RE B (n + 1) * (((m : Nat) : Rat) * rp R m)) * nr (u - v)
    rw [← Rat.mul_assoc]; exact Rat.le_refl)
  refine Rat.le_trans (nr_mul _ _) ?_
  rw [Rat.mul_assoc (C * RE B (n + 1))]
  refine rmul_le (hP l (by omega)) ?_ (nr_nn _) (Rat.mul_nonneg hC (RE_nn hB _))
  refine Rat.le_trans (pw_dif hR hu hv l) (Rat.mul_le_mul_of_nonneg_right (rmul_le (Rat.natCast_le_natCast.2 (by omega)) (rp_mono hR (by omega)) (rp_nn (by grind) _) (nat_nn m)) hd)
theorem RE_one (n : Nat) : RE 1 n ≤ 3 := by
  rcases Nat.lt_or_ge n 1 with h | h
  · obtain rfl : n = 0 := by omega
    show (0 : Rat) ≤ 3
    decide
  · have h1 := RE_rest (x := 1) (by decide) (n := 1) (by decide +kernel) (n - 1)
    rw [show 1 + (n - 1) = n by omega] at h1
    have h2 := rt_nn (x := 1) (by decide) n
    have h3 : RE 1 1 + (rt 1 1 + rt 1 1) = 3 := by decide +kernel
    grind
theorem RE_nat (n : Nat) : ∀ k : Nat, RE ((k : Nat) : Rat) n ≤ rp 3 k
  | 0 => by
    rcases Nat.lt_or_ge n 1 with h | h
    · obtain rfl : n = 0 := by omega
      show (0 : Rat) ≤ 1
      decide
    · have h1 := RE_rest (x := 0) (by decide) (n := 1) (by decide +kernel) (n - 1)
      rw [show 1 + (n - 1) = n by omega] at h1
      have h2 := rt_nn (x := 0) (by decide) n
      have h3 : RE 0 1 + (rt 0 1 + rt 0 1) = 1 := by decide +kernel
      show RE 0 n ≤ 1
      grind
  | k + 1 => by
    have h1 := RE_add_le (nat_nn k) (show (0 : Rat) ≤ 1 by decide) n
    rw [Rat.natCast_add, show ((1 : Nat) : Rat) = 1 from rfl]
    exact Rat.le_trans h1 (rmul_le (RE_nat n k) (RE_one n) (RE_nn (by decide) n) (rp_nn (by decide) k))
theorem rt_own (J : Nat) : rt ((J : Nat) : Rat) J ≤ rp 3 J := by
  refine Rat.le_trans ?_ (RE_nat (J + 1) J)
  have := RE_nn (nat_nn J) J
  show _ ≤ RE ((J : Nat) : Rat) J + rt ((J : Nat) : Rat) J
  grind
theorem rt_far {J : Nat} (h : 67108864 ≤ J) : rt 256 J * rp 2 (16 * J) ≤ 1 := by
  have h1 := rt_own J
  have e1 : ((J : Nat) : Rat) = ((J : Nat) : Rat) * (1 / 256) * 256 := by rw [Rat.mul_assoc, show (1 / 256 * 256 : Rat) = 1 by decide +kernel, Rat.mul_one]
  have hJ : (262144 : Rat) ≤ ((J : Nat) : Rat) * (1 / 256) := by
    have h2 : ((67108864 : Nat) : Rat) ≤ ((J : Nat) : Rat) := Rat.natCast_le_natCast.2 h
    have h3 := Rat.mul_le_mul_of_nonneg_right h2 (show (0 : Rat) ≤ 1 / 256 by decide +kernel)
    rwa [show ((67108864 : Nat) : Rat) * (1 / 256) = 262144 by decide +kernel] at h3
  rw [e1, rt_scale] at h1
  have h4 : rp 2 (18 * J) ≤ rp (((J : Nat) : Rat) * (1 / 256)) J := by
    rw [← rp_rp, show rp 2 18 = 262144 by decide +kernel]
    exact rp_le (by decide) hJ J
  have h5 : rp 3 J ≤ rp 2 (2 * J) := by
    rw [← rp_rp, show rp 2 2 = 4 by decide +kernel]
    exact rp_le (by decide) (by decide) J
  have h6 := Rat.mul_le_mul_of_nonneg_right h4 (rt_nn (show (0 : Rat) ≤ 256 by decide) J)
  rw [show 18 * J = 16 * J + 2 * J by omega, rp_add] at h6
  have h7 : rt 256 J * rp 2 (16 * J) * rp 2 (2 * J) ≤ 1 * rp 2 (2 * J) := by grind
  exact Rat.le_of_mul_le_mul_right h7 (rp2_pos _)
theorem pow_le_rp {a e : Nat} (h : a ≤ 2 ^ e) (n : Nat) : ((a ^ n : Nat) : Rat) ≤ rp 2 (e * n) := by
  rw [rp2_nat, Rat.natCast_le_natCast, Nat.pow_mul]
  exact Nat.pow_le_pow_left h n
theorem fc_two {m e : Nat} (h : m ≤ 2 ^ e) : fc m ≤ 2 ^ (e * m) := Nat.le_trans (fc_le m) (by rw [Nat.pow_mul]; exact Nat.pow_le_pow_left h m)
theorem dn_le {n b k B K : Nat} (hn : n ≤ 2 ^ 20) (hb : b ≤ 2 ^ B) (hk : k ≤ 2 ^ K) : ((dn 64 n b k : Nat) : Rat) ≤ rp 2 (6 * 64 * (n + 1) + 6 * 64 * n + 20 * n + B * n + K * 64) := by
  have h1 := fc_two (m := 64) (e := 6) (by decide)
  have h2 : ((fc n : Nat) : Rat) ≤ rp 2 (20 * n) := Rat.le_trans (Rat.natCast_le_natCast.2 (fc_le n)) (pow_le_rp hn n)
  have p := fun i => Rat.le_of_lt (rp2_pos i)
  unfold dn
  rw [Rat.natCast_mul, Rat.natCast_mul, Rat.natCast_mul, Rat.natCast_mul, rp_add, rp_add, rp_add, rp_add]
  exact rmul_le (rmul_le (rmul_le (rmul_le (pow_le_rp h1 _) (pow_le_rp h1 _) (nat_nn _) (p _)) h2 (nat_nn _) (Rat.mul_nonneg (p _) (p _))) (pow_le_rp hb n) (nat_nn _) (Rat.mul_nonneg (Rat.mul_nonneg (p _) (p _)) (p _))) (pow_le_rp hk 64) (nat_nn _) (Rat.mul_nonneg (Rat.mul_nonneg (Rat.mul_nonneg (p _) (p _)) (p _)) (p _))
theorem dif_le (n : Nat) {R : Rat} {Re : Nat} (hR0 : 0 ≤ R) (hR : R ≤ rp 2 Re) : ((64 + 1 : Nat) : Rat) * (rp 2 (64 * (n + 1)) * rp ((64 + 1 : Nat) : Rat) 64 * rp 2 n * RE 128 (n + 1) * (((64 : Nat) : Rat) * rp R 64)) ≤ rp 2 (7 + (64 * (n + 1) + 7 * 64 + n + 2 * 128 + (6 + Re * 64))) := by
  have a1 : ((64 + 1 : Nat) : Rat) ≤ rp 2 7 := by decide +kernel
  have a2 : rp ((64 + 1 : Nat) : Rat) 64 ≤ rp 2 (7 * 64) := by
    rw [← rp_rp]
    exact rp_le (nat_nn _) a1 64
  have a3 : RE 128 (n + 1) ≤ rp 2 (2 * 128) := by
    refine Rat.le_trans (RE_nat (n + 1) 128) ?_
    rw [← rp_rp, show rp 2 2 = 4 by decide +kernel]
    exact rp_le (by decide) (by decide) 128
  have a4 : ((64 : Nat) : Rat) ≤ rp 2 6 := by decide +kernel
  have a5 : rp R 64 ≤ rp 2 (Re * 64) := by rw [← rp_rp]; exact rp_le hR0 hR 64
  have p := fun i => Rat.le_of_lt (rp2_pos i)
  rw [rp_add, rp_add, rp_add, rp_add, rp_add, rp_add]
  exact rmul_le a1 (rmul_le (rmul_le (rmul_le (rmul_le Rat.le_refl a2 (rp_nn (nat_nn _) _) (p _)) Rat.le_refl (p _) (Rat.mul_nonneg (p _) (p _))) a3 (RE_nn (by decide) _) (Rat.mul_nonneg (Rat.mul_nonneg (p _) (p _)) (p _))) (rmul_le a4 a5 (rp_nn hR0 _) (p _)) (Rat.mul_nonneg (nat_nn _) (rp_nn hR0 _)) (Rat.mul_nonneg (Rat.mul_nonneg (Rat.mul_nonneg (p _) (p _)) (p _)) (p _))) (Rat.mul_nonneg (Rat.mul_nonneg (Rat.mul_nonneg (Rat.mul_nonneg (p _) (rp_nn (nat_nn _) _)) (p _)) (RE_nn (by decide) _)) (Rat.mul_nonneg (nat_nn _) (rp_nn hR0 _))) (p _)
theorem En128 {z : GQ} (hz : nr z ≤ 128) (N : Nat) : nr (En z N) ≤ rp 2 256 := by
  refine Rat.le_trans (nr_En hz N) (Rat.le_trans (RE_nat N 128) ?_)
  rw [show (256 : Nat) = 2 * 128 from rfl, ← rp_rp, show rp 2 2 = 4 by decide +kernel]
  exact rp_le (by decide) (by decide) 128
/-- e to a rational power is not near a rational -/
theorem measure {K b k B C : Nat} {z x : GQ} (hz0 : z ≠ 0) (hz : nr z ≤ 128) (hb0 : 0 < b) (hb : b ≤ 2 ^ B) (hB : B ≤ 200) (hbz : Wh (gn b * z)) (hk0 : 0 < k) (hk : k ≤ 2 ^ C) (hC : C ≤ 512) (hkx : Wh (gn k * x)) (hK : 2147483648 ≤ K) : ∃ n0 : Nat, ∀ N, n0 ≤ N → 1 ≤ rp 2 K * nr (En z N - x) := by
  obtain ⟨n, hn⟩ : ∃ n : Nat, n = 1048576 := ⟨_, rfl⟩
  obtain ⟨R0, hR0⟩ : ∃ R0 : Nat, R0 = 256 := ⟨_, rfl⟩
  obtain ⟨a, F⟩ := far_ex 64 n
  obtain ⟨s, hs, hv⟩ := not_all F (b := z) (x := x) hz0
  obtain ⟨cs, hl, hcs, hrep⟩ := F.low hs
  have hJ : 67108864 ≤ cs.length := by omega
  have hw := val_wh F hs hbz hkx
  have hD : ((dn 64 n b k : Nat) : Rat) ≤ rp 2 (6 * 64 * (n + 1) + 6 * 64 * n + 20 * n + B * n + C * 64) := dn_le (by omega) hb hk
  have hBn : B * n ≤ 200 * n := Nat.mul_le_mul_right n hB
  have hdp : 0 < dn 64 n b k := by
    unfold dn
    exact Nat.mul_pos (Nat.mul_pos (Nat.mul_pos (Nat.mul_pos (Nat.pow_pos (fc_pos _)) (Nat.pow_pos (fc_pos _))) (fc_pos _)) (Nat.pow_pos hb0)) (Nat.pow_pos hk0)
  generalize dn 64 n b k = D at hw hD hdp
  obtain ⟨E, hE⟩ : ∃ E : Nat, E = 6 * 64 * (n + 1) + 6 * 64 * n + 20 * n + B * n + C * 64 := ⟨_, rfl⟩
  rw [← hE] at hD
  have hEl : E ≤ 1040 * n := by omega
  have hD0 := nat_pos hdp
  have h1 : 1 ≤ ((D : Nat) : Rat) * nr (val 64 n a s z x) := by
    rw [← nr_gn_mul]
    refine hw.large fun e => ?_
    rcases gmul_eq_zero e with e | e
    · exact gn_ne (by omega) e
    · exact hv e
  have hS : ∀ r, nr (sm (fun j => rep 64 (n + 1) (dCs (List.range s) a) j * et z j) (cs.length + r)) ≤ rt 256 cs.length + rt 256 cs.length := by
    intro r
    rw [sm_congr (g := fun j => P.hs 64 cs j * et z j) fun j _ => by rw [hrep]]
    have := small (m := 64) (by decide) hcs hz (by
      have : ((32768 : Nat) : Rat) ≤ ((cs.length + 1 : Nat) : Rat) := Rat.natCast_le_natCast.2 (by omega)
      rw [show ((2 * 64 : Nat) : Rat) * 128 + ((2 * 64 : Nat) : Rat) * 128 = ((32768 : Nat) : Rat) by decide +kernel]
      exact this) r
    rwa [show (2 * 128 : Rat) = 256 by decide +kernel] at this
  have hSD : ((D : Nat) : Rat) * (rt 256 cs.length * 8) ≤ 1 := by
    have h2 := rt_far hJ
    have h3 := rt_nn (show (0 : Rat) ≤ 256 by decide) cs.length
    have h4 : ((D : Nat) : Rat) * 8 ≤ rp 2 (16 * cs.length) := by
      refine Rat.le_trans (Rat.mul_le_mul_of_nonneg_right hD (by decide)) ?_
      rw [show (8 : Rat) = rp 2 3 by decide +kernel, ← rp_add]
      exact rp_mono (by decide) (by omega)
    have h5 := Rat.mul_le_mul_of_nonneg_left h4 h3
    grind
  obtain ⟨n1, hn1⟩ := val_nul 64 n (dCs (List.range s) a) z (1 / (4 * ((D : Nat) : Rat))) (inv_pos' (Rat.mul_pos (by decide) hD0))
  have hDe : ((D : Nat) : Rat) * (1 / (4 * ((D : Nat) : Rat))) * 4 = 1 := by
    have := one_div_mul (Rat.mul_pos (show (0 : Rat) < 4 by decide) hD0)
    grind
  refine ⟨max n1 cs.length, fun N hN => ?_⟩
  have h2 := hn1 N (by omega)
  have h3 := hS (N - cs.length)
  rw [show cs.length + (N - cs.length) = N by omega] at h3
  have hvE : nr (val 64 n a s z (En z N)) ≤ rt 256 cs.length + rt 256 cs.length + 1 / (4 * ((D : Nat) : Rat)) := by
    have h4 := nr_sub (sm (fun j => rep 64 (n + 1) (dCs (List.range s) a) j * et z j) N) (sm (fun j => rep 64 (n + 1) (dCs (List.range s) a) j * et z j) N - val 64 n a s z (En z N))
    have e : sm (fun j => rep 64 (n + 1) (dCs (List.range s) a) j * et z j) N - (sm (fun j => rep 64 (n + 1) (dCs (List.range s) a) j * et z j) N - val 64 n a s z (En z N)) = val 64 n a s z (En z N) := by
      generalize sm (fun j => rep 64 (n + 1) (dCs (List.range s) a) j * et z j) N = u
      generalize val 64 n a s z (En z N) = v
      apply GQ.ext' <;> simp only [sub_re, sub_im] <;> grind
    rw [e] at h4
    have h2' : nr (sm (fun j => rep 64 (n + 1) (dCs (List.range s) a) j * et z j) N - val 64 n a s z (En z N)) ≤ 1 / (4 * ((D : Nat) : Rat)) := h2
    grind
  have hEn : nr (En z N) ≤ rp 2 R0 := by rw [hR0]; exact En128 hz N
  by_cases hbig : 1 ≤ nr (En z N - x)
  · have h4 := rmul_le (rp_one_le (show (1 : Rat) ≤ 2 by decide) K) hbig (by decide) (Rat.le_of_lt (rp2_pos _))
    rwa [Rat.one_mul] at h4
  · have hsm : nr (En z N - x) ≤ 1 := Rat.le_of_lt (Rat.not_le.1 hbig)
    have hx : nr x ≤ rp 2 (R0 + 1) := by
      have h4 := nr_sub (En z N) (En z N - x)
      have e : En z N - (En z N - x) = x := by apply GQ.ext' <;> simp only [sub_re, sub_im] <;> grind
      rw [e] at h4
      have h5 := rp_one_le (show (1 : Rat) ≤ 2 by decide) R0
      rw [rp2_succ]; grind
    have hE2 : nr (En z N) ≤ rp 2 (R0 + 1) := Rat.le_trans hEn (rp_mono (by decide) (by omega))
    have hdif := val_dif F hs hz (rp_one_le (show (1 : Rat) ≤ 2 by decide) (R0 + 1)) hE2 hx
    have hCC := dif_le n (Rat.le_of_lt (rp2_pos (R0 + 1))) (Rat.le_refl (a := rp 2 (R0 + 1)))
    obtain ⟨M, hM⟩ : ∃ M : Nat, M = 7 + (64 * (n + 1) + 7 * 64 + n + 2 * 128 + (6 + (R0 + 1) * 64)) := ⟨_, rfl⟩
    rw [← hM] at hCC
    have hd0 := nr_nn (En z N - x)
    have h6 := Rat.le_trans hdif (Rat.mul_le_mul_of_nonneg_right hCC hd0)
    have h7 : nr (val 64 n a s z x) ≤ nr (val 64 n a s z (En z N)) + nr (val 64 n a s z (En z N) - val 64 n a s z x) := by
      have h4 := nr_sub (val 64 n a s z (En z N)) (val 64 n a s z (En z N) - val 64 n a s z x)
      have e : val 64 n a s z (En z N) - (val 64 n a s z (En z N) - val 64 n a s z x) = val 64 n a s z x := by
        generalize val 64 n a s z (En z N) = u
        apply GQ.ext' <;> simp only [sub_re, sub_im] <;> grind
      rwa [e] at h4
    have h8 : nr (val 64 n a s z x) ≤ rt 256 cs.length + rt 256 cs.length + 1 / (4 * ((D : Nat) : Rat)) + rp 2 M * nr (En z N - x) := by grind
    have h9 := Rat.mul_le_mul_of_nonneg_left h8 (Rat.le_of_lt hD0)
    have h10 : 1 ≤ ((D : Nat) : Rat) * 2 * (rp 2 M * nr (En z N - x)) := by grind
    refine Rat.le_trans h10 ?_
    rw [← Rat.mul_assoc]
    refine Rat.mul_le_mul_of_nonneg_right ?_ hd0
    have h11 : ((D : Nat) : Rat) * 2 ≤ rp 2 (E + 1) := by rw [rp2_succ]; exact Rat.mul_le_mul_of_nonneg_right hD (by decide)
    refine Rat.le_trans (Rat.mul_le_mul_of_nonneg_right h11 (Rat.le_of_lt (rp2_pos M))) ?_
    rw [← rp_add]
    exact rp_mono (by decide) (by omega)
def Ev (p : Nat → Prop) : Prop := ∃ n0 : Nat, ∀ n, n0 ≤ n → p n
theorem Ev.and {p q : Nat → Prop} (h : Ev p) (k : Ev q) : Ev fun n => p n ∧ q n := by
  obtain ⟨a, ha⟩ := h
  obtain ⟨b, hb⟩ := k
  exact ⟨max a b, fun n hn => ⟨ha n (by omega), hb n (by omega)⟩⟩
theorem Ev.imp {p q : Nat → Prop} (h : Ev p) (k : ∀ n, p n → q n) : Ev q := by
  obtain ⟨a, ha⟩ := h
  exact ⟨a, fun n hn => k n (ha n hn)⟩
theorem Ev.all {p : Nat → Prop} (h : ∀ n, p n) : Ev p := ⟨0, fun n _ => h n⟩
theorem Ev.ex {p : Nat → Prop} (h : Ev p) : ∃ n, p n := by
  obtain ⟨a, ha⟩ := h
  exact ⟨a, ha a (Nat.le_refl _)⟩
theorem ab_lo {x b : Rat} (h : ab x ≤ b) : -b ≤ x := by have := ab_le.1 h; grind
theorem ab_hi {x b : Rat} (h : ab x ≤ b) : x ≤ b := by have := ab_le.1 h; grind
theorem rat_lt_or (a b : Rat) : a < b ∨ b ≤ a := by grind
theorem le_eps {a b : Rat} (h : ∀ ε : Rat, 0 < ε → a ≤ b + ε) : a ≤ b := by
  rcases Rat.le_total (a := a) (b := b) with h1 | h1
  · exact h1
  · by_cases e : a = b
    · rw [e]; exact Rat.le_refl
    · have h2 : 0 < (a - b) / 2 := by grind
      have := h _ h2
      grind
/-- e to the power x is at most c -/
def EL (x c : Rat) : Prop := ∀ ε : Rat, 0 < ε → Ev fun n => RE x n ≤ c + ε
/-- e to the power x is at least c -/
def EG (x c : Rat) : Prop := ∀ ε : Rat, 0 < ε → Ev fun n => c ≤ RE x n + ε
theorem EL.le {x c d : Rat} (h : EL x c) (k : c ≤ d) : EL x d := fun ε he => (h ε he).imp fun n hn => by grind
theorem EG.le {x c d : Rat} (h : EG x c) (k : d ≤ c) : EG x d := fun ε he => (h ε he).imp fun n hn => by grind
theorem EL.ge {x c d : Rat} (h : EL x c) (k : EG x d) : d ≤ c := le_eps fun ε he => by
  obtain ⟨n, h1, h2⟩ := ((h (ε / 2) (by grind)).and (k (ε / 2) (by grind))).ex
  grind
theorem RE_add (x y : Rat) {ε : Rat} (he : 0 < ε) : Ev fun n => ab (RE x n * RE y n - RE (x + y) n) ≤ ε := by
  obtain ⟨n0, h⟩ := En_add_nul (q x) (q y) ε he
  refine ⟨n0, fun n hn => ?_⟩
  have h1 := h n hn
  simp only at h1
  rw [← q_add, En_q, En_q, En_q, ← q_mul, ← q_sub, nr_q] at h1
  exact h1
theorem RE_bd (x : Rat) : ∃ B : Rat, 0 ≤ B ∧ ∀ n, ab (RE x n) ≤ B := by
  obtain ⟨B, hB, h⟩ := En_bd (q x)
  refine ⟨B, hB, fun n => ?_⟩
  have := h n
  rwa [En_q, nr_q] at this
theorem RE_ge_one {x : Rat} (hx : 0 ≤ x) {n : Nat} (hn : 1 ≤ n) : 1 ≤ RE x n := by
  have h := RE_mono hx 1 (n - 1)
  rw [show 1 + (n - 1) = n by omega] at h
  have e : RE x 1 = 1 := by show 0 + (1 : Rat) = 1; grind
  rw [e] at h; exact h
theorem RE_zero {n : Nat} (hn : 1 ≤ n) : RE 0 n = 1 := by
  have h1 := RE_ge_one (Rat.le_refl (a := 0)) hn
  have h2 := RE_rest (x := 0) Rat.le_refl (n := 1) (by decide +kernel) (n - 1)
  rw [show 1 + (n - 1) = n by omega] at h2
  have h3 : RE 0 1 + (rt 0 1 + rt 0 1) = 1 := by decide +kernel
  have h4 := rt_nn (x := 0) Rat.le_refl n
  grind
theorem RE_neg (x : Rat) {ε : Rat} (he : 0 < ε) : Ev fun n => ab (RE x n * RE (-x) n - 1) ≤ ε := by
  have h := (RE_add x (-x) he).and ⟨1, fun n hn => hn⟩
  refine h.imp fun n hn => ?_
  obtain ⟨h1, h2⟩ := hn
  rw [Rat.add_neg_cancel, RE_zero h2] at h1
  exact h1
theorem RE_pos (x : Rat) : Ev fun n => 0 < RE x n := by
  rcases Rat.le_total (a := 0) (b := x) with h | h
  · exact ⟨1, fun n hn => by have := RE_ge_one h hn; grind⟩
  · have h' : 0 ≤ -x := by grind
    have h1 := (RE_neg (-x) (show (0 : Rat) < 1 / 2 by decide +kernel)).and ⟨1, fun n hn => RE_ge_one h' hn⟩
    refine h1.imp fun n hn => ?_
    obtain ⟨h2, h3⟩ := hn
    rw [Rat.neg_neg] at h2
    have h4 := ab_lo h2
    rcases rat_lt_or 0 (RE x n) with h5 | h5
    · exact h5
    · have h6 := Rat.mul_le_mul_of_nonneg_left h5 (show 0 ≤ RE (-x) n by grind)
      grind
theorem EG.zero (x : Rat) : EG x 0 := fun ε he => (RE_pos x).imp fun n hn => by grind
theorem EL.nn {x c : Rat} (h : EL x c) : 0 ≤ c := h.ge (EG.zero x)
/-- the part of ε that is asked of each -/
theorem eps {ε B : Rat} (he : 0 < ε) (hB : 0 ≤ B) : ∃ δ : Rat, 0 < δ ∧ δ * (B + 1) ≤ ε := by
  have hp : 0 < B + 1 := by grind
  refine ⟨ε * (1 / (B + 1)), Rat.mul_pos he (inv_pos' hp), ?_⟩
  rw [Rat.mul_assoc, one_div_mul hp, Rat.mul_one]
  exact Rat.le_refl
theorem EL.add {x y c d : Rat} (h : EL x c) (k : EL y d) : EL (x + y) (c * d) := fun ε he => by
  have hc := h.nn
  obtain ⟨B, hB, hb⟩ := RE_bd y
  obtain ⟨δ, hd, hd2⟩ := eps he (B := c + B) (by grind)
  have hh := (((h δ hd).and (k δ hd)).and (RE_pos y)).and (RE_add x y hd)
  refine hh.imp fun n hn => ?_
  obtain ⟨⟨⟨h1, h2⟩, h3⟩, h4⟩ := hn
  have h5 := ab_lo h4
  have h6 := Rat.mul_le_mul_of_nonneg_right h1 (Rat.le_of_lt h3)
  have h7 := Rat.mul_le_mul_of_nonneg_left h2 hc
  have h8 := Rat.le_trans (le_ab (RE y n)) (hb n)
  have h9 := Rat.mul_le_mul_of_nonneg_left h8 (Rat.le_of_lt hd)
  grind
theorem EG.add {x y c d : Rat} (hc : 0 ≤ c) (h : EG x c) (k : EG y d) : EG (x + y) (c * d) := fun ε he => by
  obtain ⟨B, hB, hb⟩ := RE_bd y
  obtain ⟨δ, hd, hd2⟩ := eps he (B := c + B) (by grind)
  have hh := (((h δ hd).and (k δ hd)).and (RE_pos y)).and (RE_add x y hd)
  refine hh.imp fun n hn => ?_
  obtain ⟨⟨⟨h1, h2⟩, h3⟩, h4⟩ := hn
  have h5 := ab_hi h4
  have h6 := Rat.mul_le_mul_of_nonneg_right h1 (Rat.le_of_lt h3)
  have h7 := Rat.mul_le_mul_of_nonneg_left h2 hc
  have h8 := Rat.le_trans (le_ab (RE y n)) (hb n)
  have h9 := Rat.mul_le_mul_of_nonneg_left h8 (Rat.le_of_lt hd)
  grind
theorem EL.neg {x c d : Rat} (h : EL x c) (hc : 0 < c) (hd : c * d ≤ 1) : EG (-x) d := fun ε he => by
  obtain ⟨B, hB, hb⟩ := RE_bd (-x)
  obtain ⟨δ, hp, hd2⟩ := eps (ε := ε * c) (Rat.mul_pos he hc) hB
  have hh := ((h δ hp).and (RE_pos (-x))).and (RE_neg x hp)
  refine hh.imp fun n hn => ?_
  obtain ⟨⟨h1, h3⟩, h4⟩ := hn
  have h5 := ab_lo h4
  have h6 := Rat.mul_le_mul_of_nonneg_right h1 (Rat.le_of_lt h3)
  have h8 := Rat.le_trans (le_ab (RE (-x) n)) (hb n)
  have h9 := Rat.mul_le_mul_of_nonneg_left h8 (Rat.le_of_lt hp)
  have h10 : c * d ≤ c * (RE (-x) n + ε) := by grind
  exact Rat.le_of_mul_le_mul_left h10 hc
theorem EG.neg {x c d : Rat} (h : EG x c) (hc : 0 < c) (hd : 1 ≤ c * d) : EL (-x) d := fun ε he => by
  obtain ⟨B, hB, hb⟩ := RE_bd (-x)
  obtain ⟨δ, hp, hd2⟩ := eps (ε := ε * c) (Rat.mul_pos he hc) hB
  have hh := ((h δ hp).and (RE_pos (-x))).and (RE_neg x hp)
  refine hh.imp fun n hn => ?_
  obtain ⟨⟨h1, h3⟩, h4⟩ := hn
  have h5 := ab_hi h4
  have h6 := Rat.mul_le_mul_of_nonneg_right h1 (Rat.le_of_lt h3)
  have h8 := Rat.le_trans (le_ab (RE (-x) n)) (hb n)
  have h9 := Rat.mul_le_mul_of_nonneg_left h8 (Rat.le_of_lt hp)
  have h10 : c * RE (-x) n ≤ c * (d + ε) := by grind
  exact Rat.le_of_mul_le_mul_left h10 hc
theorem EG.one_add {x : Rat} (hx : 0 ≤ x) : EG x (1 + x) := fun ε he => ⟨2, fun n hn => by
  have h := RE_mono hx 2 (n - 2)
  rw [show 2 + (n - 2) = n by omega] at h
  have e : RE x 2 = 1 + x := by
    show 0 + (1 : Rat) + 1 * (1 / ((0 + 1 : Nat) : Rat) * x) = 1 + x
    rw [show (1 : Rat) / ((0 + 1 : Nat) : Rat) = 1 by decide +kernel]; grind
  grind⟩
theorem EG.sum {x : Rat} (hx : 0 ≤ x) (m : Nat) : EG x (RE x m) := fun ε he => ⟨m, fun n hn => by
  have h := RE_mono hx m (n - m)
  rw [show m + (n - m) = n by omega] at h
  grind⟩
theorem EL.sum {x : Rat} (hx : 0 ≤ x) {m : Nat} (h : x + x ≤ ((m + 1 : Nat) : Rat)) : EL x (RE x m + (rt x m + rt x m)) := fun ε he => ⟨m, fun n hn => by
  have h := RE_rest hx h (n - m)
  rw [show m + (n - m) = n by omega] at h
  have := rt_nn hx n
  grind⟩
theorem EL.one_add {x : Rat} (hx : 0 ≤ x) (h : x ≤ 1) : EL x (1 + (x + x)) := by
  have h1 := EL.sum hx (m := 1) (by rw [show ((1 + 1 : Nat) : Rat) = 2 by decide +kernel]; grind)
  refine h1.le ?_
  have e1 : RE x 1 = 1 := by show 0 + (1 : Rat) = 1; grind
  have e2 : rt x 1 = x := by
    show 1 * (1 / ((0 + 1 : Nat) : Rat) * x) = x
    rw [show (1 : Rat) / ((0 + 1 : Nat) : Rat) = 1 by decide +kernel]; grind
  rw [e1, e2]; exact Rat.le_refl
theorem EL.zero : EL 0 1 := fun ε he => ⟨1, fun n hn => by show RE 0 n ≤ 1 + ε; rw [RE_zero hn]; grind⟩
theorem EG.of_zero : EG 0 1 := fun ε he => ⟨1, fun n hn => by show 1 ≤ RE 0 n + ε; rw [RE_zero hn]; grind⟩
theorem EG.mono {x y c : Rat} (h : EG x c) (hxy : x ≤ y) : EG y c := by
  rcases Rat.le_total (a := 0) (b := c) with hc | hc
  · have h1 := EG.add hc h ((EG.one_add (x := y - x) (by grind)).le (d := 1) (by grind))
    rw [Rat.mul_one, show x + (y - x) = y by grind] at h1
    exact h1
  · exact (EG.zero y).le hc
theorem EL.mono {x y c : Rat} (h : EL y c) (hxy : x ≤ y) : EL x c := by
  have h1 := ((EG.one_add (x := y - x) (by grind)).le (d := 1) (by grind)).neg (d := 1) (by decide) (by decide +kernel)
  have h2 := h.add h1
  rw [Rat.mul_one, show y + -(y - x) = x by grind] at h2
  exact h2
theorem EL.pos {x c : Rat} (h : EL x c) : 0 < c := by
  obtain ⟨B, hB, hb⟩ := RE_bd (-x)
  have hp : 0 < B + 1 := by grind
  have h1 : EL (-x) (B + 1) := fun ε he => ⟨0, fun n _ => by have := Rat.le_trans (le_ab _) (hb n); grind⟩
  have h2 := h1.neg (d := 1 / (B + 1)) hp (by rw [Rat.mul_comm, one_div_mul hp]; exact Rat.le_refl)
  rw [Rat.neg_neg] at h2
  have h3 := inv_pos' hp
  have h4 := h.ge h2
  grind
theorem rat_den (x : Rat) : ((x.den : Nat) : Rat) * x = (x.num : Rat) := by
  have h := Rat.num_divInt_den x
  have hd := nat_pos x.den_pos
  have h2 : x = (x.num : Rat) / ((x.den : Nat) : Rat) := by
    rw [← Rat.intCast_natCast, ← Rat.divInt_eq_div]; exact h.symm
  have h3 : (x.num : Rat) / ((x.den : Nat) : Rat) * ((x.den : Nat) : Rat) = (x.num : Rat) := Rat.div_mul_cancel (by grind)
  rw [← h2] at h3
  rw [Rat.mul_comm]; exact h3
theorem Wh.den {x : Rat} : Wh (P.gn x.den * q x) := ⟨x.num, 0, by
  have h : ((x.den : Nat) : Rat) * x = (x.num : Rat) := rat_den x
  apply GQ.ext'
  · simp only [mul_re, P.gn, q_re, q_im]; rw [Rat.zero_mul, h]; grind
  · simp only [mul_im, P.gn, q_re, q_im]; grind⟩
end Go.Proofs.YtjfaefgabaimaaaGreat.P
