/- Tries: how likely counts are, as parts of natural numbers, and the laws of it, without any program. No condition. fix.Less, fix.Over; disc: isTry, power, tries, sum, Binom, BinomCdf, BinomTwo, by the abstract walk. Conditions: numbers of at most 1000 limbs. -/
import Derived.Test.YtocpmekblkfdiaaGreatDoorEa
import Derived.Test.YtocpmekblkfdiaaGreatDoorCb
import Derived.Test.YtocpmekblkfdiaaGreatDoorHz
namespace Go.Proofs.YtocpmekblkfdiaaGreatDoor
open Go.RowKit
set_option linter.unusedSimpArgs false
set_option linter.unusedVariables false
def ll (n : Nat) : Nat := (limbs n).length
theorem ll_mul (a b : Nat) : ll (a * b) ≤ ll a + ll b := limbs_len_mul a b
theorem ll_add (a b : Nat) : ll (a + b) ≤ max (ll a) (ll b) + 1 := limbs_len_add a b
theorem ll_mono {a b : Nat} (h : a ≤ b) : ll a ≤ ll b := limbs_len_mono h
theorem ll_one : ll 1 = 1 := by decide +kernel
theorem ll_two : ll 2 = 1 := by decide +kernel
theorem ll_pow (a : Nat) : ∀ m : Nat, ll (a ^ m) ≤ m * ll a + 1
  | 0 => by rw [Nat.pow_zero, ll_one]; omega
  | m + 1 => by
    have h1 := ll_pow a m
    have h2 := ll_mul (a ^ m) a
    rw [Nat.pow_succ, Nat.add_mul, Nat.one_mul]
    omega
theorem ll_pow_le {a m K M : Nat} (h : ll a ≤ K) (hm : m ≤ M) : ll (a ^ m) ≤ M * K + 1 := by
  have h1 := ll_pow a m
  have h2 : m * ll a ≤ M * K := Nat.mul_le_mul hm h
  omega
theorem ll_u64 {n : Nat} (h : n < 18446744073709551616) : ll n ≤ 2 := limbs_len_le (by omega)
theorem ll_val {xs : List Nat} (h : limOk xs) : ll (val xs) ≤ xs.length := limbs_len_val h
theorem limbs_zero' : limbs 0 = [] := by decide +kernel
theorem limbs_one' : limbs 1 = [1] := by decide +kernel
def natRow (f : Nat → Nat) (m : Nat) : List (List Nat) := (List.range m).map fun i => limbs (f i)
theorem natRow_len (f : Nat → Nat) (m : Nat) : (natRow f m).length = m := by unfold natRow; simp
theorem natRow_get (f : Nat → Nat) {m i : Nat} (h : i < m) : (natRow f m).getD i [] = limbs (f i) := by
  unfold natRow
  rw [List.getD_eq_getElem?_getD, List.getElem?_map, List.getElem?_range h]
  rfl
theorem natRow_next (f : Nat → Nat) (m : Nat) : natRow f (m + 1) = natRow f m ++ [limbs (f m)] := by unfold natRow; rw [List.range_succ, List.map_append]; rfl
theorem natRow_cells (f : Nat → Nat) (m : Nat) : (natRow f m).map celLim.uc ++ [[.lim none (limbs (f m))]] = (natRow f (m + 1)).map celLim.uc := by rw [natRow_next, List.map_append]; rfl
theorem natRow_len_le {f : Nat → Nat} {m K : Nat} (h : ∀ i, i < m → ll (f i) ≤ K) : ∀ r ∈ natRow f m, r.length ≤ K := by
  intro r hr
  unfold natRow at hr
  obtain ⟨i, hi, rfl⟩ := List.mem_map.1 hr
  exact h i (List.mem_range.1 hi)
/-- the sum of a row -/
def rowSum (l : List (List Nat)) (m : Nat) : Nat := sumN (fun i => val (l.getD i [])) m
theorem rowSum_next (l : List (List Nat)) (m : Nat) : rowSum l (m + 1) = rowSum l m + val (l.getD m []) := rfl
theorem rowSum_zero (l : List (List Nat)) : rowSum l 0 = 0 := rfl
theorem rowSum_natRow (f : Nat → Nat) (m : Nat) : rowSum (natRow f m) m = sumN f m := sumN_congr fun i hi => by rw [natRow_get f hi, val_limbs]
theorem ll_rowSum {l : List (List Nat)} {K : Nat} (h : ∀ r ∈ l, limOk r) (h2 : ∀ r ∈ l, r.length ≤ K) : ∀ m, m ≤ l.length → ll (rowSum l m) ≤ K + m
  | 0, _ => by rw [rowSum_zero]; show (limbs 0).length ≤ _; rw [limbs_zero']; exact Nat.zero_le _
  | m + 1, hm => by
    have h1 := ll_rowSum h h2 m (by omega)
    have hmem : l.getD m [] ∈ l := getD_mem (by omega)
    have h3 := ll_val (h _ hmem)
    have h4 := h2 _ hmem
    have h5 := ll_add (rowSum l m) (val (l.getD m []))
    rw [rowSum_next]
    omega
theorem ng_nonneg {q : Rat} (h : 0 ≤ q) : ng q = false := by
  unfold ng
  have := Rat.num_nonneg.2 h
  exact decide_eq_false (by omega)
theorem nm_num {q : Rat} (h : 0 ≤ q) : ((nm q : Nat) : Int) = q.num := by
  have := Rat.num_nonneg.2 h
  unfold nm
  omega
theorem qvn (n m : Nat) : qv false n m = (((n : Nat) : Int) : Rat) / (((m : Nat) : Int) : Rat) := by
  unfold qv sg
  rw [Rat.mkRat_eq_div]
  rfl
theorem nm_leH {q : Rat} (h : 0 ≤ q) (h1 : q ≤ 1) : nm q ≤ q.den := by
  have h2 := (Rat.le_iff _ _).1 h1
  have h3 := nm_num h
  simp at h2
  omega
theorem den_pos (q : Rat) : 0 < q.den := Nat.pos_of_ne_zero q.den_nz
theorem natR_ne {n : Nat} (h : 0 < n) : (((n : Nat) : Int) : Rat) ≠ 0 := by
  intro e
  rw [show (0 : Rat) = ((0 : Int) : Rat) from rfl, Rat.intCast_inj] at e
  omega
theorem natR_pos {n : Nat} (h : 0 < n) : (0 : Rat) < (((n : Nat) : Int) : Rat) := by
  rw [show (0 : Rat) = ((0 : Int) : Rat) from rfl, Rat.intCast_lt_intCast]; omega
theorem qv_same {n : Nat} (h : 0 < n) : qv false n n = 1 := by
  rw [qvn, Rat.div_def]
  exact Rat.mul_inv_cancel _ (natR_ne h)
theorem qv_sum (f : Nat → Nat) (d : Nat) : ∀ n, sumTo (fun i => qv false (f i) d) n = qv false (sumN f n) d
  | 0 => (qv_zero_num false d).symm
  | n + 1 => by
    show sumTo (fun i => qv false (f i) d) n + qv false (f n) d = qv false (sumN f n + f n) d
    rw [qv_sum f d n, qvn, qvn, qvn, Rat.div_def, Rat.div_def, Rat.div_def, ← Rat.add_mul, ← Rat.intCast_add]
    rfl
theorem qv_le' {a b d : Nat} (hd : 0 < d) : qv false a d ≤ qv false b d ↔ a ≤ b := by
  have hp := natR_pos hd
  have hne := natR_ne hd
  have key : ∀ x : Nat, qv false x d * (((d : Nat) : Int) : Rat) = (((x : Nat) : Int) : Rat) := fun x => by rw [qvn]; exact Rat.div_mul_cancel hne
  have e1 := key a
  have e2 := key b
  constructor
  · intro h
    have := Rat.mul_le_mul_of_nonneg_right h (Rat.le_of_lt hp)
    rw [e1, e2, Rat.intCast_le_intCast] at this
    omega
  · intro h
    rcases Classical.em (qv false a d ≤ qv false b d) with h1 | h1
    · exact h1
    · have := Rat.mul_lt_mul_of_pos_right (Rat.not_le.1 h1) hp
      rw [e1, e2, Rat.intCast_lt_intCast] at this
      omega
def upQ (q : Rat) : Nat := nm q
def dwn (q : Rat) : Nat := q.den - nm q
def binN (q : Rat) (n k : Nat) : Nat := bin (upQ q) (dwn q) n k
def binQ (q : Rat) (n k : Nat) : Rat := qv false (binN q n k) (q.den ^ n)
def cdfQ (q : Rat) (n k : Nat) : Rat := qv false (sumN (binN q n) (k + 1)) (q.den ^ n)
theorem up_dwn {q : Rat} (h : 0 ≤ q) (h1 : q ≤ 1) : upQ q + dwn q = q.den := by have := nm_leH h h1; unfold upQ dwn; omega
theorem binN_all {q : Rat} (h : 0 ≤ q) (h1 : q ≤ 1) (n : Nat) : sumN (binN q n) (n + 1) = q.den ^ n := by
  have := bin_sum (upQ q) (dwn q) n
  rw [up_dwn h h1] at this
  exact this
theorem binN_le {q : Rat} (h : 0 ≤ q) (h1 : q ≤ 1) (n k : Nat) : binN q n k ≤ q.den ^ n := by
  rcases Nat.lt_or_ge n k with hk | hk
  · unfold binN; rw [bin_above hk]; exact Nat.zero_le _
  · rw [← binN_all h h1]; exact sumN_le (f := binN q n) (by omega)
theorem sumN_part {f : Nat → Nat} {m n : Nat} (h : m ≤ n) : sumN f m ≤ sumN f n := by
  induction h with
  | refl => exact Nat.le_refl _
  | step _ ih => exact Nat.le_trans ih (Nat.le_add_right _ _)
theorem cdfN_le {q : Rat} (h : 0 ≤ q) (h1 : q ≤ 1) {n k : Nat} (hk : k ≤ n) : sumN (binN q n) (k + 1) ≤ q.den ^ n := by
  rw [← binN_all h h1]; exact sumN_part (by omega)
theorem pow_pos' (q : Rat) (n : Nat) : 0 < q.den ^ n := Nat.pow_pos (den_pos q)
/-- all counts together are certain -/
theorem bin_certain {q : Rat} (h : 0 ≤ q) (h1 : q ≤ 1) (n : Nat) : sumTo (binQ q n) (n + 1) = 1 := by
  show sumTo (fun i => qv false (binN q n i) (q.den ^ n)) (n + 1) = 1
  rw [qv_sum, binN_all h h1, qv_same (pow_pos' q n)]
end Go.Proofs.YtocpmekblkfdiaaGreatDoor
namespace Go.Proofs.YtocpmekblkfdiaaGreatDoor
open Go.RowKit
set_option linter.unusedSimpArgs false
set_option linter.unusedVariables false
def tryB (n : Int) (q : Rat) : Bool := (decide (0 ≤ n) && (decide (n ≤ 256) && (decide (0 ≤ q) && decide (q ≤ 1))))
theorem try_of {n : Int} {q : Rat} (h : tryB n q = true) : 0 ≤ n ∧ n ≤ 256 ∧ 0 ≤ q ∧ q ≤ 1 := by
  unfold tryB at h
  simpa using h
theorem and_one (m : Nat) (h : m < 9223372036854775808) : bitsI .and .i64 ((m : Nat) : Int) 1 = ((m % 2 : Nat) : Int) := by
  have e : (BitVec.ofInt 64 ((m : Nat) : Int) &&& BitVec.ofInt 64 1).toNat = m % 2 := by
    rw [BitVec.toNat_and]
    have h1 : (BitVec.ofInt 64 ((m : Nat) : Int)).toNat = m := by rw [BitVec.ofInt_natCast, BitVec.toNat_ofNat]; omega
    have h2 : (BitVec.ofInt 64 (1 : Int)).toNat = 1 := by decide
    rw [h1, h2, Nat.and_one_is_mod]
  unfold bitsI
  show IntKind.i64.wrap (((BitVec.ofInt 64 ((m : Nat) : Int) &&& BitVec.ofInt 64 1).toNat : Nat) : Int) = _
  rw [e]
  unfold IntKind.wrap
  simp [IntKind.signed, IntKind.bits]
  omega
theorem wrap_u64 {x : Int} (h1 : 0 ≤ x) (h2 : x < 18446744073709551616) : IntKind.u64.wrap x = x := by
  unfold IntKind.wrap
  simp [IntKind.signed, IntKind.bits]
  omega
theorem shr_one (m : Nat) : shiftII .shr .i64 ((m : Nat) : Int) 1 = (True, .int .i64 ((m / 2 : Nat) : Int)) := by
  unfold shiftII
  refine Prod.ext (eq_true (by omega)) ?_
  show CV.int .i64 (((m : Nat) : Int).fdiv (2 ^ (min (1 : Int).toNat IntKind.i64.bits))) = _
  rw [show min (1 : Int).toNat IntKind.i64.bits = 1 from rfl, Int.fdiv_eq_ediv_of_nonneg _ (by omega)]
  congr 1
theorem RVle_nilH : RVle (.av (.one (.cel .nil))) (.av (.one (.cel (.lim none [])))) := fun _ _ _ _ _ _ _ h => ⟨h.1, h.2.1, CV.fit_G (x := .nil) (y := .lim none []) rfl h.2.2⟩
def d_disc_isTry : Den := den2 aInt aRat (fun _ x => x.sz ≤ 10000000000) fun n x => boolV (tryB n x.q)
set_option maxRecDepth 100000 in
set_option maxHeartbeats 1000000 in
theorem s_disc_isTry : Sound Tryz.prog 110 d_disc_isTry := by
  refine sound2 (fz := nofz) (l := [(27, d_rat_Int), (22, d_rat_Cmp)]) TT_ok ⟨s_rat_Int, s_rat_Cmp, trivial⟩ mixed Tryz.func110 Tryz.ntmps110 Tryz.results110 Tryz.call110 rfl (by omega) (fun _ _ => rfl) ?_
  intro a b hp ha hb
  rw [codeK_start]
  have t0 : rs (0 : Rat) ≤ 1 := rs0 (by omega)
  have t1 : rs (1 : Rat) ≤ 1 := rs1 (by omega)
  unfold tryB
  by_cases c1 : 0 ≤ a
  · have c1 := eq_true c1
    by_cases c2 : a ≤ 256
    · have c2 := eq_true c2
      by_cases c3 : 0 ≤ b.q
      · have c3 := eq_true c3
        by_cases c4 : b.q ≤ 1
        · have c4 := eq_true c4
          simp only [go_sem, d_rat_Int, d_rat_Cmp, int0, int1, decide_true, decide_false, c1, c2, c3, c4, Nat.reduceBEq, Nat.reduceBNe, Nat.reduceLT, Nat.reduceLeDiff, Nat.reduceAdd, Nat.reduceSub, Nat.reduceMul, Nat.reduceEqDiff, Int.reduceNeg, Int.reduceAdd, Int.reduceLT, Int.reduceLE, Int.reduceToNat, ↓reduceIte]
          ((try and_intros) <;> first | exact trivial | assumption | omega | (show okDraw _ _ = true; kernel_rfl))
        · have c4 := eq_false c4
          simp only [go_sem, d_rat_Int, d_rat_Cmp, int0, int1, decide_true, decide_false, c1, c2, c3, c4, Nat.reduceBEq, Nat.reduceBNe, Nat.reduceLT, Nat.reduceLeDiff, Nat.reduceAdd, Nat.reduceSub, Nat.reduceMul, Nat.reduceEqDiff, Int.reduceNeg, Int.reduceAdd, Int.reduceLT, Int.reduceLE, Int.reduceToNat, ↓reduceIte]
          ((try and_intros) <;> first | exact trivial | assumption | omega | (show okDraw _ _ = true; kernel_rfl))
      · have c3 := eq_false c3
        simp only [go_sem, d_rat_Int, d_rat_Cmp, int0, int1, decide_true, decide_false, c1, c2, c3, Nat.reduceBEq, Nat.reduceBNe, Nat.reduceLT, Nat.reduceLeDiff, Nat.reduceAdd, Nat.reduceSub, Nat.reduceMul, Nat.reduceEqDiff, Int.reduceNeg, Int.reduceAdd, Int.reduceLT, Int.reduceLE, Int.reduceToNat, ↓reduceIte]
        ((try and_intros) <;> first | exact trivial | assumption | omega | (show okDraw _ _ = true; kernel_rfl))
    · have c2 := eq_false c2
      simp only [go_sem, d_rat_Int, d_rat_Cmp, int0, int1, decide_true, decide_false, c1, c2, Nat.reduceBEq, Nat.reduceBNe, Nat.reduceLT, Nat.reduceLeDiff, Nat.reduceAdd, Nat.reduceSub, Nat.reduceMul, Nat.reduceEqDiff, Int.reduceNeg, Int.reduceAdd, Int.reduceLT, Int.reduceLE, Int.reduceToNat, ↓reduceIte]
      ((try and_intros) <;> first | exact trivial | assumption | omega | (show okDraw _ _ = true; kernel_rfl))
  · have c1 := eq_false c1
    simp only [go_sem, d_rat_Int, d_rat_Cmp, int0, int1, decide_true, decide_false, c1, Nat.reduceBEq, Nat.reduceBNe, Nat.reduceLT, Nat.reduceLeDiff, Nat.reduceAdd, Nat.reduceSub, Nat.reduceMul, Nat.reduceEqDiff, Int.reduceNeg, Int.reduceAdd, Int.reduceLT, Int.reduceLE, Int.reduceToNat, ↓reduceIte]
    ((try and_intros) <;> first | exact trivial | assumption | omega | (show okDraw _ _ = true; kernel_rfl))
def pwL (a : List Nat) (i : Nat) : List Nat := if i = 0 then a else limbs (val a ^ 2 ^ i)
theorem pwL_val (a : List Nat) (i : Nat) : val (pwL a i) = val a ^ 2 ^ i := by
  unfold pwL
  by_cases h : i = 0
  · subst h; rw [if_pos rfl, Nat.pow_zero, Nat.pow_one]
  · rw [if_neg h, val_limbs]
theorem pwL_zero (a : List Nat) : pwL a 0 = a := rfl
theorem pwL_next (a : List Nat) (i : Nat) : limbs (val (pwL a i) * val (pwL a i)) = pwL a (i + 1) := by
  rw [pwL_val]
  show _ = if i + 1 = 0 then a else limbs (val a ^ 2 ^ (i + 1))
  rw [if_neg (by omega), ← Nat.pow_add, Nat.pow_succ, Nat.mul_two]
theorem pwL_len {a : List Nat} {K i : Nat} (h : limOk a) (hk : a.length ≤ K) (hi : i ≤ 9) : (pwL a i).length ≤ 512 * K + 1 := by
  unfold pwL
  have h2 : (2 : Nat) ^ i ≤ 2 ^ 9 := Nat.pow_le_pow_right (by omega) hi
  split
  · omega
  · exact ll_pow_le (Nat.le_trans (ll_val h) hk) h2
theorem half_step (n i : Nat) : n / 2 ^ i / 2 = n / 2 ^ (i + 1) := by rw [Nat.div_div_eq_div_mul, Nat.pow_succ]
theorem mod_step (n i : Nat) : n % 2 ^ (i + 1) = n % 2 ^ i + 2 ^ i * (n / 2 ^ i % 2) := by rw [Nat.pow_succ, Nat.mod_mul]
def d_disc_power : Den := den2 aLim aInt (fun a n => a.length ≤ 1000000 ∧ 0 ≤ n ∧ n ≤ 256) fun a n => natV (val a ^ n.toNat)
set_option maxRecDepth 100000 in
set_option maxHeartbeats 1000000 in
theorem s_disc_power : Sound Tryz.prog 168 d_disc_power := by
  refine sound2 (fz := nofz) (l := [(64, d_nat_Of), (67, d_nat_Mul)]) TT_ok ⟨s_nat_Of, s_nat_Mul, trivial⟩ mixed Tryz.func168 Tryz.ntmps168 Tryz.results168 Tryz.call168 rfl (by omega) (fun _ _ => rfl) ?_
  intro a b hp ha hb
  rw [codeK_start]
  obtain ⟨hp1, hp2, hp3⟩ := hp
  obtain ⟨b, rfl⟩ := Int.eq_ofNat_of_zero_le hp2
  have hb : b ≤ 256 := by omega
  have hok : limOk a := ha
  have e0 : val a ^ (b % 2 ^ 0) = 1 := by rw [Nat.pow_zero, Nat.mod_one, Nat.pow_zero]
  have e9 : b / 2 ^ 0 = b := by rw [Nat.pow_zero, Nat.div_one]
  simp only [go_sem, d_nat_Of, d_nat_Mul, int0, int1, decide_true, decide_false, val_limbs, Int.toNat_natCast, Nat.reduceBEq, Nat.reduceBNe, Nat.reduceLT, Nat.reduceLeDiff, Nat.reduceAdd, Nat.reduceSub, Nat.reduceMul, Nat.reduceEqDiff, Int.reduceNeg, Int.reduceAdd, Int.reduceLT, Int.reduceLE, Int.reduceToNat, ↓reduceIte]
  refine codeK_loop (fun i : { i : Nat // i ≤ 9 } => [(1, 0, .av (intV ((((b / 2 ^ i.1 : Nat) : Nat) : Int)))), (0, 0, .av (limV (pwL a i.1))), (5, 0, .av (natV (val a ^ (b % 2 ^ i.1))))]) (fun i => 9 - i.1) ⟨0, by omega⟩ (le_of ?_) ?_
  · simp only [go_sem, leL, Nat.reduceBEq, Nat.reduceBNe, Nat.reduceLT, Nat.reduceLeDiff, Nat.reduceAdd, Nat.reduceSub, Nat.reduceMul, Nat.reduceEqDiff, Int.reduceNeg, Int.reduceAdd, Int.reduceLT, Int.reduceLE, Int.reduceToNat, ↓reduceIte, e0, e9, pwL_zero, Int.toNat_one]
  · rintro ⟨i, hi0⟩
    have hlen := pwL_len hok hp1 hi0
    have hs : ∀ m, m ≤ 512 → ll (val a ^ m) ≤ 512 * 1000000 + 1 := fun m hm => ll_pow_le (Nat.le_trans (ll_val hok) hp1) hm
    have hm2 : b % 2 ^ i ≤ 256 := Nat.le_trans (Nat.mod_le _ _) hb
    have hs1 : (limbs (val a ^ (b % 2 ^ i))).length ≤ 512 * 1000000 + 1 := hs _ (by omega)
    have hst := half_step b i
    have hmo := mod_step b i
    have hpn := pwL_next a i
    have hbl : b / 2 ^ i ≤ 256 := Nat.le_trans (Nat.div_le_self _ _) hb
    have hand := and_one (b / 2 ^ i) (by omega)
    have hfd := shr_one (b / 2 ^ i)
    rw [hst] at hfd
    by_cases hz : 0 < b / 2 ^ i
    · have hi9 : i < 9 := by
        rcases Nat.lt_or_ge i 9 with h | h
        · exact h
        · have : i = 9 := by omega
          subst this
          have : b / 2 ^ 9 = 0 := Nat.div_eq_of_lt (by omega)
          omega
      have hz2 : ((0 : Int) < ((b / 2 ^ i : Nat) : Int)) = True := eq_true (by omega)
      by_cases hb2 : b / 2 ^ i % 2 = 1
      · have hb3 : ((((b / 2 ^ i % 2 : Nat) : Nat) : Int) = 1) = True := eq_true (by omega)
        rw [hb2, Nat.mul_one] at hmo
        have hmul : val a ^ (b % 2 ^ i) * val (pwL a i) = val a ^ (b % 2 ^ (i + 1)) := by rw [pwL_val, ← Nat.pow_add, hmo]
        simp only [go_sem, d_nat_Of, d_nat_Mul, int0, int1, decide_true, decide_false, hand, val_limbs, Int.toNat_natCast, hz2, hb3, hmul, hpn, hfd, Nat.reduceBEq, Nat.reduceBNe, Nat.reduceLT, Nat.reduceLeDiff, Nat.reduceAdd, Nat.reduceSub, Nat.reduceMul, Nat.reduceEqDiff, Int.reduceNeg, Int.reduceAdd, Int.reduceLT, Int.reduceLE, Int.reduceToNat, ↓reduceIte]
        ((try and_intros) <;> first | exact trivial | assumption | omega | (show okDraw _ _ = true; kernel_rfl) | (show ∃ _, _; exact ⟨⟨i + 1, by omega⟩, by show 9 - (i + 1) < 9 - i; omega, le_of (by simp only [go_sem, leL, hmul, hpn, Nat.reduceBEq, Nat.reduceBNe, Nat.reduceLT, Nat.reduceLeDiff, Nat.reduceAdd, Nat.reduceSub, Nat.reduceMul, Nat.reduceEqDiff, Int.reduceNeg, Int.reduceAdd, Int.reduceLT, Int.reduceLE, Int.reduceToNat, ↓reduceIte])⟩))
      · have hb3 : ((((b / 2 ^ i % 2 : Nat) : Nat) : Int) = 1) = False := eq_false (by omega)
        rw [show b / 2 ^ i % 2 = 0 by omega, Nat.mul_zero, Nat.add_zero] at hmo
        have hmo2 : val a ^ (b % 2 ^ (i + 1)) = val a ^ (b % 2 ^ i) := by rw [hmo, Nat.add_zero]
        simp only [go_sem, d_nat_Of, d_nat_Mul, int0, int1, decide_true, decide_false, hand, val_limbs, Int.toNat_natCast, hz2, hb3, hpn, hfd, Nat.reduceBEq, Nat.reduceBNe, Nat.reduceLT, Nat.reduceLeDiff, Nat.reduceAdd, Nat.reduceSub, Nat.reduceMul, Nat.reduceEqDiff, Int.reduceNeg, Int.reduceAdd, Int.reduceLT, Int.reduceLE, Int.reduceToNat, ↓reduceIte]
        ((try and_intros) <;> first | exact trivial | assumption | omega | (show okDraw _ _ = true; kernel_rfl) | (show ∃ _, _; exact ⟨⟨i + 1, by omega⟩, by show 9 - (i + 1) < 9 - i; omega, le_of (by simp only [go_sem, leL, hmo2, hpn, Nat.reduceBEq, Nat.reduceBNe, Nat.reduceLT, Nat.reduceLeDiff, Nat.reduceAdd, Nat.reduceSub, Nat.reduceMul, Nat.reduceEqDiff, Int.reduceNeg, Int.reduceAdd, Int.reduceLT, Int.reduceLE, Int.reduceToNat, ↓reduceIte])⟩))
    · have hz2 : ((0 : Int) < ((b / 2 ^ i : Nat) : Int)) = False := eq_false (by omega)
      have hlt : b < 2 ^ i := by
        rcases Nat.lt_or_ge b (2 ^ i) with h | h
        · exact h
        · exact absurd (Nat.div_pos h (Nat.pow_pos (by omega))) hz
      have hend : val a ^ (b % 2 ^ i) = val a ^ b := by rw [Nat.mod_eq_of_lt hlt]
      simp only [go_sem, d_nat_Of, d_nat_Mul, int0, int1, decide_true, decide_false, hand, val_limbs, Int.toNat_natCast, hz2, hend, Nat.reduceBEq, Nat.reduceBNe, Nat.reduceLT, Nat.reduceLeDiff, Nat.reduceAdd, Nat.reduceSub, Nat.reduceMul, Nat.reduceEqDiff, Int.reduceNeg, Int.reduceAdd, Int.reduceLT, Int.reduceLE, Int.reduceToNat, ↓reduceIte]
      try first | exact trivial | rfl | (rw [hend]; rfl)
end Go.Proofs.YtocpmekblkfdiaaGreatDoor
