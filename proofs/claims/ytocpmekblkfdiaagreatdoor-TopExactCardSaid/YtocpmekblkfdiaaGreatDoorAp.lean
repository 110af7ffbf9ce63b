/- rat.Is, rat.Large, vernierref2.Is, Large, Floor, Int by the abstract walk. Conditions: at most 10^11 limbs. -/
import Derived.Test.YtocpmekblkfdiaaGreatDoorAm
namespace Go.Proofs.YtocpmekblkfdiaaGreatDoor
open Go.RowKit
set_option linter.unusedSimpArgs false
set_option linter.unusedVariables false
theorem trB_limbs (n : Nat) : trB (limbs n) = true := by
  unfold trB
  rw [decide_eq_true_eq]
  by_cases h : (limbs n).length = 0
  · exact .inl h
  · right
    intro h0
    have hk : 0 < (limbs n).length := Nat.pos_of_ne_zero h
    have hv := val_take_zero (xs := limbs n) (k := (limbs n).length - 1) (by omega) h0 (by rw [show (limbs n).length - 1 + 1 = (limbs n).length by omega, List.take_length])
    rw [val_limbs] at hv
    have hlt := val_lt (xs := (limbs n).take ((limbs n).length - 1)) (fun x hx => limbs_lt n x (List.mem_of_mem_take hx))
    rw [hv] at hlt
    have := limbs_len_le (n := n) (k := (limbs n).length - 1) (by rw [List.length_take] at hlt; rwa [Nat.min_eq_left (by omega)] at hlt)
    omega
theorem trB_val {xs : List Nat} (h : limOk xs) (ht : trB xs = true) : limbs (val xs) = xs := by
  refine limbs_of_last h fun hn => ?_
  unfold trB at ht
  rw [decide_eq_true_eq] at ht
  rcases ht with h0 | h0
  · exact absurd (List.length_eq_zero_iff.1 h0) hn
  · rw [List.getLast_eq_getElem]
    have hp : 0 < xs.length := by
      cases xs with
      | nil => exact absurd rfl hn
      | cons x xs => simp
    rw [List.getD_eq_getElem?_getD, List.getElem?_eq_getElem (by omega)] at h0
    simpa using h0
theorem oneB_iff {a b : RR} : oneB a b = true ↔ a.s = b.s ∧ a.n = b.n ∧ a.d = b.d := by
  simp [oneB]
theorem isNorm (a : RR) (h : a.ok) : oneB a (cr a.q) = (trB a.n && (trB a.d && (!decide (a.d.length = 0) && (!(a.s && decide (a.n.length = 0)) && decide (Nat.gcd (val a.n) (val a.d) = 1))))) := by
  rw [Bool.eq_iff_iff, oneB_iff]
  simp only [Bool.and_eq_true, decide_eq_true_eq, Bool.not_eq_true', decide_eq_false_iff_not, Bool.and_eq_false_iff, cr_s, cr_n, cr_d]
  constructor
  · rintro ⟨h1, h2, h3⟩
    rw [h2, h3]
    refine ⟨trB_limbs _, trB_limbs _, ?_, ?_, ?_⟩
    · rw [limbs_len_zero]; exact den_ne _
    · by_cases hz : nm a.q = 0
      · left
        rw [h1, nm_zero.1 hz]
        rfl
      · right
        rw [limbs_len_zero]
        exact hz
    · rw [val_limbs, val_limbs]
      exact a.q.reduced
  · rintro ⟨h1, h2, h3, h4, h5⟩
    have e1 := trB_val h.1 h1
    have e2 := trB_val h.2 h2
    have hd : val a.d ≠ 0 := by
      intro hz
      rw [hz] at e2
      rw [← e2] at h3
      exact h3 rfl
    by_cases hn : val a.n = 0
    · have hn0 : a.n = [] := by rw [← e1, hn]; rfl
      rw [hn, Nat.gcd_zero_left] at h5
      have hq : a.q = 0 := by unfold RR.q; rw [hn, qv_zero_num]
      rw [hq, parts_zero.1, parts_zero.2.1, parts_zero.2.2]
      refine ⟨?_, by rw [hn0]; rfl, by rw [← e2, h5]⟩
      rcases h4 with h4 | h4
      · exact h4
      · rw [hn0] at h4; exact absurd rfl h4
    · obtain ⟨p1, p2, p3⟩ := nm_qv a.s (val a.n) (val a.d) hn hd
      have hq : a.q = qv a.s (val a.n) (val a.d) := rfl
      rw [hq, p1, p2, p3, h5, Nat.div_one, Nat.div_one, e1, e2]
      exact ⟨rfl, rfl, rfl⟩
theorem qv_one (s : Bool) (n : Nat) : qv s n 1 = ((sg s n : Int) : Rat) := by
  unfold qv
  rw [Rat.mkRat_one]
theorem limbs_gcd_le {m n : Nat} {xs ys : List Nat} (hm : val xs = m) (hn : val ys = n) (h1 : limOk xs) (h2 : limOk ys) : (limbs (Nat.gcd m n)).length ≤ max xs.length ys.length + 1 := by
  subst hm hn
  rcases Nat.eq_zero_or_pos (val xs) with h | h
  · rw [h, Nat.gcd_zero_left]
    have := limbs_len_val h2
    omega
  · have := limbs_len_mono (Nat.gcd_le_left (val ys) h)
    have := limbs_len_val h1
    omega
theorem limbs_one_len : (limbs 1).length = 1 := rfl
theorem u64_wrap_neg {n : Int} (h1 : -9223372036854775808 ≤ n) (h2 : n < 0) : IntKind.u64.wrap (0 - IntKind.u64.wrap n) = -n := by
  rw [IntKind.wrap_u64, IntKind.wrap_u64]; omega
theorem u64_wrap_pos {n : Int} (h1 : 0 ≤ n) (h2 : n < 9223372036854775808) : IntKind.u64.wrap n = n := by
  rw [IntKind.wrap_u64]; omega
theorem int_qv {n : Int} (h : n < 0) : qv true (-n).toNat 1 = (n : Rat) := by
  rw [qv_one]; congr 1; unfold sg; simp; omega
theorem int_qv' {n : Int} (h : ¬ n < 0) : qv false n.toNat 1 = (n : Rat) := by
  rw [qv_one]; congr 1; unfold sg; simp; omega
theorem len_u64 {n : Nat} (h : n < 18446744073709551616) : (limbs n).length ≤ 2 := limbs_len_le (by omega)
def d_rat_Is : Den := den1 aRat (fun a => a.sz ≤ 100000000000 ∧ a.ok) fun a => boolV (oneB a (cr a.q))
set_option maxRecDepth 100000 in
set_option maxHeartbeats 1000000 in
theorem s_rat_Is : Sound Tryz.prog 62 d_rat_Is := by
  refine sound1 (fz := nofz) (l := [(116, d_nat_Is), (118, d_nat_Gcd), (64, d_nat_Of), (117, d_nat_Cmp)]) TT_ok ⟨s_nat_Is, s_nat_Gcd, s_nat_Of, s_nat_Cmp, trivial⟩ mixed Tryz.func62 Tryz.ntmps62 Tryz.results62 Tryz.call62 rfl (by omega) (fun _ => rfl) ?_
  intro a hp ha
  rw [codeK_start]
  simp only [go_sem, d_nat_Is, d_nat_Gcd, d_nat_Of, d_nat_Cmp, Nat.reduceBEq, Nat.reduceBNe, Nat.reduceLT, Nat.reduceLeDiff, Nat.reduceAdd, Nat.reduceSub, Nat.reduceMul, Nat.reduceEqDiff, Int.reduceNeg, Int.reduceAdd, Int.reduceLT, Int.reduceLE, Int.reduceToNat, ↓reduceIte]
  have hl := RR.lens hp.1
  have hg := limbs_gcd_le rfl rfl ha.1 ha.2
  have h1l := limbs_one_len
  rw [isNorm a ha]
  refine ⟨by omega, ?_⟩
  cases trB a.n
  · rfl
  refine ⟨by omega, ?_⟩
  cases trB a.d
  · rfl
  by_cases hd : a.d.length = 0
  · simp [hd]
  have hd' : ¬ ((a.d.length : Int) = 0) := by omega
  cases hs : a.s <;> by_cases hn : a.n.length = 0 <;> simp [hd, hn]
  all_goals omega
def d_ref2_Int : Den := den1 aInt (fun n => -9223372036854775808 ≤ n ∧ n < 9223372036854775808) fun n => ratV (cr (n : Rat))
set_option maxRecDepth 100000 in
set_option maxHeartbeats 1000000 in
theorem s_ref2_Int : Sound Tryz.prog 5 d_ref2_Int := by
  refine sound1 (fz := nofz) (l := [(14, d_ref1_Of), (13, d_ref2_Of)]) TT_ok ⟨s_ref1_Of, s_ref2_Of, trivial⟩ mixed Tryz.func5 Tryz.ntmps5 Tryz.results5 Tryz.call5 rfl (by omega) (fun _ => rfl) ?_
  intro a hp ha
  rw [codeK_start]
  simp only [go_sem, d_ref1_Of, d_ref2_Of, Nat.reduceBEq, Nat.reduceBNe, Nat.reduceLT, Nat.reduceLeDiff, Nat.reduceAdd, Nat.reduceSub, Nat.reduceMul, Nat.reduceEqDiff, Int.reduceNeg, Int.reduceAdd, Int.reduceLT, Int.reduceLE, Int.reduceToNat, ↓reduceIte]
  split
  · rename_i hn
    rw [u64_wrap_neg hp.1 hn, decide_eq_true hn, int_qv hn]
    have := len_u64 (n := (-a).toNat) (by omega)
    exact ⟨by omega, by omega, rfl, rfl, rfl⟩
  · rename_i hn
    rw [u64_wrap_pos (by omega) hp.2, decide_eq_false hn, int_qv' hn]
    have := len_u64 (n := a.toNat) (by omega)
    exact ⟨by omega, by omega, rfl, rfl, rfl⟩
end Go.Proofs.YtocpmekblkfdiaaGreatDoor
