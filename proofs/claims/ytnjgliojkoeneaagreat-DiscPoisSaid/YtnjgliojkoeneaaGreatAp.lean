/- rat.Is, rat.Large, vernierref2.Is, Large, Floor, Int by the abstract walk. Conditions: at most 10^11 limbs. -/
import Derived.Test.YtnjgliojkoeneaaGreatAm
namespace Go.Proofs.YtnjgliojkoeneaaGreat
open Go.RowKit
set_option linter.unusedSimpArgs false
set_option linter.unusedVariables false
theorem qv_one (s : Bool) (n : Nat) : qv s n 1 = ((sg s n : Int) : Rat) := by
  unfold qv
  rw [Rat.mkRat_one]
theorem u64_wrap_neg {n : Int} (h1 : -9223372036854775808 ≤ n) (h2 : n < 0) : IntKind.u64.wrap (0 - IntKind.u64.wrap n) = -n := by
  rw [IntKind.wrap_u64, IntKind.wrap_u64]; omega
theorem u64_wrap_pos {n : Int} (h1 : 0 ≤ n) (h2 : n < 9223372036854775808) : IntKind.u64.wrap n = n := by
  rw [IntKind.wrap_u64]; omega
theorem int_qv {n : Int} (h : n < 0) : qv true (-n).toNat 1 = (n : Rat) := by
  rw [qv_one]; congr 1; unfold sg; simp; omega
theorem int_qv' {n : Int} (h : ¬ n < 0) : qv false n.toNat 1 = (n : Rat) := by
  rw [qv_one]; congr 1; unfold sg; simp; omega
theorem len_u64 {n : Nat} (h : n < 18446744073709551616) : (limbs n).length ≤ 2 := limbs_len_le (by omega)
def d_ref2_Is : Den := den1 aRat (fun a => a.sz ≤ 100000000000) fun a => boolV (oneB a (cr a.q))
set_option maxRecDepth 100000 in
set_option maxHeartbeats 1000000 in
theorem s_ref2_Is : Sound Tryz.prog 49 d_ref2_Is := by
  refine sound1 (fz := nofz) (l := [(39, d_ref2_Norm), (55, d_ref2_limbs)]) TT_ok ⟨s_ref2_Norm, s_ref2_limbs, trivial⟩ mixed Tryz.func49 Tryz.ntmps49 Tryz.results49 Tryz.call49 rfl (by omega) (fun _ => rfl) ?_
  intro a hp ha
  rw [codeK_start]
  simp only [go_sem, d_ref2_Norm, d_ref2_limbs, Nat.reduceBEq, Nat.reduceBNe, Nat.reduceLT, Nat.reduceLeDiff, Nat.reduceAdd, Nat.reduceSub, Nat.reduceMul, Nat.reduceEqDiff, Int.reduceNeg, Int.reduceAdd, Int.reduceLT, Int.reduceLE, Int.reduceToNat, ↓reduceIte]
  have hl := RR.lens hp
  refine ⟨hp, ?_⟩
  unfold oneB
  split
  · rename_i h1
    refine ⟨by omega, ?_⟩
    split
    · rename_i h2
      exact ⟨by omega, by rw [h1, decide_eq_true h2]; rfl⟩
    · rename_i h2; rw [decide_eq_false h2]; simp
  · rename_i h1
    rw [Bool.eq_false_iff.2 h1]; rfl
def d_ref2_Int : Den := den1 aInt (fun n => -9223372036854775808 ≤ n ∧ n < 9223372036854775808) fun n => ratV (cr (n : Rat))
set_option maxRecDepth 100000 in
set_option maxHeartbeats 1000000 in
theorem s_ref2_Int : Sound Tryz.prog 12 d_ref2_Int := by
  refine sound1 (fz := nofz) (l := [(40, d_ref1_Of), (24, d_ref2_Of)]) TT_ok ⟨s_ref1_Of, s_ref2_Of, trivial⟩ mixed Tryz.func12 Tryz.ntmps12 Tryz.results12 Tryz.call12 rfl (by omega) (fun _ => rfl) ?_
  intro a hp ha
  rw [codeK_start]
  simp only [go_sem, d_ref1_Of, d_ref2_Of, Nat.reduceBEq, Nat.reduceBNe, Nat.reduceLT, Nat.reduceLeDiff, Nat.reduceAdd, Nat.reduceSub, Nat.reduceMul, Nat.reduceEqDiff, Int.reduceNeg, Int.reduceAdd, Int.reduceLT, Int.reduceLE, Int.reduceToNat, ↓reduceIte]
  split
  · rename_i hn
    rw [u64_wrap_neg hp.1 hn, decide_eq_true hn, int_qv hn]
    have := len_u64 (n := (-a).toNat) (by omega)
    exact ⟨by omega, by omega, rfl, rfl, rfl⟩
  · rename_i hn
    rw [u64_wrap_pos (by omega) hp.2, decide_eq_false hn, int_qv' hn]
    have := len_u64 (n := a.toNat) (by omega)
    exact ⟨by omega, by omega, rfl, rfl, rfl⟩
end Go.Proofs.YtnjgliojkoeneaaGreat
