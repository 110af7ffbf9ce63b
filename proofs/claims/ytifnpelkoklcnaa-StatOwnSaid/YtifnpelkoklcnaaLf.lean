/- nat.To at numbers below 2^32, by the abstract walk. -/
import Derived.Test.YtifnpelkoklcnaaLd
namespace Go.Proofs.Ytifnpelkoklcnaa
open Go.RowKit
set_option linter.unusedSimpArgs false
set_option linter.unusedVariables false

def d_nat_trim : Den := den1 aLim (fun a => a.length ≤ 8000000000000) fun a => natV (val a)
theorem s_nat_trim : Sound Try.prog 140 d_nat_trim :=
  told1 Try.call140 (fun _ => rfl) fun a X w u h hX hu => by
    have hl : limG X w u a := by
      have hu : (CV.lim none a).P X w u := hu
      simpa only [CV.P] using hu
    have hnt := lim_nt hu
    obtain ⟨ao, cap, rfl, h2, h3, h4, h5⟩ := hl
    refine (natTrim w ao a.length cap a 0 (val a) hnt h rfl).mono ?_
    rintro e w' ⟨rfl, rfl⟩
    refine ⟨_, rfl, ?_, Below.refl _ _⟩
    have hle := limbs_len_val h4
    have key : limG X w (.slice ao (limbs (val a)).length cap) (limbs (val a)) := by
      refine ⟨ao, cap, rfl, by omega, h3, limbs_lt _, fun hp => ?_⟩
      obtain ⟨b, off, e, hc⟩ := h5 (by omega)
      refine ⟨b, off, e, fun i hi => ?_⟩
      have e2 : (limbs (val a)).getD i 0 = a.getD i 0 := by
        rw [← limbs_prefix h4]
        simp only [List.getD_eq_getElem?_getD]
        rw [List.getElem?_take_of_lt hi]
      rw [e2]
      exact hc i (by omega)
    show CV.P X w (.lim none (limbs (val a))) _
    simpa only [CV.P] using key

theorem limbs_below {k : Nat} (h : k < 4294967296) : limbs k = [] ∧ k = 0 ∨ limbs k = [k] ∧ 0 < k := by
  rcases Nat.eq_zero_or_pos k with e | e
  · subst e
    exact .inl ⟨limbs_zero, rfl⟩
  · exact .inr ⟨limbs_small e h, e⟩
def toV (n : Nat) : AV := .tup [.cel (.int .u64 (n : Nat)), .cel (.bool true)]
attribute [go_sem] toV
theorem or_zero64 {k : Nat} (h : k < 4294967296) : bitsI .or .u64 0 ((k : Nat) : Int) = ((k : Nat) : Int) := by
  show IntKind.wrap .u64 (((BitVec.ofInt 64 0 ||| BitVec.ofInt 64 ((k : Nat) : Int)).toNat : Nat) : Int) = _
  rw [show BitVec.ofInt 64 0 = 0#64 from rfl, BitVec.zero_or, BitVec.ofInt_natCast, BitVec.toNat_ofNat, Nat.mod_eq_of_lt (by omega)]
  show (((k : Nat) : Int)) % _ = _
  exact Int.emod_eq_of_lt (by omega) (by simp [IntKind.bits]; omega)
theorem shl_zero64 {k : Nat} (h : k < 4294967296) : shiftII .shl .u64 ((k : Nat) : Int) 0 = (True, CV.int .u64 ((k : Nat) : Int)) := by
  have e : IntKind.wrap .u64 (((k : Nat) : Int) * 2 ^ (min (0 : Int).toNat 64)) = k := by
    rw [show (min (0 : Int).toNat 64) = 0 from rfl, Int.pow_zero, Int.mul_one, IntKind.wrap_u64]; omega
  have e2 : shiftII .shl .u64 ((k : Nat) : Int) 0 = ((0 : Int) ≤ 0, CV.int .u64 (IntKind.wrap .u64 (((k : Nat) : Int) * 2 ^ (min (0 : Int).toNat 64)))) := rfl
  rw [e2, e]; simp

def d_nat_To : Den := den1 aLim (fun a => a.length ≤ 8000000000000 ∧ val a < 4294967296) fun a => toV (val a)
set_option maxRecDepth 100000 in
set_option maxHeartbeats 1000000 in
theorem s_nat_To : Sound Try.prog 100 d_nat_To := by
  refine sound1 (fz := nofz) (l := [(140, d_nat_trim)]) TT_ok ⟨s_nat_trim, trivial⟩ mixed Try.func100 Try.ntmps100 Try.results100 Try.call100 rfl (by omega) (fun _ => rfl) ?_
  intro a hp ha
  rw [codeK_start]
  simp only [go_sem, d_nat_trim, Nat.reduceBEq, Nat.reduceBNe, Nat.reduceLT, Nat.reduceLeDiff, Nat.reduceAdd, Nat.reduceSub, Nat.reduceMul, Nat.reduceEqDiff, Int.reduceNeg, Int.reduceAdd, Int.reduceLT, Int.reduceLE, Int.reduceToNat, ↓reduceIte]
  have hL := limbs_below hp.2
  have h2 : (2 < (((limbs (val a)).length : Nat) : Int)) = False := by
    rcases hL with ⟨h, _⟩ | ⟨h, _⟩ <;> rw [h] <;> simp
  simp only [h2, decide_false, go_sem, Nat.reduceBEq, Nat.reduceBNe, Nat.reduceLT, Nat.reduceLeDiff, Nat.reduceAdd, Nat.reduceSub, Nat.reduceMul, Nat.reduceEqDiff, Int.reduceNeg, Int.reduceAdd, Int.reduceLT, Int.reduceLE, Int.reduceToNat, ↓reduceIte]
  refine ⟨hp.1, ?_⟩
  refine codeK_loop (fun i : { i : Nat // i ≤ (limbs (val a)).length } => [(14, 0, .av (intV ((i.1 : Nat)))), (13, 0, .av (intV (((limbs (val a)).length : Nat)))), (12, 0, .av (.one (.cel (.lim none (limbs (val a)))))), (4, 0, .av (.one (.cel (.int .u64 (if i.1 = 0 then 0 else ((val a : Nat) : Int))))))]) (fun i => (limbs (val a)).length - i.1) ⟨0, by omega⟩ (le_of ?_) ?_
  · simp only [go_sem, leL, Nat.reduceBEq, Nat.reduceBNe, Nat.reduceLT, Nat.reduceLeDiff, Nat.reduceAdd, Nat.reduceSub, Nat.reduceMul, Nat.reduceEqDiff, Int.reduceNeg, Int.reduceAdd, Int.reduceLT, Int.reduceLE, Int.reduceToNat, ↓reduceIte]
    rfl
  · rintro ⟨i, hi0⟩
    have hi0 : i ≤ (limbs (val a)).length := hi0
    by_cases hi : i < (limbs (val a)).length
    · have hL1 : limbs (val a) = [val a] := by
        rcases hL with ⟨h, _⟩ | ⟨h, _⟩
        · rw [h] at hi; exact absurd hi (by simp)
        · exact h
      have hi1 : i < 1 := by rw [hL1] at hi; exact hi
      have e0 : i = 0 := by omega
      subst e0
      have hw : IntKind.wrap .u64 ((val a : Nat) : Int) = val a := by rw [IntKind.wrap_u64]; omega
      have hsh := shl_zero64 hp.2
      have hor := or_zero64 hp.2
      simp only [hL1, go_sem, d_nat_trim, Int.natCast_zero, Int.natCast_one, Int.ofNat_zero, Int.cast_ofNat_Int, Int.mul_zero, Int.zero_add, hw, hsh, hor, decide_true, if_true, Nat.reduceBEq, Nat.reduceBNe, Nat.reduceLT, Nat.reduceLeDiff, Nat.reduceAdd, Nat.reduceSub, Nat.reduceMul, Nat.reduceEqDiff, Int.reduceNeg, Int.reduceAdd, Int.reduceLT, Int.reduceLE, Int.reduceToNat, ↓reduceIte]
      and_intros
      all_goals try (first | exact trivial | omega)
      refine ⟨⟨1, by omega⟩, by show 1 - 1 < 1 - 0; omega, le_of ?_⟩
      simp only [go_sem, leL, Nat.reduceBEq, Nat.reduceBNe, Nat.reduceLT, Nat.reduceLeDiff, Nat.reduceAdd, Nat.reduceSub, Nat.reduceMul, Nat.reduceEqDiff, Int.reduceNeg, Int.reduceAdd, Int.reduceLT, Int.reduceLE, Int.reduceToNat, ↓reduceIte]
      try rfl
    · have hit : (((i : Nat) : Int) < (((limbs (val a)).length : Nat) : Int)) = False := eq_false (by omega)
      simp only [hit, go_sem, decide_false, Nat.reduceBEq, Nat.reduceBNe, Nat.reduceLT, Nat.reduceLeDiff, Nat.reduceAdd, Nat.reduceSub, Nat.reduceMul, Nat.reduceEqDiff, Int.reduceNeg, Int.reduceAdd, Int.reduceLT, Int.reduceLE, Int.reduceToNat, ↓reduceIte]
      rcases hL with ⟨h1, h2⟩ | ⟨h1, h2⟩
      · split
        · omega
        · rfl
      · rw [h1] at hi
        rw [if_neg (by simp at hi; omega)]


end Go.Proofs.Ytifnpelkoklcnaa
