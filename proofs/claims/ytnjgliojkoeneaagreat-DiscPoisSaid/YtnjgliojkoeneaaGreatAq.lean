/- nat.Bits and root.Int (Newton's way) by the abstract walk. Condition: rows of at most 10^9 limbs. -/
import Derived.Test.YtnjgliojkoeneaaGreatBz
import Derived.Test.YtnjgliojkoeneaaGreatLen
import Derived.Test.YtnjgliojkoeneaaGreatGF
namespace Go.Proofs.YtnjgliojkoeneaaGreat
open Go.RowKit
set_option linter.unusedSimpArgs false
set_option linter.unusedVariables false
theorem blen_bitLen : ∀ (x : Nat), x < 2 ^ 64 → Lib.bitLen x = blen x := by
  intro x
  induction x using Nat.strongRecOn with
  | _ x ih =>
    intro h
    by_cases h0 : x = 0
    · subst h0; rfl
    · rw [Lib.bitLen_half x h0 h, blen_half (Nat.pos_of_ne_zero h0), ih (x / 2) (by omega) (by omega)]
      omega
def d_nat_trim : Den := den1 aLim (fun a => a.length ≤ 8000000000000) fun a => natV (val a)
theorem s_nat_trim : Sound Tryz.prog 93 d_nat_trim :=
  told1 Tryz.call93 (fun _ => rfl) fun a X w u h hX hu => by
    have hl : limG X w u a := by
      have hu : (CV.lim none a).P X w u := hu
      simpa only [CV.P] using hu
    have hnt := lim_nt hu
    obtain ⟨ao, cap, rfl, h2, h3, h4, h5⟩ := hl
    refine (natTrim w ao a.length cap a 0 (val a) hnt h rfl).mono ?_
    rintro e w' ⟨rfl, rfl⟩
    refine ⟨_, rfl, ?_, Below.refl _ _⟩
    have hle := limbs_len_val h4
    have key : limG X w (.slice ao (limbs (val a)).length cap) (limbs (val a)) := by
      refine ⟨ao, cap, rfl, by omega, h3, limbs_lt _, fun hp => ?_⟩
      obtain ⟨b, off, e, hc⟩ := h5 (by omega)
      refine ⟨b, off, e, fun i hi => ?_⟩
      have e2 : (limbs (val a)).getD i 0 = a.getD i 0 := by
        rw [← limbs_prefix h4]
        simp only [List.getD_eq_getElem?_getD]
        rw [List.getElem?_take_of_lt hi]
      rw [e2]
      exact hc i (by omega)
    show CV.P X w (.lim none (limbs (val a))) _
    simpa only [CV.P] using key
def d_math_bits_Len32 : Den := den1 aU32 (fun n => 0 ≤ n ∧ n < 4294967296) fun n => intV ((blen n.toNat : Nat) : Int)
theorem s_math_bits_Len32 : Sound Tryz.prog 124 d_math_bits_Len32 :=
  told1 Tryz.call124 (fun _ => rfl) fun n X w u h hX hu => by
    have e : u = .int .u32 n := hu
    subst e
    refine (bitsLen32 n w h.1 (by omega)).mono ?_
    rintro e w' ⟨rfl, rfl⟩
    refine ⟨_, rfl, ?_, Below.refl _ _⟩
    show _ = _
    rw [blen_bitLen _ (by omega)]
def d_nat_Bits : Den := den1 aLim (fun a => a.length ≤ 1000000000000) fun a => intV ((blen (val a) : Nat) : Int)
set_option maxRecDepth 100000 in
set_option maxHeartbeats 1000000 in
theorem s_nat_Bits : Sound Tryz.prog 123 d_nat_Bits := by
  refine sound1 (fz := nofz) (l := [(93, d_nat_trim), (124, d_math_bits_Len32)]) TT_ok ⟨s_nat_trim, s_math_bits_Len32, trivial⟩ mixed Tryz.func123 Tryz.ntmps123 Tryz.results123 Tryz.call123 rfl (by omega) (fun _ => rfl) ?_
  intro a hp ha
  rw [codeK_start]
  simp only [go_sem, d_nat_trim, d_math_bits_Len32, Nat.reduceBEq, Nat.reduceBNe, Nat.reduceLT, Nat.reduceLeDiff, Nat.reduceAdd, Nat.reduceSub, Nat.reduceMul, Nat.reduceEqDiff, Int.reduceNeg, Int.reduceAdd, Int.reduceLT, Int.reduceLE, Int.reduceToNat, ↓reduceIte]
  have hle := limbs_len_val ha
  by_cases h0 : val a = 0
  · rw [h0]
    simp only [limbs_zero, List.length_nil]
    exact ⟨by omega, rfl⟩
  · obtain ⟨h1, h2, h3⟩ := blen_limbs h0
    have e : ((((limbs (val a)).length : Nat) : Int) - 1).toNat = (limbs (val a)).length - 1 := by omega
    have hlt : (limbs (val a)).getD ((limbs (val a)).length - 1) 0 < 4294967296 := limbs_lt (val a) _ (getD_mem (by omega))
    have hb : blen ((limbs (val a)).getD ((limbs (val a)).length - 1) 0) ≤ 32 := by
      rcases Nat.lt_or_ge 32 (blen ((limbs (val a)).getD ((limbs (val a)).length - 1) 0)) with h | h
      · have h4 := blen_le h2
        have : 2 ^ 32 ≤ 2 ^ (blen ((limbs (val a)).getD ((limbs (val a)).length - 1) 0) - 1) := Nat.pow_le_pow_right (by omega) (by omega)
        omega
      · exact h
    rw [e, if_neg (by omega)]
    and_intros <;> omega
/-- the root, rounded down -/
def rt : Nat → Nat
  | 0 => 0
  | n + 1 => if (rt n + 1) * (rt n + 1) ≤ n + 1 then rt n + 1 else rt n
end Go.Proofs.YtnjgliojkoeneaaGreat
