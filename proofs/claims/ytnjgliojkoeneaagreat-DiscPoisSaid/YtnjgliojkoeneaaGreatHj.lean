/- What the law DiscSums asks: at most so many is at most one fewer, and just so many. Conditions: as told. -/
import Derived.Test.YtnjgliojkoeneaaGreatHi
import Derived.Test.YtnjgliojkoeneaaGreatHg
import Derived.Test.YtnjgliojkoeneaaGreatBb
namespace Go.Proofs.YtnjgliojkoeneaaGreat
open Go.RowKit
set_option linter.unusedSimpArgs false
set_option linter.unusedVariables false
theorem tB_sz (all : Bool) {q : Rat} {p : Int} {k : Int} (hk : k ≤ 100) (h : tOk q = true) (hd : q.den ≤ 2 ^ 200) : (tB all k q p).sz ≤ 2000 := by
  have z0 : (bb ((0 : Int) : Rat) ((0 : Int) : Rat)).sz ≤ 2000 := by decide +kernel
  have z1 : (bb ((1 : Int) : Rat) ((1 : Int) : Rat)).sz ≤ 2000 := by decide +kernel
  unfold tB
  rw [if_pos h]
  · split
    · exact z0
    · split
      · exact z1
      · have ht := h
        unfold tOk at h
        rw [Bool.and_eq_true, decide_eq_true_eq, Bool.not_eq_true'] at h
        obtain ⟨hn, hle⟩ := h
        have hm0 : 0 ≤ q := Rat.num_nonneg.1 (by
          unfold ng at hn
          have := of_decide_eq_false hn
          omega)
        have hnn : nm q ≤ 64 * q.den := nm_le (k := 64) (by rw [show ((64 : Nat) : Rat) = 64 from rfl]; grind) hle
        have hPP : tP p ≤ 200 := by unfold tP; omega
        have hB := cF_by (w := tP p + 128) q.den_pos hnn
        obtain ⟨_, s2, s3⟩ := sAt_sz (all := all) (W := tP p + 128) (K := k.toNat) (i := k.toNat) hB.1 hB.2 (by omega) (by omega) (Nat.le_refl _)
        obtain ⟨x1, x2⟩ := rs_exp (q := -q) ((tP p + 128 : Nat) : Int) (by rw [den_neg]; exact hd)
        have hE := ballSp_sz x1 x2 (W := tP p + 128) (by omega)
        have hms : (spN (P.spMul (tS all q p k.toNat) (tE q p) (tP p + 128))).sz ≤ 1000 := mul_sz (L := 200) (M := 100) s2 s3 hE.1 hE.2 (by omega)
        have m1 : (limbs (P.spMul (tS all q p k.toNat) (tE q p) (tP p + 128)).1).length ≤ 1000 := Nat.le_trans (Nat.le_max_left _ _) hms
        have m2 : (limbs (P.spMul (tS all q p k.toNat) (tE q p) (tP p + 128)).2).length ≤ 1000 := Nat.le_trans (Nat.le_max_right _ _) hms
        have d1 := len_div (m := (P.spMul (tS all q p k.toNat) (tE q p) (tP p + 128)).1) (2 ^ (tP p + 128 - (tP p + 2)))
        have d2 := len_div (m := (P.spMul (tS all q p k.toNat) (tE q p) (tP p + 128)).2) (2 ^ (tP p + 128 - (tP p + 2)))
        have d3 := limbs_len_add ((P.spMul (tS all q p k.toNat) (tE q p) (tP p + 128)).2 / 2 ^ (tP p + 128 - (tP p + 2))) 1
        have d4 := len_one
        have d5 := pow_bits (tP p + 2)
        exact Nat.max_le.2 ⟨show rs _ ≤ _ from rs_qv _ _ _ _ (by omega) (by omega) (by omega), show rs _ ≤ _ from rs_qv _ _ _ _ (by omega) (by omega) (by omega)⟩
end Go.Proofs.YtnjgliojkoeneaaGreat
