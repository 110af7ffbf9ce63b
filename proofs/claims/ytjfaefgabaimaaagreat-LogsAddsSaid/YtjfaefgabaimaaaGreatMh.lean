/- What logarithms and angles share: sizes, the balls' ends. No condition beyond those told. -/
import Derived.Test.YtjfaefgabaimaaaGreatMb
import Derived.Test.YtjfaefgabaimaaaGreatPf
import Derived.Test.YtjfaefgabaimaaaGreatBc
import Derived.Test.YtjfaefgabaimaaaGreatBb
namespace Go.Proofs.YtjfaefgabaimaaaGreat
open Go.RowKit
set_option linter.unusedSimpArgs false
set_option linter.unusedVariables false
theorem rvle_refl (x : RV) : RVle x x := fun _ _ _ _ _ _ _ h => h
theorem rvle_nil : RVle (.cv .nil) (.cv (.lim none [])) := fun B g who a w n k h => by
  obtain ⟨h1, h2, h3, h4, h5, h6, v, h7, h8⟩ := h
  exact ⟨h1, h2, h3, h4, h5, h6, v, h7, CV.fit_G (x := .nil) (y := .lim none []) rfl h8⟩
theorem sp_v2 (x y : Nat) : (⟨limbs x, limbs y⟩ : SpL).v = (x, y) := spN_v (x, y)
structure LgI (y : Nat × Nat) (w : Nat) where
  j : Nat
  le : j ≤ P.lJ y w
theorem spN_sz' {p : Nat × Nat} {B L : Nat} (h1 : p.1 < 2 ^ B) (h2 : p.2 < 2 ^ B) (hL : B / 32 + 1 ≤ L) : (spN p).sz ≤ L := by
  have := len_bits h1
  have := len_bits h2
  exact spN_sz (by omega) (by omega)
theorem fr_qv (f p : Nat) : P.fr f p = qv false f (2 ^ p) := by
  have h1 := P.fr_mul f p
  have hp := P.rp2_pos p
  have h2 : qv false f (2 ^ p) * P.rp 2 p = ((f : Nat) : Rat) := by
    rw [P.rp2_nat]
    unfold qv
    rw [Rat.mkRat_eq_div]
    have hne : ((2 ^ p : Nat) : Rat) ≠ 0 := by have := P.nat_pos (P.pow_pos2 p); grind
    show (((f : Int)) : Rat) / ((2 ^ p : Nat) : Rat) * ((2 ^ p : Nat) : Rat) = _
    rw [Rat.div_mul_cancel hne]
    rfl
  have h3 : P.fr f p * P.rp 2 p = qv false f (2 ^ p) * P.rp 2 p := by rw [h1, h2]
  exact Rat.le_antisymm (Rat.le_of_mul_le_mul_right (show _ ≤ _ by rw [h3]; exact Rat.le_refl) hp) (Rat.le_of_mul_le_mul_right (show _ ≤ _ by rw [h3]; exact Rat.le_refl) hp)
theorem rs_fr {f p : Nat} (hp : p ≤ 512) (hf : (limbs f).length ≤ 30) : rs (P.fr f p) ≤ 30 := by
  rw [fr_qv]
  refine rs_qv _ _ _ _ hf ?_ (by omega)
  have := pow_bits p; omega
theorem bb_sz {x y : Rat} {K L : Nat} (h1 : rs x ≤ K) (h2 : rs y ≤ K) (h : K ≤ L) : (⟨cr x, cr y⟩ : BB).sz ≤ L := Nat.max_le.2 ⟨by rw [cr_sz]; omega, by rw [cr_sz]; omega⟩
theorem lW_succ (p i : Nat) : P.lW p i * 2 = P.lW p (i + 1) := by unfold P.lW; rw [Nat.pow_succ, Nat.mul_assoc]
end Go.Proofs.YtjfaefgabaimaaaGreat
