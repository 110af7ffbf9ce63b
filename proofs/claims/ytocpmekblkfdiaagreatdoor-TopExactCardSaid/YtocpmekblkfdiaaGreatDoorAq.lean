/- nat.Bits and root.Int (Newton's way) by the abstract walk. Condition: rows of at most 10^9 limbs. -/
import Derived.Test.YtocpmekblkfdiaaGreatDoorBz
import Derived.Test.YtocpmekblkfdiaaGreatDoorLen
import Derived.Test.YtocpmekblkfdiaaGreatDoorGF
namespace Go.Proofs.YtocpmekblkfdiaaGreatDoor
open Go.RowKit
set_option linter.unusedSimpArgs false
set_option linter.unusedVariables false
def d_nat_trim : Den := den1 aLim (fun a => a.length ≤ 8000000000000) fun a => natV (val a)
theorem s_nat_trim : Sound Tryz.prog 121 d_nat_trim :=
  told1 Tryz.call121 (fun _ => rfl) fun a X w u h hX hu => by
    have hl : limG X w u a := by
      have hu : (CV.lim none a).P X w u := hu
      simpa only [CV.P] using hu
    have hnt := lim_nt hu
    obtain ⟨ao, cap, rfl, h2, h3, h4, h5⟩ := hl
    refine (natTrim w ao a.length cap a 0 (val a) hnt h rfl).mono ?_
    rintro e w' ⟨rfl, rfl⟩
    refine ⟨_, rfl, ?_, Below.refl _ _⟩
    have hle := limbs_len_val h4
    have key : limG X w (.slice ao (limbs (val a)).length cap) (limbs (val a)) := by
      refine ⟨ao, cap, rfl, by omega, h3, limbs_lt _, fun hp => ?_⟩
      obtain ⟨b, off, e, hc⟩ := h5 (by omega)
      refine ⟨b, off, e, fun i hi => ?_⟩
      have e2 : (limbs (val a)).getD i 0 = a.getD i 0 := by
        rw [← limbs_prefix h4]
        simp only [List.getD_eq_getElem?_getD]
        rw [List.getElem?_take_of_lt hi]
      rw [e2]
      exact hc i (by omega)
    show CV.P X w (.lim none (limbs (val a))) _
    simpa only [CV.P] using key
/-- the root, rounded down -/
def rt : Nat → Nat
  | 0 => 0
  | n + 1 => if (rt n + 1) * (rt n + 1) ≤ n + 1 then rt n + 1 else rt n
end Go.Proofs.YtocpmekblkfdiaaGreatDoor
