/- Small lemmas on rationals, their sizes, and powers. No condition. -/
import Derived.Test.YtocpmekblkfdiaaGreatDoorBa
import Derived.Test.YtocpmekblkfdiaaGreatDoorAp
namespace Go.Proofs.YtocpmekblkfdiaaGreatDoor
open Go.RowKit
theorem rs1 {K : Nat} (h : 1 ≤ K) : rs (1 : Rat) ≤ K := h
theorem rs0 {K : Nat} (h : 1 ≤ K) : rs (0 : Rat) ≤ K := h
theorem int1 : ((1 : Int) : Rat) = 1 := rfl
theorem int0 : ((0 : Int) : Rat) = 0 := rfl
end Go.Proofs.YtocpmekblkfdiaaGreatDoor
