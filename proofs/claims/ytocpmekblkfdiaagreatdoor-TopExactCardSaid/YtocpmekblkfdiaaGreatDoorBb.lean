/- Balls: what their reckoning is, and the laws of it, without any program. No condition. Roots: products and squares of what encloses them; without any program. No condition. -/
import Derived.Test.YtocpmekblkfdiaaGreatDoorAx
import Derived.Test.YtocpmekblkfdiaaGreatDoorBa
import Derived.Test.YtocpmekblkfdiaaGreatDoorAp
namespace Go.Proofs.YtocpmekblkfdiaaGreatDoor
open Go.RowKit
def twoP (h : Nat) : Rat := qv false (2 ^ h) 1
def unitP (h : Nat) : Rat := qv false 1 (2 ^ h)
def dn (x : Rat) (h : Nat) : Rat := ((x * twoP h).floor : Rat) * unitP h
def up (x : Rat) (h : Nat) : Rat := -dn (-x) h
end Go.Proofs.YtocpmekblkfdiaaGreatDoor
namespace Go.Proofs.YtocpmekblkfdiaaGreatDoor
open Go.RowKit
end Go.Proofs.YtocpmekblkfdiaaGreatDoor
