/- Sums of sequences of rationals and of whole numbers; means. No condition. -/
import Derived.Test.YtocpmekblkfdiaaGreatDoorBz
namespace Go.Proofs.YtocpmekblkfdiaaGreatDoor
open Go.RowKit
def sumTo (f : Nat → Rat) : Nat → Rat
  | 0 => 0
  | n + 1 => sumTo f n + f n
end Go.Proofs.YtocpmekblkfdiaaGreatDoor
