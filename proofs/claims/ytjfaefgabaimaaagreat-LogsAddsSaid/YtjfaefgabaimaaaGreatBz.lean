/- Small lemmas on rationals, their sizes, and powers. No condition. -/
import Derived.Test.YtjfaefgabaimaaaGreatAm
import Derived.Test.YtjfaefgabaimaaaGreatAp
namespace Go.Proofs.YtjfaefgabaimaaaGreat
open Go.RowKit
theorem rs0 {K : Nat} (h : 1 ≤ K) : rs (0 : Rat) ≤ K := h
theorem int1 : ((1 : Int) : Rat) = 1 := rfl
theorem int0 : ((0 : Int) : Rat) = 0 := rfl
end Go.Proofs.YtjfaefgabaimaaaGreat
