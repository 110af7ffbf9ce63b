/- What the laws of balls ask, as the walk spells it. No condition. -/
import Derived.Test.YtnjgliojkoeneaaGreatBb
namespace Go.Proofs.YtnjgliojkoeneaaGreat
open Go.RowKit
theorem isB_cr {l h : Rat} (k : l ≤ h) : isB ⟨cr l, cr h⟩ = true := by
  unfold isB
  simp only [cr_q, oneB_cr, decide_true, Bool.true_and, decide_eq_true k]
end Go.Proofs.YtnjgliojkoeneaaGreat
