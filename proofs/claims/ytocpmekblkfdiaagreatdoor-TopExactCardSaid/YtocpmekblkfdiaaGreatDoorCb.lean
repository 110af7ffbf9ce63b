/- stat: by, Sum, Mean, off, products, Central, Variance, Covariance, by the abstract walk. Conditions: rows of at most 1000 numbers of at most 1000 limbs. -/
import Derived.Test.YtocpmekblkfdiaaGreatDoorCa
namespace Go.Proofs.YtocpmekblkfdiaaGreatDoor
open Go.RowKit
set_option linter.unusedSimpArgs false
set_option linter.unusedVariables false
theorem Le.trans {a b c : AS} (h : Le a b) (k : Le b c) : Le a c := fun N X0 w0 x w g who H => by
  obtain ⟨g', who', H'⟩ := h N X0 w0 x w g who H
  exact k N X0 w0 x w g' who' H'
end Go.Proofs.YtocpmekblkfdiaaGreatDoor
