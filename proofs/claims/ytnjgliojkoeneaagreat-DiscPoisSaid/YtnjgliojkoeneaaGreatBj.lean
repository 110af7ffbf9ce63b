/- The code behind is laid aside: the walk in pieces. No condition. -/
import Derived.Test.YtnjgliojkoeneaaGreatAm
namespace Go.Proofs.YtnjgliojkoeneaaGreat
open Go.RowKit
/-- the code behind is laid aside -/
theorem cut_seq {E : Env} {Q : AEx → AS → Prop} {k : List It} {s : AS} {c1 c2 : Code} (h : ∀ C, C = c2 → codeK E Q k (.seq c1 C) s) : codeK E Q k (.seq c1 c2) s := h c2 rfl
end Go.Proofs.YtnjgliojkoeneaaGreat
