/- The code behind is laid aside: the walk in pieces. No condition. -/
import Derived.Test.YtocpmekblkfdiaaGreatDoorAm
namespace Go.Proofs.YtocpmekblkfdiaaGreatDoor
open Go.RowKit
/-- the code behind is laid aside -/
theorem cut_seq {E : Env} {Q : AEx → AS → Prop} {k : List It} {s : AS} {c1 c2 : Code} (h : ∀ C, C = c2 → codeK E Q k (.seq c1 C) s) : codeK E Q k (.seq c1 c2) s := h c2 rfl
/-- both branches are laid aside -/
theorem cut_cond {E : Env} {Q : AEx → AS → Prop} {k : List It} {s : AS} {c : Operand} {x y : Code} (h : ∀ X, X = x → ∀ Y, Y = y → codeK E Q k (.cond c X Y) s) : codeK E Q k (.cond c x y) s := h x rfl y rfl
end Go.Proofs.YtocpmekblkfdiaaGreatDoor
