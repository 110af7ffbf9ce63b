/-
  DERIVED. GIVEN WITH THE SEED: THE CARDS: each row of YtocpmekblkfdiaaGreatDoorRows.lean that lists a variable, with what it lists TIED to the program's text (the seventh form; the later family's looks); each row that meets fmt, with fmt's text TOLD by the authors' own Lean function (tested against real Go, not proved from fmt's source: count such statements apart). THE CARD IS WHAT COUNTS. Prove the row's statement (the work); the ties are given (YtocpmekblkfdiaaGreatDoorTie.lean); close each card by the builder's one call (the guide's Derived/Test/ToyasCard.lean, 'card_holds'). Laid BY PROGRAM, IN A SANDBOX (cutbox-door.mjs). By AI agents, Wed Nov 11 2026. No macro, syntax, notation, axiom, sorry.
-/
import Derived.Test.YtocpmekblkfdiaaGreatDoorRows
import GoSem.ClaimSeven
namespace Go.Proofs.YtocpmekblkfdiaaGreatDoor
namespace Rows

/-- THE TIED CARD OF 'verniertop.TopExact'. -/
def topExactCard : Claim7 := { stood := { row := topExactRow, standIns := [], harness := (true, "d3c48447fd284724e9e97f5c7adff892e8aeb366409c94889fe7e8e3c5a3c73a"), looks := true }, kinds := [], alts := [], laidByText := true, laidKinds := [.data, .data, .data, .data, .sentinel, .sentinel, .pinned], laidTests := true, laidLooks := .later }
def TopExactCardSaid : Prop := Claim7.holds Tryz.pinned (.plain (OpenSpec.ofChange topExactSpec)) topExactCard

/-- THE SECOND FORM's CARD OF 'verniertop.TopExact'. -/
def topExactUptoCard : Claim7 := { stood := { row := topExactUptoRow, standIns := [], harness := (true, "d3c48447fd284724e9e97f5c7adff892e8aeb366409c94889fe7e8e3c5a3c73a"), looks := true }, kinds := [], alts := [], laidByText := true, laidKinds := [.data, .data, .data, .data, .sentinel, .sentinel, .pinned], laidTests := true, laidLooks := .later }
def TopExactUptoCardSaid : Prop := Claim7.holds Tryz.pinned (.plain (OpenSpec.upto topExactSpec)) topExactUptoCard
end Rows
end Go.Proofs.YtocpmekblkfdiaaGreatDoor
