/-
  No cell of these rows narrows 'for every input' (looked for: loops, veiled, ifaces, maps, wideKeys, modest, calm, conditions, laid).
  DERIVED. THE GIVEN ROWS OF THIS SEAT. 17 by the template 'for every input the law returns true; each argument reads behind the call as it read before'; 0 by the template 'total and deterministic' (their statements: YtpppgmgdcpaffaaTotals.lean).
  GIVEN WITH THE SEED: the statements are not yours to turn. If you find one false, say at which input.
  Laid BY PROGRAM, IN A SANDBOX (cutbox-rows.mjs): the forced cells as the released guide's own fill.sh prints them over the translation f9d5aec3ec8cbff3… (all of the seat's roots in one cut). By AI agents, Wed Nov 11 2026. No macro, syntax, notation, axiom, sorry.
-/
import Derived.Test.YtpppgmgdcpaffaaChecked
import GoSem.Claim
import GoSem.ClaimJoined
import GoSem.ClaimMapViews
import Derived.JoinedTies
import Derived.KernelRfl
namespace Go.Proofs.Ytpppgmgdcpaffaa
/- THE CELL 'sum', in the pinned program and in every row, IS THE sha256 OF THE DUMP (.gsa) THAT YtpppgmgdcpaffaaProg.lean LOADS. Nothing in Lean hashes anything: it is a label: what it is worth is what the hold of that sum in a sandbox is worth. -/
noncomputable def Try.pinned : Pinned := { name := "ytpppgmgdcpaffaa", sum := "f9d5aec3ec8cbff3de32c8c01fe41405a3d35a056da6697aa617956aea138f89", checked := Try.checked }
namespace Rows
def none {H : Type} : Left H := { results := [], args := [] }

/-- 'vernierlaw2.RatOwn': WHATEVER THE INPUT: true; the input reads as it did. -/
def ratOwnSpec : ChangeSpec := { name := "ratOwn", fn := fun _ => fun
  | [d1, d2] => { results := [.lit (.bool true)], args := [d1, d2] }
  | _ => none }
def ratOwnRow : OpenClaim := { program := "ytpppgmgdcpaffaa", sum := "f9d5aec3ec8cbff3de32c8c01fe41405a3d35a056da6697aa617956aea138f89", func := "vernier/vernierlaw2.RatOwn", spec := "ratOwn", named := ["math/bits.overflowError"], apart := false }
def RatOwnSaid : Prop := ratOwnRow.holds Try.pinned (OpenSpec.ofChange ratOwnSpec)

/-- ITS FALSE NEIGHBOUR: 'it returns false'. Refute it at one input. -/
def ratOwnWrong : ChangeSpec := { name := "ratOwn", fn := fun _ => fun
  | [d1, d2] => { results := [.lit (.bool false)], args := [d1, d2] }
  | _ => none }
def RatOwnWrongFalsely : Prop := ratOwnRow.holds Try.pinned (OpenSpec.ofChange ratOwnWrong)

/-- 'vernierlaw2.RatWider': WHATEVER THE INPUT: true; the input reads as it did. -/
def ratWiderSpec : ChangeSpec := { name := "ratWider", fn := fun _ => fun
  | [d1, d2] => { results := [.lit (.bool true)], args := [d1, d2] }
  | _ => none }
def ratWiderRow : OpenClaim := { program := "ytpppgmgdcpaffaa", sum := "f9d5aec3ec8cbff3de32c8c01fe41405a3d35a056da6697aa617956aea138f89", func := "vernier/vernierlaw2.RatWider", spec := "ratWider", named := ["math/bits.overflowError"], apart := false }
def RatWiderSaid : Prop := ratWiderRow.holds Try.pinned (OpenSpec.ofChange ratWiderSpec)

/-- ITS FALSE NEIGHBOUR: 'it returns false'. Refute it at one input. -/
def ratWiderWrong : ChangeSpec := { name := "ratWider", fn := fun _ => fun
  | [d1, d2] => { results := [.lit (.bool false)], args := [d1, d2] }
  | _ => none }
def RatWiderWrongFalsely : Prop := ratWiderRow.holds Try.pinned (OpenSpec.ofChange ratWiderWrong)

/-- 'vernierlaw18.RankSums': WHATEVER THE INPUT: true; the input reads as it did. -/
def rankSumsSpec : ChangeSpec := { name := "rankSums", fn := fun _ => fun
  | [d] => { results := [.lit (.bool true)], args := [d] }
  | _ => none }
def rankSumsRow : OpenClaim := { program := "ytpppgmgdcpaffaa", sum := "f9d5aec3ec8cbff3de32c8c01fe41405a3d35a056da6697aa617956aea138f89", func := "vernier/vernierlaw18.RankSums", spec := "rankSums", named := ["math/bits.overflowError"], apart := false }
def RankSumsSaid : Prop := rankSumsRow.holds Try.pinned (OpenSpec.ofChange rankSumsSpec)

/-- ITS FALSE NEIGHBOUR: 'it returns false'. Refute it at one input. -/
def rankSumsWrong : ChangeSpec := { name := "rankSums", fn := fun _ => fun
  | [d] => { results := [.lit (.bool false)], args := [d] }
  | _ => none }
def RankSumsWrongFalsely : Prop := rankSumsRow.holds Try.pinned (OpenSpec.ofChange rankSumsWrong)

/-- 'vernierlaw18.RankMoves': WHATEVER THE INPUT: true; the input reads as it did. -/
def rankMovesSpec : ChangeSpec := { name := "rankMoves", fn := fun _ => fun
  | [d1, d2, d3] => { results := [.lit (.bool true)], args := [d1, d2, d3] }
  | _ => none }
def rankMovesRow : OpenClaim := { program := "ytpppgmgdcpaffaa", sum := "f9d5aec3ec8cbff3de32c8c01fe41405a3d35a056da6697aa617956aea138f89", func := "vernier/vernierlaw18.RankMoves", spec := "rankMoves", named := ["math/bits.overflowError"], apart := false }
def RankMovesSaid : Prop := rankMovesRow.holds Try.pinned (OpenSpec.ofChange rankMovesSpec)

/-- ITS FALSE NEIGHBOUR: 'it returns false'. Refute it at one input. -/
def rankMovesWrong : ChangeSpec := { name := "rankMoves", fn := fun _ => fun
  | [d1, d2, d3] => { results := [.lit (.bool false)], args := [d1, d2, d3] }
  | _ => none }
def RankMovesWrongFalsely : Prop := rankMovesRow.holds Try.pinned (OpenSpec.ofChange rankMovesWrong)

/-- 'vernierlaw17.StatJoins': WHATEVER THE INPUT: true; the input reads as it did. -/
def statJoinsSpec : ChangeSpec := { name := "statJoins", fn := fun _ => fun
  | [d1, d2] => { results := [.lit (.bool true)], args := [d1, d2] }
  | _ => none }
def statJoinsRow : OpenClaim := { program := "ytpppgmgdcpaffaa", sum := "f9d5aec3ec8cbff3de32c8c01fe41405a3d35a056da6697aa617956aea138f89", func := "vernier/vernierlaw17.StatJoins", spec := "statJoins", named := ["math/bits.overflowError"], apart := false }
def StatJoinsSaid : Prop := statJoinsRow.holds Try.pinned (OpenSpec.ofChange statJoinsSpec)

/-- ITS FALSE NEIGHBOUR: 'it returns false'. Refute it at one input. -/
def statJoinsWrong : ChangeSpec := { name := "statJoins", fn := fun _ => fun
  | [d1, d2] => { results := [.lit (.bool false)], args := [d1, d2] }
  | _ => none }
def StatJoinsWrongFalsely : Prop := statJoinsRow.holds Try.pinned (OpenSpec.ofChange statJoinsWrong)

/-- 'vernierlaw18.RankTurns': WHATEVER THE INPUT: true; the input reads as it did. -/
def rankTurnsSpec : ChangeSpec := { name := "rankTurns", fn := fun _ => fun
  | [d1, d2] => { results := [.lit (.bool true)], args := [d1, d2] }
  | _ => none }
def rankTurnsRow : OpenClaim := { program := "ytpppgmgdcpaffaa", sum := "f9d5aec3ec8cbff3de32c8c01fe41405a3d35a056da6697aa617956aea138f89", func := "vernier/vernierlaw18.RankTurns", spec := "rankTurns", named := ["math/bits.overflowError"], apart := false }
def RankTurnsSaid : Prop := rankTurnsRow.holds Try.pinned (OpenSpec.ofChange rankTurnsSpec)

/-- ITS FALSE NEIGHBOUR: 'it returns false'. Refute it at one input. -/
def rankTurnsWrong : ChangeSpec := { name := "rankTurns", fn := fun _ => fun
  | [d1, d2] => { results := [.lit (.bool false)], args := [d1, d2] }
  | _ => none }
def RankTurnsWrongFalsely : Prop := rankTurnsRow.holds Try.pinned (OpenSpec.ofChange rankTurnsWrong)

/-- 'vernierlaw13.DiscAll': WHATEVER THE INPUT: true; the input reads as it did. -/
def discAllSpec : ChangeSpec := { name := "discAll", fn := fun _ => fun
  | [d1, d2, d3] => { results := [.lit (.bool true)], args := [d1, d2, d3] }
  | _ => none }
def discAllRow : OpenClaim := { program := "ytpppgmgdcpaffaa", sum := "f9d5aec3ec8cbff3de32c8c01fe41405a3d35a056da6697aa617956aea138f89", func := "vernier/vernierlaw13.DiscAll", spec := "discAll", named := ["math/bits.overflowError"], apart := false }
def DiscAllSaid : Prop := discAllRow.holds Try.pinned (OpenSpec.ofChange discAllSpec)

/-- ITS FALSE NEIGHBOUR: 'it returns false'. Refute it at one input. -/
def discAllWrong : ChangeSpec := { name := "discAll", fn := fun _ => fun
  | [d1, d2, d3] => { results := [.lit (.bool false)], args := [d1, d2, d3] }
  | _ => none }
def DiscAllWrongFalsely : Prop := discAllRow.holds Try.pinned (OpenSpec.ofChange discAllWrong)

/-- 'vernierlaw13.DiscMean': WHATEVER THE INPUT: true; the input reads as it did. -/
def discMeanSpec : ChangeSpec := { name := "discMean", fn := fun _ => fun
  | [d1, d2] => { results := [.lit (.bool true)], args := [d1, d2] }
  | _ => none }
def discMeanRow : OpenClaim := { program := "ytpppgmgdcpaffaa", sum := "f9d5aec3ec8cbff3de32c8c01fe41405a3d35a056da6697aa617956aea138f89", func := "vernier/vernierlaw13.DiscMean", spec := "discMean", named := ["math/bits.overflowError"], apart := false }
def DiscMeanSaid : Prop := discMeanRow.holds Try.pinned (OpenSpec.ofChange discMeanSpec)

/-- ITS FALSE NEIGHBOUR: 'it returns false'. Refute it at one input. -/
def discMeanWrong : ChangeSpec := { name := "discMean", fn := fun _ => fun
  | [d1, d2] => { results := [.lit (.bool false)], args := [d1, d2] }
  | _ => none }
def DiscMeanWrongFalsely : Prop := discMeanRow.holds Try.pinned (OpenSpec.ofChange discMeanWrong)

/-- 'vernierlaw13.DiscTwo': WHATEVER THE INPUT: true; the input reads as it did. -/
def discTwoSpec : ChangeSpec := { name := "discTwo", fn := fun _ => fun
  | [d1, d2] => { results := [.lit (.bool true)], args := [d1, d2] }
  | _ => none }
def discTwoRow : OpenClaim := { program := "ytpppgmgdcpaffaa", sum := "f9d5aec3ec8cbff3de32c8c01fe41405a3d35a056da6697aa617956aea138f89", func := "vernier/vernierlaw13.DiscTwo", spec := "discTwo", named := ["math/bits.overflowError"], apart := false }
def DiscTwoSaid : Prop := discTwoRow.holds Try.pinned (OpenSpec.ofChange discTwoSpec)

/-- ITS FALSE NEIGHBOUR: 'it returns false'. Refute it at one input. -/
def discTwoWrong : ChangeSpec := { name := "discTwo", fn := fun _ => fun
  | [d1, d2] => { results := [.lit (.bool false)], args := [d1, d2] }
  | _ => none }
def DiscTwoWrongFalsely : Prop := discTwoRow.holds Try.pinned (OpenSpec.ofChange discTwoWrong)

/-- 'vernierlaw13.DiscBinom': WHATEVER THE INPUT: true; the input reads as it did. -/
def discBinomSpec : ChangeSpec := { name := "discBinom", fn := fun _ => fun
  | [d1, d2, d3] => { results := [.lit (.bool true)], args := [d1, d2, d3] }
  | _ => none }
def discBinomRow : OpenClaim := { program := "ytpppgmgdcpaffaa", sum := "f9d5aec3ec8cbff3de32c8c01fe41405a3d35a056da6697aa617956aea138f89", func := "vernier/vernierlaw13.DiscBinom", spec := "discBinom", named := ["math/bits.overflowError"], apart := false }
def DiscBinomSaid : Prop := discBinomRow.holds Try.pinned (OpenSpec.ofChange discBinomSpec)

/-- ITS FALSE NEIGHBOUR: 'it returns false'. Refute it at one input. -/
def discBinomWrong : ChangeSpec := { name := "discBinom", fn := fun _ => fun
  | [d1, d2, d3] => { results := [.lit (.bool false)], args := [d1, d2, d3] }
  | _ => none }
def DiscBinomWrongFalsely : Prop := discBinomRow.holds Try.pinned (OpenSpec.ofChange discBinomWrong)

/-- 'vernierlaw18.RankTells': WHATEVER THE INPUT: true; the input reads as it did. -/
def rankTellsSpec : ChangeSpec := { name := "rankTells", fn := fun _ => fun
  | [d1, d2] => { results := [.lit (.bool true)], args := [d1, d2] }
  | _ => none }
def rankTellsRow : OpenClaim := { program := "ytpppgmgdcpaffaa", sum := "f9d5aec3ec8cbff3de32c8c01fe41405a3d35a056da6697aa617956aea138f89", func := "vernier/vernierlaw18.RankTells", spec := "rankTells", named := ["math/bits.overflowError"], apart := false }
def RankTellsSaid : Prop := rankTellsRow.holds Try.pinned (OpenSpec.ofChange rankTellsSpec)

/-- ITS FALSE NEIGHBOUR: 'it returns false'. Refute it at one input. -/
def rankTellsWrong : ChangeSpec := { name := "rankTells", fn := fun _ => fun
  | [d1, d2] => { results := [.lit (.bool false)], args := [d1, d2] }
  | _ => none }
def RankTellsWrongFalsely : Prop := rankTellsRow.holds Try.pinned (OpenSpec.ofChange rankTellsWrong)

/-- 'vernierlaw18.RankBounds': WHATEVER THE INPUT: true; the input reads as it did. -/
def rankBoundsSpec : ChangeSpec := { name := "rankBounds", fn := fun _ => fun
  | [d1, d2] => { results := [.lit (.bool true)], args := [d1, d2] }
  | _ => none }
def rankBoundsRow : OpenClaim := { program := "ytpppgmgdcpaffaa", sum := "f9d5aec3ec8cbff3de32c8c01fe41405a3d35a056da6697aa617956aea138f89", func := "vernier/vernierlaw18.RankBounds", spec := "rankBounds", named := ["math/bits.overflowError"], apart := false }
def RankBoundsSaid : Prop := rankBoundsRow.holds Try.pinned (OpenSpec.ofChange rankBoundsSpec)

/-- ITS FALSE NEIGHBOUR: 'it returns false'. Refute it at one input. -/
def rankBoundsWrong : ChangeSpec := { name := "rankBounds", fn := fun _ => fun
  | [d1, d2] => { results := [.lit (.bool false)], args := [d1, d2] }
  | _ => none }
def RankBoundsWrongFalsely : Prop := rankBoundsRow.holds Try.pinned (OpenSpec.ofChange rankBoundsWrong)

/-- 'vernierlaw17.StatTwice': WHATEVER THE INPUT: true; the input reads as it did. -/
def statTwiceSpec : ChangeSpec := { name := "statTwice", fn := fun _ => fun
  | [d] => { results := [.lit (.bool true)], args := [d] }
  | _ => none }
def statTwiceRow : OpenClaim := { program := "ytpppgmgdcpaffaa", sum := "f9d5aec3ec8cbff3de32c8c01fe41405a3d35a056da6697aa617956aea138f89", func := "vernier/vernierlaw17.StatTwice", spec := "statTwice", unfollowed := true, recurses := true, named := ["math/bits.overflowError"], apart := false }
def StatTwiceSaid : Prop := statTwiceRow.holds Try.pinned (OpenSpec.ofChange statTwiceSpec)

/-- ITS FALSE NEIGHBOUR: 'it returns false'. Refute it at one input. -/
def statTwiceWrong : ChangeSpec := { name := "statTwice", fn := fun _ => fun
  | [d] => { results := [.lit (.bool false)], args := [d] }
  | _ => none }
def StatTwiceWrongFalsely : Prop := statTwiceRow.holds Try.pinned (OpenSpec.ofChange statTwiceWrong)

/-- 'vernierlaw17.StatBetween': WHATEVER THE INPUT: true; the input reads as it did. -/
def statBetweenSpec : ChangeSpec := { name := "statBetween", fn := fun _ => fun
  | [d1, d2] => { results := [.lit (.bool true)], args := [d1, d2] }
  | _ => none }
def statBetweenRow : OpenClaim := { program := "ytpppgmgdcpaffaa", sum := "f9d5aec3ec8cbff3de32c8c01fe41405a3d35a056da6697aa617956aea138f89", func := "vernier/vernierlaw17.StatBetween", spec := "statBetween", unfollowed := true, recurses := true, named := ["math/bits.overflowError"], apart := false }
def StatBetweenSaid : Prop := statBetweenRow.holds Try.pinned (OpenSpec.ofChange statBetweenSpec)

/-- ITS FALSE NEIGHBOUR: 'it returns false'. Refute it at one input. -/
def statBetweenWrong : ChangeSpec := { name := "statBetween", fn := fun _ => fun
  | [d1, d2] => { results := [.lit (.bool false)], args := [d1, d2] }
  | _ => none }
def StatBetweenWrongFalsely : Prop := statBetweenRow.holds Try.pinned (OpenSpec.ofChange statBetweenWrong)

/-- 'vernierlaw17.StatOrders': WHATEVER THE INPUT: true; the input reads as it did. -/
def statOrdersSpec : ChangeSpec := { name := "statOrders", fn := fun _ => fun
  | [d1, d2] => { results := [.lit (.bool true)], args := [d1, d2] }
  | _ => none }
def statOrdersRow : OpenClaim := { program := "ytpppgmgdcpaffaa", sum := "f9d5aec3ec8cbff3de32c8c01fe41405a3d35a056da6697aa617956aea138f89", func := "vernier/vernierlaw17.StatOrders", spec := "statOrders", unfollowed := true, recurses := true, named := ["math/bits.overflowError"], apart := false }
def StatOrdersSaid : Prop := statOrdersRow.holds Try.pinned (OpenSpec.ofChange statOrdersSpec)

/-- ITS FALSE NEIGHBOUR: 'it returns false'. Refute it at one input. -/
def statOrdersWrong : ChangeSpec := { name := "statOrders", fn := fun _ => fun
  | [d1, d2] => { results := [.lit (.bool false)], args := [d1, d2] }
  | _ => none }
def StatOrdersWrongFalsely : Prop := statOrdersRow.holds Try.pinned (OpenSpec.ofChange statOrdersWrong)

/-- 'vernierlaw17.StatMoves': WHATEVER THE INPUT: true; the input reads as it did. -/
def statMovesSpec : ChangeSpec := { name := "statMoves", fn := fun _ => fun
  | [d1, d2, d3] => { results := [.lit (.bool true)], args := [d1, d2, d3] }
  | _ => none }
def statMovesRow : OpenClaim := { program := "ytpppgmgdcpaffaa", sum := "f9d5aec3ec8cbff3de32c8c01fe41405a3d35a056da6697aa617956aea138f89", func := "vernier/vernierlaw17.StatMoves", spec := "statMoves", unfollowed := true, recurses := true, named := ["math/bits.overflowError"], apart := false }
def StatMovesSaid : Prop := statMovesRow.holds Try.pinned (OpenSpec.ofChange statMovesSpec)

/-- ITS FALSE NEIGHBOUR: 'it returns false'. Refute it at one input. -/
def statMovesWrong : ChangeSpec := { name := "statMoves", fn := fun _ => fun
  | [d1, d2, d3] => { results := [.lit (.bool false)], args := [d1, d2, d3] }
  | _ => none }
def StatMovesWrongFalsely : Prop := statMovesRow.holds Try.pinned (OpenSpec.ofChange statMovesWrong)

/-- 'vernierlaw17.StatOwn': WHATEVER THE INPUT: true; the input reads as it did. -/
def statOwnSpec : ChangeSpec := { name := "statOwn", fn := fun _ => fun
  | [d] => { results := [.lit (.bool true)], args := [d] }
  | _ => none }
def statOwnRow : OpenClaim := { program := "ytpppgmgdcpaffaa", sum := "f9d5aec3ec8cbff3de32c8c01fe41405a3d35a056da6697aa617956aea138f89", func := "vernier/vernierlaw17.StatOwn", spec := "statOwn", unfollowed := true, recurses := true, named := ["math/bits.overflowError"], apart := false }
def StatOwnSaid : Prop := statOwnRow.holds Try.pinned (OpenSpec.ofChange statOwnSpec)

/-- ITS FALSE NEIGHBOUR: 'it returns false'. Refute it at one input. -/
def statOwnWrong : ChangeSpec := { name := "statOwn", fn := fun _ => fun
  | [d] => { results := [.lit (.bool false)], args := [d] }
  | _ => none }
def StatOwnWrongFalsely : Prop := statOwnRow.holds Try.pinned (OpenSpec.ofChange statOwnWrong)

/- THE SECOND FORM. 'bulk': how many values and letters a reading holds, each counted each time it is reached (what is shared counts as often as it is met; a slice's spare places count too). A statement '..UptoSaid' is the law's where the arguments, and the package variables that the reading takes, are together of bulk at most 1048576: NARROWER than '..Said'. Prove '..Said' where nothing that the law and all that it calls make is longer than what came in: it says more and counts as full. Else prove '..UptoSaid'. A law counts once. -/
mutual
def uptoBulk {H : Type} : DataW H → Nat
  | .lit (.string bytes) => bytes.length + 1
  | .lit _ => 1
  | .nil => 1
  | .ptr d => uptoBulk d + 1
  | .slice elems spare => uptoBulkAll elems + uptoBulkAll spare + 1
  | .agg parts => uptoBulkAll parts + 1
  | .iface _ d => uptoBulk d + 1
  | .map entries => uptoBulkEntries entries + 1
  | .held _ => 1
def uptoBulkAll {H : Type} : List (DataW H) → Nat
  | [] => 0
  | d :: r => uptoBulk d + uptoBulkAll r
def uptoBulkEntries {H : Type} : List (Lit × DataW H) → Nat
  | [] => 0
  | x :: r => uptoBulkEntry x + uptoBulkEntries r
def uptoBulkEntry {H : Type} : Lit × DataW H → Nat
  | (.string bytes, d) => bytes.length + uptoBulk d + 1
  | (_, d) => uptoBulk d + 1
 end
def uptoSmall : (H : Type) → List (DataW H) → Bool := fun _ ds => decide (uptoBulkAll ds ≤ 1048576)
def OpenSpec.upto (s : _root_.Go.ChangeSpec) : _root_.Go.OpenSpec := { _root_.Go.OpenSpec.ofChange s with cond := some uptoSmall }

/-- 'vernierlaw2.RatOwn', WHERE WHAT IT READS IS OF BULK AT MOST 1048576: true; the input reads as it did. -/
def ratOwnUptoRow : OpenClaim := { program := "ytpppgmgdcpaffaa", sum := "f9d5aec3ec8cbff3de32c8c01fe41405a3d35a056da6697aa617956aea138f89", func := "vernier/vernierlaw2.RatOwn", spec := "ratOwn", named := ["math/bits.overflowError"], apart := false, narrowed := true }
def RatOwnUptoSaid : Prop := ratOwnUptoRow.holds Try.pinned (OpenSpec.upto ratOwnSpec)

/-- 'vernierlaw2.RatWider', WHERE WHAT IT READS IS OF BULK AT MOST 1048576: true; the input reads as it did. -/
def ratWiderUptoRow : OpenClaim := { program := "ytpppgmgdcpaffaa", sum := "f9d5aec3ec8cbff3de32c8c01fe41405a3d35a056da6697aa617956aea138f89", func := "vernier/vernierlaw2.RatWider", spec := "ratWider", named := ["math/bits.overflowError"], apart := false, narrowed := true }
def RatWiderUptoSaid : Prop := ratWiderUptoRow.holds Try.pinned (OpenSpec.upto ratWiderSpec)

/-- 'vernierlaw18.RankSums', WHERE WHAT IT READS IS OF BULK AT MOST 1048576: true; the input reads as it did. -/
def rankSumsUptoRow : OpenClaim := { program := "ytpppgmgdcpaffaa", sum := "f9d5aec3ec8cbff3de32c8c01fe41405a3d35a056da6697aa617956aea138f89", func := "vernier/vernierlaw18.RankSums", spec := "rankSums", named := ["math/bits.overflowError"], apart := false, narrowed := true }
def RankSumsUptoSaid : Prop := rankSumsUptoRow.holds Try.pinned (OpenSpec.upto rankSumsSpec)

/-- 'vernierlaw18.RankMoves', WHERE WHAT IT READS IS OF BULK AT MOST 1048576: true; the input reads as it did. -/
def rankMovesUptoRow : OpenClaim := { program := "ytpppgmgdcpaffaa", sum := "f9d5aec3ec8cbff3de32c8c01fe41405a3d35a056da6697aa617956aea138f89", func := "vernier/vernierlaw18.RankMoves", spec := "rankMoves", named := ["math/bits.overflowError"], apart := false, narrowed := true }
def RankMovesUptoSaid : Prop := rankMovesUptoRow.holds Try.pinned (OpenSpec.upto rankMovesSpec)

/-- 'vernierlaw17.StatJoins', WHERE WHAT IT READS IS OF BULK AT MOST 1048576: true; the input reads as it did. -/
def statJoinsUptoRow : OpenClaim := { program := "ytpppgmgdcpaffaa", sum := "f9d5aec3ec8cbff3de32c8c01fe41405a3d35a056da6697aa617956aea138f89", func := "vernier/vernierlaw17.StatJoins", spec := "statJoins", named := ["math/bits.overflowError"], apart := false, narrowed := true }
def StatJoinsUptoSaid : Prop := statJoinsUptoRow.holds Try.pinned (OpenSpec.upto statJoinsSpec)

/-- 'vernierlaw18.RankTurns', WHERE WHAT IT READS IS OF BULK AT MOST 1048576: true; the input reads as it did. -/
def rankTurnsUptoRow : OpenClaim := { program := "ytpppgmgdcpaffaa", sum := "f9d5aec3ec8cbff3de32c8c01fe41405a3d35a056da6697aa617956aea138f89", func := "vernier/vernierlaw18.RankTurns", spec := "rankTurns", named := ["math/bits.overflowError"], apart := false, narrowed := true }
def RankTurnsUptoSaid : Prop := rankTurnsUptoRow.holds Try.pinned (OpenSpec.upto rankTurnsSpec)

/-- 'vernierlaw13.DiscAll', WHERE WHAT IT READS IS OF BULK AT MOST 1048576: true; the input reads as it did. -/
def discAllUptoRow : OpenClaim := { program := "ytpppgmgdcpaffaa", sum := "f9d5aec3ec8cbff3de32c8c01fe41405a3d35a056da6697aa617956aea138f89", func := "vernier/vernierlaw13.DiscAll", spec := "discAll", named := ["math/bits.overflowError"], apart := false, narrowed := true }
def DiscAllUptoSaid : Prop := discAllUptoRow.holds Try.pinned (OpenSpec.upto discAllSpec)

/-- 'vernierlaw13.DiscMean', WHERE WHAT IT READS IS OF BULK AT MOST 1048576: true; the input reads as it did. -/
def discMeanUptoRow : OpenClaim := { program := "ytpppgmgdcpaffaa", sum := "f9d5aec3ec8cbff3de32c8c01fe41405a3d35a056da6697aa617956aea138f89", func := "vernier/vernierlaw13.DiscMean", spec := "discMean", named := ["math/bits.overflowError"], apart := false, narrowed := true }
def DiscMeanUptoSaid : Prop := discMeanUptoRow.holds Try.pinned (OpenSpec.upto discMeanSpec)

/-- 'vernierlaw13.DiscTwo', WHERE WHAT IT READS IS OF BULK AT MOST 1048576: true; the input reads as it did. -/
def discTwoUptoRow : OpenClaim := { program := "ytpppgmgdcpaffaa", sum := "f9d5aec3ec8cbff3de32c8c01fe41405a3d35a056da6697aa617956aea138f89", func := "vernier/vernierlaw13.DiscTwo", spec := "discTwo", named := ["math/bits.overflowError"], apart := false, narrowed := true }
def DiscTwoUptoSaid : Prop := discTwoUptoRow.holds Try.pinned (OpenSpec.upto discTwoSpec)

/-- 'vernierlaw13.DiscBinom', WHERE WHAT IT READS IS OF BULK AT MOST 1048576: true; the input reads as it did. -/
def discBinomUptoRow : OpenClaim := { program := "ytpppgmgdcpaffaa", sum := "f9d5aec3ec8cbff3de32c8c01fe41405a3d35a056da6697aa617956aea138f89", func := "vernier/vernierlaw13.DiscBinom", spec := "discBinom", named := ["math/bits.overflowError"], apart := false, narrowed := true }
def DiscBinomUptoSaid : Prop := discBinomUptoRow.holds Try.pinned (OpenSpec.upto discBinomSpec)

/-- 'vernierlaw18.RankTells', WHERE WHAT IT READS IS OF BULK AT MOST 1048576: true; the input reads as it did. -/
def rankTellsUptoRow : OpenClaim := { program := "ytpppgmgdcpaffaa", sum := "f9d5aec3ec8cbff3de32c8c01fe41405a3d35a056da6697aa617956aea138f89", func := "vernier/vernierlaw18.RankTells", spec := "rankTells", named := ["math/bits.overflowError"], apart := false, narrowed := true }
def RankTellsUptoSaid : Prop := rankTellsUptoRow.holds Try.pinned (OpenSpec.upto rankTellsSpec)

/-- 'vernierlaw18.RankBounds', WHERE WHAT IT READS IS OF BULK AT MOST 1048576: true; the input reads as it did. -/
def rankBoundsUptoRow : OpenClaim := { program := "ytpppgmgdcpaffaa", sum := "f9d5aec3ec8cbff3de32c8c01fe41405a3d35a056da6697aa617956aea138f89", func := "vernier/vernierlaw18.RankBounds", spec := "rankBounds", named := ["math/bits.overflowError"], apart := false, narrowed := true }
def RankBoundsUptoSaid : Prop := rankBoundsUptoRow.holds Try.pinned (OpenSpec.upto rankBoundsSpec)

/-- 'vernierlaw17.StatTwice', WHERE WHAT IT READS IS OF BULK AT MOST 1048576: true; the input reads as it did. -/
def statTwiceUptoRow : OpenClaim := { program := "ytpppgmgdcpaffaa", sum := "f9d5aec3ec8cbff3de32c8c01fe41405a3d35a056da6697aa617956aea138f89", func := "vernier/vernierlaw17.StatTwice", spec := "statTwice", unfollowed := true, recurses := true, named := ["math/bits.overflowError"], apart := false, narrowed := true }
def StatTwiceUptoSaid : Prop := statTwiceUptoRow.holds Try.pinned (OpenSpec.upto statTwiceSpec)

/-- 'vernierlaw17.StatBetween', WHERE WHAT IT READS IS OF BULK AT MOST 1048576: true; the input reads as it did. -/
def statBetweenUptoRow : OpenClaim := { program := "ytpppgmgdcpaffaa", sum := "f9d5aec3ec8cbff3de32c8c01fe41405a3d35a056da6697aa617956aea138f89", func := "vernier/vernierlaw17.StatBetween", spec := "statBetween", unfollowed := true, recurses := true, named := ["math/bits.overflowError"], apart := false, narrowed := true }
def StatBetweenUptoSaid : Prop := statBetweenUptoRow.holds Try.pinned (OpenSpec.upto statBetweenSpec)

/-- 'vernierlaw17.StatOrders', WHERE WHAT IT READS IS OF BULK AT MOST 1048576: true; the input reads as it did. -/
def statOrdersUptoRow : OpenClaim := { program := "ytpppgmgdcpaffaa", sum := "f9d5aec3ec8cbff3de32c8c01fe41405a3d35a056da6697aa617956aea138f89", func := "vernier/vernierlaw17.StatOrders", spec := "statOrders", unfollowed := true, recurses := true, named := ["math/bits.overflowError"], apart := false, narrowed := true }
def StatOrdersUptoSaid : Prop := statOrdersUptoRow.holds Try.pinned (OpenSpec.upto statOrdersSpec)

/-- 'vernierlaw17.StatMoves', WHERE WHAT IT READS IS OF BULK AT MOST 1048576: true; the input reads as it did. -/
def statMovesUptoRow : OpenClaim := { program := "ytpppgmgdcpaffaa", sum := "f9d5aec3ec8cbff3de32c8c01fe41405a3d35a056da6697aa617956aea138f89", func := "vernier/vernierlaw17.StatMoves", spec := "statMoves", unfollowed := true, recurses := true, named := ["math/bits.overflowError"], apart := false, narrowed := true }
def StatMovesUptoSaid : Prop := statMovesUptoRow.holds Try.pinned (OpenSpec.upto statMovesSpec)

/-- 'vernierlaw17.StatOwn', WHERE WHAT IT READS IS OF BULK AT MOST 1048576: true; the input reads as it did. -/
def statOwnUptoRow : OpenClaim := { program := "ytpppgmgdcpaffaa", sum := "f9d5aec3ec8cbff3de32c8c01fe41405a3d35a056da6697aa617956aea138f89", func := "vernier/vernierlaw17.StatOwn", spec := "statOwn", unfollowed := true, recurses := true, named := ["math/bits.overflowError"], apart := false, narrowed := true }
def StatOwnUptoSaid : Prop := statOwnUptoRow.holds Try.pinned (OpenSpec.upto statOwnSpec)

end Rows
end Go.Proofs.Ytpppgmgdcpaffaa
