/-
  No cell of these rows narrows 'for every input' (looked for: loops, veiled, ifaces, maps, wideKeys, modest, calm, conditions, laid).
  DERIVED. THE GIVEN ROWS OF THIS SEAT. 34 by the template 'for every input the law returns true; each argument reads behind the call as it read before'; 0 by the template 'total and deterministic' (their statements: YtmfoihjkhoinaaaTotals.lean).
  GIVEN WITH THE SEED: the statements are not yours to turn. If you find one false, say at which input.
  Laid BY PROGRAM, IN A SANDBOX (cutbox-rows.mjs): the forced cells as the released guide's own fill.sh prints them over the translation 8c0dcb56c5a6a545… (all of the seat's roots in one cut). By AI agents, Wed Nov 11 2026. No macro, syntax, notation, axiom, sorry.
-/
import Derived.Test.YtmfoihjkhoinaaaChecked
import GoSem.Claim
import GoSem.ClaimJoined
import GoSem.ClaimMapViews
import Derived.JoinedTies
import Derived.KernelRfl
namespace Go.Proofs.Ytmfoihjkhoinaaa
/- THE CELL 'sum', in the pinned program and in every row, IS THE sha256 OF THE DUMP (.gsa) THAT YtmfoihjkhoinaaaProg.lean LOADS. Nothing in Lean hashes anything: it is a label: what it is worth is what the hold of that sum in a sandbox is worth. -/
noncomputable def Try.pinned : Pinned := { name := "ytmfoihjkhoinaaa", sum := "8c0dcb56c5a6a54527a5b184f9e6edad4689e6d0224a36c513106272fb20df60", checked := Try.checked }
namespace Rows
def none {H : Type} : Left H := { results := [], args := [] }

/-- 'vernierlaw5.RootSquares': WHATEVER THE INPUT: true; the input reads as it did. -/
def rootSquaresSpec : ChangeSpec := { name := "rootSquares", fn := fun _ => fun
  | [d1, d2, d3] => { results := [.lit (.bool true)], args := [d1, d2, d3] }
  | _ => none }
def rootSquaresRow : OpenClaim := { program := "ytmfoihjkhoinaaa", sum := "8c0dcb56c5a6a54527a5b184f9e6edad4689e6d0224a36c513106272fb20df60", func := "vernier/vernierlaw5.RootSquares", spec := "rootSquares", named := ["math/bits.overflowError"], apart := false }
def RootSquaresSaid : Prop := rootSquaresRow.holds Try.pinned (OpenSpec.ofChange rootSquaresSpec)

/-- ITS FALSE NEIGHBOUR: 'it returns false'. Refute it at one input. -/
def rootSquaresWrong : ChangeSpec := { name := "rootSquares", fn := fun _ => fun
  | [d1, d2, d3] => { results := [.lit (.bool false)], args := [d1, d2, d3] }
  | _ => none }
def RootSquaresWrongFalsely : Prop := rootSquaresRow.holds Try.pinned (OpenSpec.ofChange rootSquaresWrong)

/-- 'vernierlaw5.RootMuls': WHATEVER THE INPUT: true; the input reads as it did. -/
def rootMulsSpec : ChangeSpec := { name := "rootMuls", fn := fun _ => fun
  | [d1, d2, d3] => { results := [.lit (.bool true)], args := [d1, d2, d3] }
  | _ => none }
def rootMulsRow : OpenClaim := { program := "ytmfoihjkhoinaaa", sum := "8c0dcb56c5a6a54527a5b184f9e6edad4689e6d0224a36c513106272fb20df60", func := "vernier/vernierlaw5.RootMuls", spec := "rootMuls", named := ["math/bits.overflowError"], apart := false }
def RootMulsSaid : Prop := rootMulsRow.holds Try.pinned (OpenSpec.ofChange rootMulsSpec)

/-- ITS FALSE NEIGHBOUR: 'it returns false'. Refute it at one input. -/
def rootMulsWrong : ChangeSpec := { name := "rootMuls", fn := fun _ => fun
  | [d1, d2, d3] => { results := [.lit (.bool false)], args := [d1, d2, d3] }
  | _ => none }
def RootMulsWrongFalsely : Prop := rootMulsRow.holds Try.pinned (OpenSpec.ofChange rootMulsWrong)

/-- 'vernierlaw5.RootRises': WHATEVER THE INPUT: true; the input reads as it did. -/
def rootRisesSpec : ChangeSpec := { name := "rootRises", fn := fun _ => fun
  | [d1, d2, d3, d4] => { results := [.lit (.bool true)], args := [d1, d2, d3, d4] }
  | _ => none }
def rootRisesRow : OpenClaim := { program := "ytmfoihjkhoinaaa", sum := "8c0dcb56c5a6a54527a5b184f9e6edad4689e6d0224a36c513106272fb20df60", func := "vernier/vernierlaw5.RootRises", spec := "rootRises", named := ["math/bits.overflowError"], apart := false }
def RootRisesSaid : Prop := rootRisesRow.holds Try.pinned (OpenSpec.ofChange rootRisesSpec)

/-- ITS FALSE NEIGHBOUR: 'it returns false'. Refute it at one input. -/
def rootRisesWrong : ChangeSpec := { name := "rootRises", fn := fun _ => fun
  | [d1, d2, d3, d4] => { results := [.lit (.bool false)], args := [d1, d2, d3, d4] }
  | _ => none }
def RootRisesWrongFalsely : Prop := rootRisesRow.holds Try.pinned (OpenSpec.ofChange rootRisesWrong)

/-- 'vernierlaw2.RatOwn': WHATEVER THE INPUT: true; the input reads as it did. -/
def ratOwnSpec : ChangeSpec := { name := "ratOwn", fn := fun _ => fun
  | [d1, d2] => { results := [.lit (.bool true)], args := [d1, d2] }
  | _ => none }
def ratOwnRow : OpenClaim := { program := "ytmfoihjkhoinaaa", sum := "8c0dcb56c5a6a54527a5b184f9e6edad4689e6d0224a36c513106272fb20df60", func := "vernier/vernierlaw2.RatOwn", spec := "ratOwn", named := ["math/bits.overflowError"], apart := false }
def RatOwnSaid : Prop := ratOwnRow.holds Try.pinned (OpenSpec.ofChange ratOwnSpec)

/-- ITS FALSE NEIGHBOUR: 'it returns false'. Refute it at one input. -/
def ratOwnWrong : ChangeSpec := { name := "ratOwn", fn := fun _ => fun
  | [d1, d2] => { results := [.lit (.bool false)], args := [d1, d2] }
  | _ => none }
def RatOwnWrongFalsely : Prop := ratOwnRow.holds Try.pinned (OpenSpec.ofChange ratOwnWrong)

/-- 'vernierlaw2.RatWider': WHATEVER THE INPUT: true; the input reads as it did. -/
def ratWiderSpec : ChangeSpec := { name := "ratWider", fn := fun _ => fun
  | [d1, d2] => { results := [.lit (.bool true)], args := [d1, d2] }
  | _ => none }
def ratWiderRow : OpenClaim := { program := "ytmfoihjkhoinaaa", sum := "8c0dcb56c5a6a54527a5b184f9e6edad4689e6d0224a36c513106272fb20df60", func := "vernier/vernierlaw2.RatWider", spec := "ratWider", named := ["math/bits.overflowError"], apart := false }
def RatWiderSaid : Prop := ratWiderRow.holds Try.pinned (OpenSpec.ofChange ratWiderSpec)

/-- ITS FALSE NEIGHBOUR: 'it returns false'. Refute it at one input. -/
def ratWiderWrong : ChangeSpec := { name := "ratWider", fn := fun _ => fun
  | [d1, d2] => { results := [.lit (.bool false)], args := [d1, d2] }
  | _ => none }
def RatWiderWrongFalsely : Prop := ratWiderRow.holds Try.pinned (OpenSpec.ofChange ratWiderWrong)

/-- 'vernierlaw2.RatLooks': WHATEVER THE INPUT: true; the input reads as it did. -/
def ratLooksSpec : ChangeSpec := { name := "ratLooks", fn := fun _ => fun
  | [d1, d2] => { results := [.lit (.bool true)], args := [d1, d2] }
  | _ => none }
def ratLooksRow : OpenClaim := { program := "ytmfoihjkhoinaaa", sum := "8c0dcb56c5a6a54527a5b184f9e6edad4689e6d0224a36c513106272fb20df60", func := "vernier/vernierlaw2.RatLooks", spec := "ratLooks", named := ["math/bits.overflowError"], apart := false }
def RatLooksSaid : Prop := ratLooksRow.holds Try.pinned (OpenSpec.ofChange ratLooksSpec)

/-- ITS FALSE NEIGHBOUR: 'it returns false'. Refute it at one input. -/
def ratLooksWrong : ChangeSpec := { name := "ratLooks", fn := fun _ => fun
  | [d1, d2] => { results := [.lit (.bool false)], args := [d1, d2] }
  | _ => none }
def RatLooksWrongFalsely : Prop := ratLooksRow.holds Try.pinned (OpenSpec.ofChange ratLooksWrong)

/-- 'vernierlaw5.RootTells': WHATEVER THE INPUT: true; the input reads as it did. -/
def rootTellsSpec : ChangeSpec := { name := "rootTells", fn := fun _ => fun
  | [d1, d2, d3, d4] => { results := [.lit (.bool true)], args := [d1, d2, d3, d4] }
  | _ => none }
def rootTellsRow : OpenClaim := { program := "ytmfoihjkhoinaaa", sum := "8c0dcb56c5a6a54527a5b184f9e6edad4689e6d0224a36c513106272fb20df60", func := "vernier/vernierlaw5.RootTells", spec := "rootTells", named := ["math/bits.overflowError"], apart := false }
def RootTellsSaid : Prop := rootTellsRow.holds Try.pinned (OpenSpec.ofChange rootTellsSpec)

/-- ITS FALSE NEIGHBOUR: 'it returns false'. Refute it at one input. -/
def rootTellsWrong : ChangeSpec := { name := "rootTells", fn := fun _ => fun
  | [d1, d2, d3, d4] => { results := [.lit (.bool false)], args := [d1, d2, d3, d4] }
  | _ => none }
def RootTellsWrongFalsely : Prop := rootTellsRow.holds Try.pinned (OpenSpec.ofChange rootTellsWrong)

/-- 'vernierlaw4.BallOwn': WHATEVER THE INPUT: true; the input reads as it did. -/
def ballOwnSpec : ChangeSpec := { name := "ballOwn", fn := fun _ => fun
  | [d] => { results := [.lit (.bool true)], args := [d] }
  | _ => none }
def ballOwnRow : OpenClaim := { program := "ytmfoihjkhoinaaa", sum := "8c0dcb56c5a6a54527a5b184f9e6edad4689e6d0224a36c513106272fb20df60", func := "vernier/vernierlaw4.BallOwn", spec := "ballOwn", named := ["math/bits.overflowError"], apart := false }
def BallOwnSaid : Prop := ballOwnRow.holds Try.pinned (OpenSpec.ofChange ballOwnSpec)

/-- ITS FALSE NEIGHBOUR: 'it returns false'. Refute it at one input. -/
def ballOwnWrong : ChangeSpec := { name := "ballOwn", fn := fun _ => fun
  | [d] => { results := [.lit (.bool false)], args := [d] }
  | _ => none }
def BallOwnWrongFalsely : Prop := ballOwnRow.holds Try.pinned (OpenSpec.ofChange ballOwnWrong)

/-- 'vernierlaw4.BallLeast': WHATEVER THE INPUT: true; the input reads as it did. -/
def ballLeastSpec : ChangeSpec := { name := "ballLeast", fn := fun _ => fun
  | [d1, d2, d3, d4] => { results := [.lit (.bool true)], args := [d1, d2, d3, d4] }
  | _ => none }
def ballLeastRow : OpenClaim := { program := "ytmfoihjkhoinaaa", sum := "8c0dcb56c5a6a54527a5b184f9e6edad4689e6d0224a36c513106272fb20df60", func := "vernier/vernierlaw4.BallLeast", spec := "ballLeast", named := ["math/bits.overflowError"], apart := false }
def BallLeastSaid : Prop := ballLeastRow.holds Try.pinned (OpenSpec.ofChange ballLeastSpec)

/-- ITS FALSE NEIGHBOUR: 'it returns false'. Refute it at one input. -/
def ballLeastWrong : ChangeSpec := { name := "ballLeast", fn := fun _ => fun
  | [d1, d2, d3, d4] => { results := [.lit (.bool false)], args := [d1, d2, d3, d4] }
  | _ => none }
def BallLeastWrongFalsely : Prop := ballLeastRow.holds Try.pinned (OpenSpec.ofChange ballLeastWrong)

/-- 'vernierlaw2.RatReckons': WHATEVER THE INPUT: true; the input reads as it did. -/
def ratReckonsSpec : ChangeSpec := { name := "ratReckons", fn := fun _ => fun
  | [d1, d2] => { results := [.lit (.bool true)], args := [d1, d2] }
  | _ => none }
def ratReckonsRow : OpenClaim := { program := "ytmfoihjkhoinaaa", sum := "8c0dcb56c5a6a54527a5b184f9e6edad4689e6d0224a36c513106272fb20df60", func := "vernier/vernierlaw2.RatReckons", spec := "ratReckons", named := ["math/bits.overflowError"], apart := false }
def RatReckonsSaid : Prop := ratReckonsRow.holds Try.pinned (OpenSpec.ofChange ratReckonsSpec)

/-- ITS FALSE NEIGHBOUR: 'it returns false'. Refute it at one input. -/
def ratReckonsWrong : ChangeSpec := { name := "ratReckons", fn := fun _ => fun
  | [d1, d2] => { results := [.lit (.bool false)], args := [d1, d2] }
  | _ => none }
def RatReckonsWrongFalsely : Prop := ratReckonsRow.holds Try.pinned (OpenSpec.ofChange ratReckonsWrong)

/-- 'vernierlaw4.BallShorter': WHATEVER THE INPUT: true; the input reads as it did. -/
def ballShorterSpec : ChangeSpec := { name := "ballShorter", fn := fun _ => fun
  | [d1, d2] => { results := [.lit (.bool true)], args := [d1, d2] }
  | _ => none }
def ballShorterRow : OpenClaim := { program := "ytmfoihjkhoinaaa", sum := "8c0dcb56c5a6a54527a5b184f9e6edad4689e6d0224a36c513106272fb20df60", func := "vernier/vernierlaw4.BallShorter", spec := "ballShorter", named := ["math/bits.overflowError"], apart := false }
def BallShorterSaid : Prop := ballShorterRow.holds Try.pinned (OpenSpec.ofChange ballShorterSpec)

/-- ITS FALSE NEIGHBOUR: 'it returns false'. Refute it at one input. -/
def ballShorterWrong : ChangeSpec := { name := "ballShorter", fn := fun _ => fun
  | [d1, d2] => { results := [.lit (.bool false)], args := [d1, d2] }
  | _ => none }
def BallShorterWrongFalsely : Prop := ballShorterRow.holds Try.pinned (OpenSpec.ofChange ballShorterWrong)

/-- 'vernierlaw4.BallTrims': WHATEVER THE INPUT: true; the input reads as it did. -/
def ballTrimsSpec : ChangeSpec := { name := "ballTrims", fn := fun _ => fun
  | [d1, d2, d3] => { results := [.lit (.bool true)], args := [d1, d2, d3] }
  | _ => none }
def ballTrimsRow : OpenClaim := { program := "ytmfoihjkhoinaaa", sum := "8c0dcb56c5a6a54527a5b184f9e6edad4689e6d0224a36c513106272fb20df60", func := "vernier/vernierlaw4.BallTrims", spec := "ballTrims", named := ["math/bits.overflowError"], apart := false }
def BallTrimsSaid : Prop := ballTrimsRow.holds Try.pinned (OpenSpec.ofChange ballTrimsSpec)

/-- ITS FALSE NEIGHBOUR: 'it returns false'. Refute it at one input. -/
def ballTrimsWrong : ChangeSpec := { name := "ballTrims", fn := fun _ => fun
  | [d1, d2, d3] => { results := [.lit (.bool false)], args := [d1, d2, d3] }
  | _ => none }
def BallTrimsWrongFalsely : Prop := ballTrimsRow.holds Try.pinned (OpenSpec.ofChange ballTrimsWrong)

/-- 'vernierlaw4.BallOut': WHATEVER THE INPUT: true; the input reads as it did. -/
def ballOutSpec : ChangeSpec := { name := "ballOut", fn := fun _ => fun
  | [d1, d2] => { results := [.lit (.bool true)], args := [d1, d2] }
  | _ => none }
def ballOutRow : OpenClaim := { program := "ytmfoihjkhoinaaa", sum := "8c0dcb56c5a6a54527a5b184f9e6edad4689e6d0224a36c513106272fb20df60", func := "vernier/vernierlaw4.BallOut", spec := "ballOut", named := ["math/bits.overflowError"], apart := false }
def BallOutSaid : Prop := ballOutRow.holds Try.pinned (OpenSpec.ofChange ballOutSpec)

/-- ITS FALSE NEIGHBOUR: 'it returns false'. Refute it at one input. -/
def ballOutWrong : ChangeSpec := { name := "ballOut", fn := fun _ => fun
  | [d1, d2] => { results := [.lit (.bool false)], args := [d1, d2] }
  | _ => none }
def BallOutWrongFalsely : Prop := ballOutRow.holds Try.pinned (OpenSpec.ofChange ballOutWrong)

/-- 'vernierlaw18.RankSums': WHATEVER THE INPUT: true; the input reads as it did. -/
def rankSumsSpec : ChangeSpec := { name := "rankSums", fn := fun _ => fun
  | [d] => { results := [.lit (.bool true)], args := [d] }
  | _ => none }
def rankSumsRow : OpenClaim := { program := "ytmfoihjkhoinaaa", sum := "8c0dcb56c5a6a54527a5b184f9e6edad4689e6d0224a36c513106272fb20df60", func := "vernier/vernierlaw18.RankSums", spec := "rankSums", named := ["math/bits.overflowError"], apart := false }
def RankSumsSaid : Prop := rankSumsRow.holds Try.pinned (OpenSpec.ofChange rankSumsSpec)

/-- ITS FALSE NEIGHBOUR: 'it returns false'. Refute it at one input. -/
def rankSumsWrong : ChangeSpec := { name := "rankSums", fn := fun _ => fun
  | [d] => { results := [.lit (.bool false)], args := [d] }
  | _ => none }
def RankSumsWrongFalsely : Prop := rankSumsRow.holds Try.pinned (OpenSpec.ofChange rankSumsWrong)

/-- 'vernierlaw18.RankMoves': WHATEVER THE INPUT: true; the input reads as it did. -/
def rankMovesSpec : ChangeSpec := { name := "rankMoves", fn := fun _ => fun
  | [d1, d2, d3] => { results := [.lit (.bool true)], args := [d1, d2, d3] }
  | _ => none }
def rankMovesRow : OpenClaim := { program := "ytmfoihjkhoinaaa", sum := "8c0dcb56c5a6a54527a5b184f9e6edad4689e6d0224a36c513106272fb20df60", func := "vernier/vernierlaw18.RankMoves", spec := "rankMoves", named := ["math/bits.overflowError"], apart := false }
def RankMovesSaid : Prop := rankMovesRow.holds Try.pinned (OpenSpec.ofChange rankMovesSpec)

/-- ITS FALSE NEIGHBOUR: 'it returns false'. Refute it at one input. -/
def rankMovesWrong : ChangeSpec := { name := "rankMoves", fn := fun _ => fun
  | [d1, d2, d3] => { results := [.lit (.bool false)], args := [d1, d2, d3] }
  | _ => none }
def RankMovesWrongFalsely : Prop := rankMovesRow.holds Try.pinned (OpenSpec.ofChange rankMovesWrong)

/-- 'vernierlaw17.StatJoins': WHATEVER THE INPUT: true; the input reads as it did. -/
def statJoinsSpec : ChangeSpec := { name := "statJoins", fn := fun _ => fun
  | [d1, d2] => { results := [.lit (.bool true)], args := [d1, d2] }
  | _ => none }
def statJoinsRow : OpenClaim := { program := "ytmfoihjkhoinaaa", sum := "8c0dcb56c5a6a54527a5b184f9e6edad4689e6d0224a36c513106272fb20df60", func := "vernier/vernierlaw17.StatJoins", spec := "statJoins", named := ["math/bits.overflowError"], apart := false }
def StatJoinsSaid : Prop := statJoinsRow.holds Try.pinned (OpenSpec.ofChange statJoinsSpec)

/-- ITS FALSE NEIGHBOUR: 'it returns false'. Refute it at one input. -/
def statJoinsWrong : ChangeSpec := { name := "statJoins", fn := fun _ => fun
  | [d1, d2] => { results := [.lit (.bool false)], args := [d1, d2] }
  | _ => none }
def StatJoinsWrongFalsely : Prop := statJoinsRow.holds Try.pinned (OpenSpec.ofChange statJoinsWrong)

/-- 'vernierlaw4.BallSides': WHATEVER THE INPUT: true; the input reads as it did. -/
def ballSidesSpec : ChangeSpec := { name := "ballSides", fn := fun _ => fun
  | [d1, d2] => { results := [.lit (.bool true)], args := [d1, d2] }
  | _ => none }
def ballSidesRow : OpenClaim := { program := "ytmfoihjkhoinaaa", sum := "8c0dcb56c5a6a54527a5b184f9e6edad4689e6d0224a36c513106272fb20df60", func := "vernier/vernierlaw4.BallSides", spec := "ballSides", named := ["math/bits.overflowError"], apart := false }
def BallSidesSaid : Prop := ballSidesRow.holds Try.pinned (OpenSpec.ofChange ballSidesSpec)

/-- ITS FALSE NEIGHBOUR: 'it returns false'. Refute it at one input. -/
def ballSidesWrong : ChangeSpec := { name := "ballSides", fn := fun _ => fun
  | [d1, d2] => { results := [.lit (.bool false)], args := [d1, d2] }
  | _ => none }
def BallSidesWrongFalsely : Prop := ballSidesRow.holds Try.pinned (OpenSpec.ofChange ballSidesWrong)

/-- 'vernierlaw18.RankTurns': WHATEVER THE INPUT: true; the input reads as it did. -/
def rankTurnsSpec : ChangeSpec := { name := "rankTurns", fn := fun _ => fun
  | [d1, d2] => { results := [.lit (.bool true)], args := [d1, d2] }
  | _ => none }
def rankTurnsRow : OpenClaim := { program := "ytmfoihjkhoinaaa", sum := "8c0dcb56c5a6a54527a5b184f9e6edad4689e6d0224a36c513106272fb20df60", func := "vernier/vernierlaw18.RankTurns", spec := "rankTurns", named := ["math/bits.overflowError"], apart := false }
def RankTurnsSaid : Prop := rankTurnsRow.holds Try.pinned (OpenSpec.ofChange rankTurnsSpec)

/-- ITS FALSE NEIGHBOUR: 'it returns false'. Refute it at one input. -/
def rankTurnsWrong : ChangeSpec := { name := "rankTurns", fn := fun _ => fun
  | [d1, d2] => { results := [.lit (.bool false)], args := [d1, d2] }
  | _ => none }
def RankTurnsWrongFalsely : Prop := rankTurnsRow.holds Try.pinned (OpenSpec.ofChange rankTurnsWrong)

/-- 'vernierlaw13.DiscAll': WHATEVER THE INPUT: true; the input reads as it did. -/
def discAllSpec : ChangeSpec := { name := "discAll", fn := fun _ => fun
  | [d1, d2, d3] => { results := [.lit (.bool true)], args := [d1, d2, d3] }
  | _ => none }
def discAllRow : OpenClaim := { program := "ytmfoihjkhoinaaa", sum := "8c0dcb56c5a6a54527a5b184f9e6edad4689e6d0224a36c513106272fb20df60", func := "vernier/vernierlaw13.DiscAll", spec := "discAll", named := ["math/bits.overflowError"], apart := false }
def DiscAllSaid : Prop := discAllRow.holds Try.pinned (OpenSpec.ofChange discAllSpec)

/-- ITS FALSE NEIGHBOUR: 'it returns false'. Refute it at one input. -/
def discAllWrong : ChangeSpec := { name := "discAll", fn := fun _ => fun
  | [d1, d2, d3] => { results := [.lit (.bool false)], args := [d1, d2, d3] }
  | _ => none }
def DiscAllWrongFalsely : Prop := discAllRow.holds Try.pinned (OpenSpec.ofChange discAllWrong)

/-- 'vernierlaw13.DiscMean': WHATEVER THE INPUT: true; the input reads as it did. -/
def discMeanSpec : ChangeSpec := { name := "discMean", fn := fun _ => fun
  | [d1, d2] => { results := [.lit (.bool true)], args := [d1, d2] }
  | _ => none }
def discMeanRow : OpenClaim := { program := "ytmfoihjkhoinaaa", sum := "8c0dcb56c5a6a54527a5b184f9e6edad4689e6d0224a36c513106272fb20df60", func := "vernier/vernierlaw13.DiscMean", spec := "discMean", named := ["math/bits.overflowError"], apart := false }
def DiscMeanSaid : Prop := discMeanRow.holds Try.pinned (OpenSpec.ofChange discMeanSpec)

/-- ITS FALSE NEIGHBOUR: 'it returns false'. Refute it at one input. -/
def discMeanWrong : ChangeSpec := { name := "discMean", fn := fun _ => fun
  | [d1, d2] => { results := [.lit (.bool false)], args := [d1, d2] }
  | _ => none }
def DiscMeanWrongFalsely : Prop := discMeanRow.holds Try.pinned (OpenSpec.ofChange discMeanWrong)

/-- 'vernierlaw4.BallLooks': WHATEVER THE INPUT: true; the input reads as it did. -/
def ballLooksSpec : ChangeSpec := { name := "ballLooks", fn := fun _ => fun
  | [d1, d2, d3] => { results := [.lit (.bool true)], args := [d1, d2, d3] }
  | _ => none }
def ballLooksRow : OpenClaim := { program := "ytmfoihjkhoinaaa", sum := "8c0dcb56c5a6a54527a5b184f9e6edad4689e6d0224a36c513106272fb20df60", func := "vernier/vernierlaw4.BallLooks", spec := "ballLooks", named := ["math/bits.overflowError"], apart := false }
def BallLooksSaid : Prop := ballLooksRow.holds Try.pinned (OpenSpec.ofChange ballLooksSpec)

/-- ITS FALSE NEIGHBOUR: 'it returns false'. Refute it at one input. -/
def ballLooksWrong : ChangeSpec := { name := "ballLooks", fn := fun _ => fun
  | [d1, d2, d3] => { results := [.lit (.bool false)], args := [d1, d2, d3] }
  | _ => none }
def BallLooksWrongFalsely : Prop := ballLooksRow.holds Try.pinned (OpenSpec.ofChange ballLooksWrong)

/-- 'vernierlaw17.StatTells': WHATEVER THE INPUT: true; the input reads as it did. -/
def statTellsSpec : ChangeSpec := { name := "statTells", fn := fun _ => fun
  | [d1, d2, d3] => { results := [.lit (.bool true)], args := [d1, d2, d3] }
  | _ => none }
def statTellsRow : OpenClaim := { program := "ytmfoihjkhoinaaa", sum := "8c0dcb56c5a6a54527a5b184f9e6edad4689e6d0224a36c513106272fb20df60", func := "vernier/vernierlaw17.StatTells", spec := "statTells", named := ["math/bits.overflowError"], apart := false }
def StatTellsSaid : Prop := statTellsRow.holds Try.pinned (OpenSpec.ofChange statTellsSpec)

/-- ITS FALSE NEIGHBOUR: 'it returns false'. Refute it at one input. -/
def statTellsWrong : ChangeSpec := { name := "statTells", fn := fun _ => fun
  | [d1, d2, d3] => { results := [.lit (.bool false)], args := [d1, d2, d3] }
  | _ => none }
def StatTellsWrongFalsely : Prop := statTellsRow.holds Try.pinned (OpenSpec.ofChange statTellsWrong)

/-- 'vernierlaw17.StatPowers': WHATEVER THE INPUT: true; the input reads as it did. -/
def statPowersSpec : ChangeSpec := { name := "statPowers", fn := fun _ => fun
  | [d] => { results := [.lit (.bool true)], args := [d] }
  | _ => none }
def statPowersRow : OpenClaim := { program := "ytmfoihjkhoinaaa", sum := "8c0dcb56c5a6a54527a5b184f9e6edad4689e6d0224a36c513106272fb20df60", func := "vernier/vernierlaw17.StatPowers", spec := "statPowers", named := ["math/bits.overflowError"], apart := false }
def StatPowersSaid : Prop := statPowersRow.holds Try.pinned (OpenSpec.ofChange statPowersSpec)

/-- ITS FALSE NEIGHBOUR: 'it returns false'. Refute it at one input. -/
def statPowersWrong : ChangeSpec := { name := "statPowers", fn := fun _ => fun
  | [d] => { results := [.lit (.bool false)], args := [d] }
  | _ => none }
def StatPowersWrongFalsely : Prop := statPowersRow.holds Try.pinned (OpenSpec.ofChange statPowersWrong)

/-- 'vernierlaw13.DiscTwo': WHATEVER THE INPUT: true; the input reads as it did. -/
def discTwoSpec : ChangeSpec := { name := "discTwo", fn := fun _ => fun
  | [d1, d2] => { results := [.lit (.bool true)], args := [d1, d2] }
  | _ => none }
def discTwoRow : OpenClaim := { program := "ytmfoihjkhoinaaa", sum := "8c0dcb56c5a6a54527a5b184f9e6edad4689e6d0224a36c513106272fb20df60", func := "vernier/vernierlaw13.DiscTwo", spec := "discTwo", named := ["math/bits.overflowError"], apart := false }
def DiscTwoSaid : Prop := discTwoRow.holds Try.pinned (OpenSpec.ofChange discTwoSpec)

/-- ITS FALSE NEIGHBOUR: 'it returns false'. Refute it at one input. -/
def discTwoWrong : ChangeSpec := { name := "discTwo", fn := fun _ => fun
  | [d1, d2] => { results := [.lit (.bool false)], args := [d1, d2] }
  | _ => none }
def DiscTwoWrongFalsely : Prop := discTwoRow.holds Try.pinned (OpenSpec.ofChange discTwoWrong)

/-- 'vernierlaw4.BallReckons': WHATEVER THE INPUT: true; the input reads as it did. -/
def ballReckonsSpec : ChangeSpec := { name := "ballReckons", fn := fun _ => fun
  | [d1, d2, d3] => { results := [.lit (.bool true)], args := [d1, d2, d3] }
  | _ => none }
def ballReckonsRow : OpenClaim := { program := "ytmfoihjkhoinaaa", sum := "8c0dcb56c5a6a54527a5b184f9e6edad4689e6d0224a36c513106272fb20df60", func := "vernier/vernierlaw4.BallReckons", spec := "ballReckons", named := ["math/bits.overflowError"], apart := false }
def BallReckonsSaid : Prop := ballReckonsRow.holds Try.pinned (OpenSpec.ofChange ballReckonsSpec)

/-- ITS FALSE NEIGHBOUR: 'it returns false'. Refute it at one input. -/
def ballReckonsWrong : ChangeSpec := { name := "ballReckons", fn := fun _ => fun
  | [d1, d2, d3] => { results := [.lit (.bool false)], args := [d1, d2, d3] }
  | _ => none }
def BallReckonsWrongFalsely : Prop := ballReckonsRow.holds Try.pinned (OpenSpec.ofChange ballReckonsWrong)

/-- 'vernierlaw4.BallHolds': WHATEVER THE INPUT: true; the input reads as it did. -/
def ballHoldsSpec : ChangeSpec := { name := "ballHolds", fn := fun _ => fun
  | [d1, d2, d3, d4] => { results := [.lit (.bool true)], args := [d1, d2, d3, d4] }
  | _ => none }
def ballHoldsRow : OpenClaim := { program := "ytmfoihjkhoinaaa", sum := "8c0dcb56c5a6a54527a5b184f9e6edad4689e6d0224a36c513106272fb20df60", func := "vernier/vernierlaw4.BallHolds", spec := "ballHolds", named := ["math/bits.overflowError"], apart := false }
def BallHoldsSaid : Prop := ballHoldsRow.holds Try.pinned (OpenSpec.ofChange ballHoldsSpec)

/-- ITS FALSE NEIGHBOUR: 'it returns false'. Refute it at one input. -/
def ballHoldsWrong : ChangeSpec := { name := "ballHolds", fn := fun _ => fun
  | [d1, d2, d3, d4] => { results := [.lit (.bool false)], args := [d1, d2, d3, d4] }
  | _ => none }
def BallHoldsWrongFalsely : Prop := ballHoldsRow.holds Try.pinned (OpenSpec.ofChange ballHoldsWrong)

/-- 'vernierlaw13.DiscBinom': WHATEVER THE INPUT: true; the input reads as it did. -/
def discBinomSpec : ChangeSpec := { name := "discBinom", fn := fun _ => fun
  | [d1, d2, d3] => { results := [.lit (.bool true)], args := [d1, d2, d3] }
  | _ => none }
def discBinomRow : OpenClaim := { program := "ytmfoihjkhoinaaa", sum := "8c0dcb56c5a6a54527a5b184f9e6edad4689e6d0224a36c513106272fb20df60", func := "vernier/vernierlaw13.DiscBinom", spec := "discBinom", named := ["math/bits.overflowError"], apart := false }
def DiscBinomSaid : Prop := discBinomRow.holds Try.pinned (OpenSpec.ofChange discBinomSpec)

/-- ITS FALSE NEIGHBOUR: 'it returns false'. Refute it at one input. -/
def discBinomWrong : ChangeSpec := { name := "discBinom", fn := fun _ => fun
  | [d1, d2, d3] => { results := [.lit (.bool false)], args := [d1, d2, d3] }
  | _ => none }
def DiscBinomWrongFalsely : Prop := discBinomRow.holds Try.pinned (OpenSpec.ofChange discBinomWrong)

/-- 'vernierlaw18.RankTells': WHATEVER THE INPUT: true; the input reads as it did. -/
def rankTellsSpec : ChangeSpec := { name := "rankTells", fn := fun _ => fun
  | [d1, d2] => { results := [.lit (.bool true)], args := [d1, d2] }
  | _ => none }
def rankTellsRow : OpenClaim := { program := "ytmfoihjkhoinaaa", sum := "8c0dcb56c5a6a54527a5b184f9e6edad4689e6d0224a36c513106272fb20df60", func := "vernier/vernierlaw18.RankTells", spec := "rankTells", named := ["math/bits.overflowError"], apart := false }
def RankTellsSaid : Prop := rankTellsRow.holds Try.pinned (OpenSpec.ofChange rankTellsSpec)

/-- ITS FALSE NEIGHBOUR: 'it returns false'. Refute it at one input. -/
def rankTellsWrong : ChangeSpec := { name := "rankTells", fn := fun _ => fun
  | [d1, d2] => { results := [.lit (.bool false)], args := [d1, d2] }
  | _ => none }
def RankTellsWrongFalsely : Prop := rankTellsRow.holds Try.pinned (OpenSpec.ofChange rankTellsWrong)

/-- 'vernierlaw18.RankBounds': WHATEVER THE INPUT: true; the input reads as it did. -/
def rankBoundsSpec : ChangeSpec := { name := "rankBounds", fn := fun _ => fun
  | [d1, d2] => { results := [.lit (.bool true)], args := [d1, d2] }
  | _ => none }
def rankBoundsRow : OpenClaim := { program := "ytmfoihjkhoinaaa", sum := "8c0dcb56c5a6a54527a5b184f9e6edad4689e6d0224a36c513106272fb20df60", func := "vernier/vernierlaw18.RankBounds", spec := "rankBounds", named := ["math/bits.overflowError"], apart := false }
def RankBoundsSaid : Prop := rankBoundsRow.holds Try.pinned (OpenSpec.ofChange rankBoundsSpec)

/-- ITS FALSE NEIGHBOUR: 'it returns false'. Refute it at one input. -/
def rankBoundsWrong : ChangeSpec := { name := "rankBounds", fn := fun _ => fun
  | [d1, d2] => { results := [.lit (.bool false)], args := [d1, d2] }
  | _ => none }
def RankBoundsWrongFalsely : Prop := rankBoundsRow.holds Try.pinned (OpenSpec.ofChange rankBoundsWrong)

/-- 'vernierlaw17.StatTwice': WHATEVER THE INPUT: true; the input reads as it did. -/
def statTwiceSpec : ChangeSpec := { name := "statTwice", fn := fun _ => fun
  | [d] => { results := [.lit (.bool true)], args := [d] }
  | _ => none }
def statTwiceRow : OpenClaim := { program := "ytmfoihjkhoinaaa", sum := "8c0dcb56c5a6a54527a5b184f9e6edad4689e6d0224a36c513106272fb20df60", func := "vernier/vernierlaw17.StatTwice", spec := "statTwice", unfollowed := true, recurses := true, named := ["math/bits.overflowError"], apart := false }
def StatTwiceSaid : Prop := statTwiceRow.holds Try.pinned (OpenSpec.ofChange statTwiceSpec)

/-- ITS FALSE NEIGHBOUR: 'it returns false'. Refute it at one input. -/
def statTwiceWrong : ChangeSpec := { name := "statTwice", fn := fun _ => fun
  | [d] => { results := [.lit (.bool false)], args := [d] }
  | _ => none }
def StatTwiceWrongFalsely : Prop := statTwiceRow.holds Try.pinned (OpenSpec.ofChange statTwiceWrong)

/-- 'vernierlaw17.StatBetween': WHATEVER THE INPUT: true; the input reads as it did. -/
def statBetweenSpec : ChangeSpec := { name := "statBetween", fn := fun _ => fun
  | [d1, d2] => { results := [.lit (.bool true)], args := [d1, d2] }
  | _ => none }
def statBetweenRow : OpenClaim := { program := "ytmfoihjkhoinaaa", sum := "8c0dcb56c5a6a54527a5b184f9e6edad4689e6d0224a36c513106272fb20df60", func := "vernier/vernierlaw17.StatBetween", spec := "statBetween", unfollowed := true, recurses := true, named := ["math/bits.overflowError"], apart := false }
def StatBetweenSaid : Prop := statBetweenRow.holds Try.pinned (OpenSpec.ofChange statBetweenSpec)

/-- ITS FALSE NEIGHBOUR: 'it returns false'. Refute it at one input. -/
def statBetweenWrong : ChangeSpec := { name := "statBetween", fn := fun _ => fun
  | [d1, d2] => { results := [.lit (.bool false)], args := [d1, d2] }
  | _ => none }
def StatBetweenWrongFalsely : Prop := statBetweenRow.holds Try.pinned (OpenSpec.ofChange statBetweenWrong)

/-- 'vernierlaw17.StatOrders': WHATEVER THE INPUT: true; the input reads as it did. -/
def statOrdersSpec : ChangeSpec := { name := "statOrders", fn := fun _ => fun
  | [d1, d2] => { results := [.lit (.bool true)], args := [d1, d2] }
  | _ => none }
def statOrdersRow : OpenClaim := { program := "ytmfoihjkhoinaaa", sum := "8c0dcb56c5a6a54527a5b184f9e6edad4689e6d0224a36c513106272fb20df60", func := "vernier/vernierlaw17.StatOrders", spec := "statOrders", unfollowed := true, recurses := true, named := ["math/bits.overflowError"], apart := false }
def StatOrdersSaid : Prop := statOrdersRow.holds Try.pinned (OpenSpec.ofChange statOrdersSpec)

/-- ITS FALSE NEIGHBOUR: 'it returns false'. Refute it at one input. -/
def statOrdersWrong : ChangeSpec := { name := "statOrders", fn := fun _ => fun
  | [d1, d2] => { results := [.lit (.bool false)], args := [d1, d2] }
  | _ => none }
def StatOrdersWrongFalsely : Prop := statOrdersRow.holds Try.pinned (OpenSpec.ofChange statOrdersWrong)

/-- 'vernierlaw17.StatMoves': WHATEVER THE INPUT: true; the input reads as it did. -/
def statMovesSpec : ChangeSpec := { name := "statMoves", fn := fun _ => fun
  | [d1, d2, d3] => { results := [.lit (.bool true)], args := [d1, d2, d3] }
  | _ => none }
def statMovesRow : OpenClaim := { program := "ytmfoihjkhoinaaa", sum := "8c0dcb56c5a6a54527a5b184f9e6edad4689e6d0224a36c513106272fb20df60", func := "vernier/vernierlaw17.StatMoves", spec := "statMoves", unfollowed := true, recurses := true, named := ["math/bits.overflowError"], apart := false }
def StatMovesSaid : Prop := statMovesRow.holds Try.pinned (OpenSpec.ofChange statMovesSpec)

/-- ITS FALSE NEIGHBOUR: 'it returns false'. Refute it at one input. -/
def statMovesWrong : ChangeSpec := { name := "statMoves", fn := fun _ => fun
  | [d1, d2, d3] => { results := [.lit (.bool false)], args := [d1, d2, d3] }
  | _ => none }
def StatMovesWrongFalsely : Prop := statMovesRow.holds Try.pinned (OpenSpec.ofChange statMovesWrong)

/-- 'vernierlaw17.StatOwn': WHATEVER THE INPUT: true; the input reads as it did. -/
def statOwnSpec : ChangeSpec := { name := "statOwn", fn := fun _ => fun
  | [d] => { results := [.lit (.bool true)], args := [d] }
  | _ => none }
def statOwnRow : OpenClaim := { program := "ytmfoihjkhoinaaa", sum := "8c0dcb56c5a6a54527a5b184f9e6edad4689e6d0224a36c513106272fb20df60", func := "vernier/vernierlaw17.StatOwn", spec := "statOwn", unfollowed := true, recurses := true, named := ["math/bits.overflowError"], apart := false }
def StatOwnSaid : Prop := statOwnRow.holds Try.pinned (OpenSpec.ofChange statOwnSpec)

/-- ITS FALSE NEIGHBOUR: 'it returns false'. Refute it at one input. -/
def statOwnWrong : ChangeSpec := { name := "statOwn", fn := fun _ => fun
  | [d] => { results := [.lit (.bool false)], args := [d] }
  | _ => none }
def StatOwnWrongFalsely : Prop := statOwnRow.holds Try.pinned (OpenSpec.ofChange statOwnWrong)

/- THE SECOND FORM. 'bulk': how many values and letters a reading holds, each counted each time it is reached (what is shared counts as often as it is met; a slice's spare places count too). A statement '..UptoSaid' is the law's where the arguments, and the package variables that the reading takes, are together of bulk at most 1048576: NARROWER than '..Said'. Prove '..Said' where nothing that the law and all that it calls make is longer than what came in: it says more and counts as full. Else prove '..UptoSaid'. A law counts once. -/
mutual
def uptoBulk {H : Type} : DataW H → Nat
  | .lit (.string bytes) => bytes.length + 1
  | .lit _ => 1
  | .nil => 1
  | .ptr d => uptoBulk d + 1
  | .slice elems spare => uptoBulkAll elems + uptoBulkAll spare + 1
  | .agg parts => uptoBulkAll parts + 1
  | .iface _ d => uptoBulk d + 1
  | .map entries => uptoBulkEntries entries + 1
  | .held _ => 1
def uptoBulkAll {H : Type} : List (DataW H) → Nat
  | [] => 0
  | d :: r => uptoBulk d + uptoBulkAll r
def uptoBulkEntries {H : Type} : List (Lit × DataW H) → Nat
  | [] => 0
  | x :: r => uptoBulkEntry x + uptoBulkEntries r
def uptoBulkEntry {H : Type} : Lit × DataW H → Nat
  | (.string bytes, d) => bytes.length + uptoBulk d + 1
  | (_, d) => uptoBulk d + 1
 end
def uptoSmall : (H : Type) → List (DataW H) → Bool := fun _ ds => decide (uptoBulkAll ds ≤ 1048576)
def OpenSpec.upto (s : _root_.Go.ChangeSpec) : _root_.Go.OpenSpec := { _root_.Go.OpenSpec.ofChange s with cond := some uptoSmall }

/-- 'vernierlaw5.RootSquares', WHERE WHAT IT READS IS OF BULK AT MOST 1048576: true; the input reads as it did. -/
def rootSquaresUptoRow : OpenClaim := { program := "ytmfoihjkhoinaaa", sum := "8c0dcb56c5a6a54527a5b184f9e6edad4689e6d0224a36c513106272fb20df60", func := "vernier/vernierlaw5.RootSquares", spec := "rootSquares", named := ["math/bits.overflowError"], apart := false, narrowed := true }
def RootSquaresUptoSaid : Prop := rootSquaresUptoRow.holds Try.pinned (OpenSpec.upto rootSquaresSpec)

/-- 'vernierlaw5.RootMuls', WHERE WHAT IT READS IS OF BULK AT MOST 1048576: true; the input reads as it did. -/
def rootMulsUptoRow : OpenClaim := { program := "ytmfoihjkhoinaaa", sum := "8c0dcb56c5a6a54527a5b184f9e6edad4689e6d0224a36c513106272fb20df60", func := "vernier/vernierlaw5.RootMuls", spec := "rootMuls", named := ["math/bits.overflowError"], apart := false, narrowed := true }
def RootMulsUptoSaid : Prop := rootMulsUptoRow.holds Try.pinned (OpenSpec.upto rootMulsSpec)

/-- 'vernierlaw5.RootRises', WHERE WHAT IT READS IS OF BULK AT MOST 1048576: true; the input reads as it did. -/
def rootRisesUptoRow : OpenClaim := { program := "ytmfoihjkhoinaaa", sum := "8c0dcb56c5a6a54527a5b184f9e6edad4689e6d0224a36c513106272fb20df60", func := "vernier/vernierlaw5.RootRises", spec := "rootRises", named := ["math/bits.overflowError"], apart := false, narrowed := true }
def RootRisesUptoSaid : Prop := rootRisesUptoRow.holds Try.pinned (OpenSpec.upto rootRisesSpec)

/-- 'vernierlaw2.RatOwn', WHERE WHAT IT READS IS OF BULK AT MOST 1048576: true; the input reads as it did. -/
def ratOwnUptoRow : OpenClaim := { program := "ytmfoihjkhoinaaa", sum := "8c0dcb56c5a6a54527a5b184f9e6edad4689e6d0224a36c513106272fb20df60", func := "vernier/vernierlaw2.RatOwn", spec := "ratOwn", named := ["math/bits.overflowError"], apart := false, narrowed := true }
def RatOwnUptoSaid : Prop := ratOwnUptoRow.holds Try.pinned (OpenSpec.upto ratOwnSpec)

/-- 'vernierlaw2.RatWider', WHERE WHAT IT READS IS OF BULK AT MOST 1048576: true; the input reads as it did. -/
def ratWiderUptoRow : OpenClaim := { program := "ytmfoihjkhoinaaa", sum := "8c0dcb56c5a6a54527a5b184f9e6edad4689e6d0224a36c513106272fb20df60", func := "vernier/vernierlaw2.RatWider", spec := "ratWider", named := ["math/bits.overflowError"], apart := false, narrowed := true }
def RatWiderUptoSaid : Prop := ratWiderUptoRow.holds Try.pinned (OpenSpec.upto ratWiderSpec)

/-- 'vernierlaw2.RatLooks', WHERE WHAT IT READS IS OF BULK AT MOST 1048576: true; the input reads as it did. -/
def ratLooksUptoRow : OpenClaim := { program := "ytmfoihjkhoinaaa", sum := "8c0dcb56c5a6a54527a5b184f9e6edad4689e6d0224a36c513106272fb20df60", func := "vernier/vernierlaw2.RatLooks", spec := "ratLooks", named := ["math/bits.overflowError"], apart := false, narrowed := true }
def RatLooksUptoSaid : Prop := ratLooksUptoRow.holds Try.pinned (OpenSpec.upto ratLooksSpec)

/-- 'vernierlaw5.RootTells', WHERE WHAT IT READS IS OF BULK AT MOST 1048576: true; the input reads as it did. -/
def rootTellsUptoRow : OpenClaim := { program := "ytmfoihjkhoinaaa", sum := "8c0dcb56c5a6a54527a5b184f9e6edad4689e6d0224a36c513106272fb20df60", func := "vernier/vernierlaw5.RootTells", spec := "rootTells", named := ["math/bits.overflowError"], apart := false, narrowed := true }
def RootTellsUptoSaid : Prop := rootTellsUptoRow.holds Try.pinned (OpenSpec.upto rootTellsSpec)

/-- 'vernierlaw4.BallOwn', WHERE WHAT IT READS IS OF BULK AT MOST 1048576: true; the input reads as it did. -/
def ballOwnUptoRow : OpenClaim := { program := "ytmfoihjkhoinaaa", sum := "8c0dcb56c5a6a54527a5b184f9e6edad4689e6d0224a36c513106272fb20df60", func := "vernier/vernierlaw4.BallOwn", spec := "ballOwn", named := ["math/bits.overflowError"], apart := false, narrowed := true }
def BallOwnUptoSaid : Prop := ballOwnUptoRow.holds Try.pinned (OpenSpec.upto ballOwnSpec)

/-- 'vernierlaw4.BallLeast', WHERE WHAT IT READS IS OF BULK AT MOST 1048576: true; the input reads as it did. -/
def ballLeastUptoRow : OpenClaim := { program := "ytmfoihjkhoinaaa", sum := "8c0dcb56c5a6a54527a5b184f9e6edad4689e6d0224a36c513106272fb20df60", func := "vernier/vernierlaw4.BallLeast", spec := "ballLeast", named := ["math/bits.overflowError"], apart := false, narrowed := true }
def BallLeastUptoSaid : Prop := ballLeastUptoRow.holds Try.pinned (OpenSpec.upto ballLeastSpec)

/-- 'vernierlaw2.RatReckons', WHERE WHAT IT READS IS OF BULK AT MOST 1048576: true; the input reads as it did. -/
def ratReckonsUptoRow : OpenClaim := { program := "ytmfoihjkhoinaaa", sum := "8c0dcb56c5a6a54527a5b184f9e6edad4689e6d0224a36c513106272fb20df60", func := "vernier/vernierlaw2.RatReckons", spec := "ratReckons", named := ["math/bits.overflowError"], apart := false, narrowed := true }
def RatReckonsUptoSaid : Prop := ratReckonsUptoRow.holds Try.pinned (OpenSpec.upto ratReckonsSpec)

/-- 'vernierlaw4.BallShorter', WHERE WHAT IT READS IS OF BULK AT MOST 1048576: true; the input reads as it did. -/
def ballShorterUptoRow : OpenClaim := { program := "ytmfoihjkhoinaaa", sum := "8c0dcb56c5a6a54527a5b184f9e6edad4689e6d0224a36c513106272fb20df60", func := "vernier/vernierlaw4.BallShorter", spec := "ballShorter", named := ["math/bits.overflowError"], apart := false, narrowed := true }
def BallShorterUptoSaid : Prop := ballShorterUptoRow.holds Try.pinned (OpenSpec.upto ballShorterSpec)

/-- 'vernierlaw4.BallTrims', WHERE WHAT IT READS IS OF BULK AT MOST 1048576: true; the input reads as it did. -/
def ballTrimsUptoRow : OpenClaim := { program := "ytmfoihjkhoinaaa", sum := "8c0dcb56c5a6a54527a5b184f9e6edad4689e6d0224a36c513106272fb20df60", func := "vernier/vernierlaw4.BallTrims", spec := "ballTrims", named := ["math/bits.overflowError"], apart := false, narrowed := true }
def BallTrimsUptoSaid : Prop := ballTrimsUptoRow.holds Try.pinned (OpenSpec.upto ballTrimsSpec)

/-- 'vernierlaw4.BallOut', WHERE WHAT IT READS IS OF BULK AT MOST 1048576: true; the input reads as it did. -/
def ballOutUptoRow : OpenClaim := { program := "ytmfoihjkhoinaaa", sum := "8c0dcb56c5a6a54527a5b184f9e6edad4689e6d0224a36c513106272fb20df60", func := "vernier/vernierlaw4.BallOut", spec := "ballOut", named := ["math/bits.overflowError"], apart := false, narrowed := true }
def BallOutUptoSaid : Prop := ballOutUptoRow.holds Try.pinned (OpenSpec.upto ballOutSpec)

/-- 'vernierlaw18.RankSums', WHERE WHAT IT READS IS OF BULK AT MOST 1048576: true; the input reads as it did. -/
def rankSumsUptoRow : OpenClaim := { program := "ytmfoihjkhoinaaa", sum := "8c0dcb56c5a6a54527a5b184f9e6edad4689e6d0224a36c513106272fb20df60", func := "vernier/vernierlaw18.RankSums", spec := "rankSums", named := ["math/bits.overflowError"], apart := false, narrowed := true }
def RankSumsUptoSaid : Prop := rankSumsUptoRow.holds Try.pinned (OpenSpec.upto rankSumsSpec)

/-- 'vernierlaw18.RankMoves', WHERE WHAT IT READS IS OF BULK AT MOST 1048576: true; the input reads as it did. -/
def rankMovesUptoRow : OpenClaim := { program := "ytmfoihjkhoinaaa", sum := "8c0dcb56c5a6a54527a5b184f9e6edad4689e6d0224a36c513106272fb20df60", func := "vernier/vernierlaw18.RankMoves", spec := "rankMoves", named := ["math/bits.overflowError"], apart := false, narrowed := true }
def RankMovesUptoSaid : Prop := rankMovesUptoRow.holds Try.pinned (OpenSpec.upto rankMovesSpec)

/-- 'vernierlaw17.StatJoins', WHERE WHAT IT READS IS OF BULK AT MOST 1048576: true; the input reads as it did. -/
def statJoinsUptoRow : OpenClaim := { program := "ytmfoihjkhoinaaa", sum := "8c0dcb56c5a6a54527a5b184f9e6edad4689e6d0224a36c513106272fb20df60", func := "vernier/vernierlaw17.StatJoins", spec := "statJoins", named := ["math/bits.overflowError"], apart := false, narrowed := true }
def StatJoinsUptoSaid : Prop := statJoinsUptoRow.holds Try.pinned (OpenSpec.upto statJoinsSpec)

/-- 'vernierlaw4.BallSides', WHERE WHAT IT READS IS OF BULK AT MOST 1048576: true; the input reads as it did. -/
def ballSidesUptoRow : OpenClaim := { program := "ytmfoihjkhoinaaa", sum := "8c0dcb56c5a6a54527a5b184f9e6edad4689e6d0224a36c513106272fb20df60", func := "vernier/vernierlaw4.BallSides", spec := "ballSides", named := ["math/bits.overflowError"], apart := false, narrowed := true }
def BallSidesUptoSaid : Prop := ballSidesUptoRow.holds Try.pinned (OpenSpec.upto ballSidesSpec)

/-- 'vernierlaw18.RankTurns', WHERE WHAT IT READS IS OF BULK AT MOST 1048576: true; the input reads as it did. -/
def rankTurnsUptoRow : OpenClaim := { program := "ytmfoihjkhoinaaa", sum := "8c0dcb56c5a6a54527a5b184f9e6edad4689e6d0224a36c513106272fb20df60", func := "vernier/vernierlaw18.RankTurns", spec := "rankTurns", named := ["math/bits.overflowError"], apart := false, narrowed := true }
def RankTurnsUptoSaid : Prop := rankTurnsUptoRow.holds Try.pinned (OpenSpec.upto rankTurnsSpec)

/-- 'vernierlaw13.DiscAll', WHERE WHAT IT READS IS OF BULK AT MOST 1048576: true; the input reads as it did. -/
def discAllUptoRow : OpenClaim := { program := "ytmfoihjkhoinaaa", sum := "8c0dcb56c5a6a54527a5b184f9e6edad4689e6d0224a36c513106272fb20df60", func := "vernier/vernierlaw13.DiscAll", spec := "discAll", named := ["math/bits.overflowError"], apart := false, narrowed := true }
def DiscAllUptoSaid : Prop := discAllUptoRow.holds Try.pinned (OpenSpec.upto discAllSpec)

/-- 'vernierlaw13.DiscMean', WHERE WHAT IT READS IS OF BULK AT MOST 1048576: true; the input reads as it did. -/
def discMeanUptoRow : OpenClaim := { program := "ytmfoihjkhoinaaa", sum := "8c0dcb56c5a6a54527a5b184f9e6edad4689e6d0224a36c513106272fb20df60", func := "vernier/vernierlaw13.DiscMean", spec := "discMean", named := ["math/bits.overflowError"], apart := false, narrowed := true }
def DiscMeanUptoSaid : Prop := discMeanUptoRow.holds Try.pinned (OpenSpec.upto discMeanSpec)

/-- 'vernierlaw4.BallLooks', WHERE WHAT IT READS IS OF BULK AT MOST 1048576: true; the input reads as it did. -/
def ballLooksUptoRow : OpenClaim := { program := "ytmfoihjkhoinaaa", sum := "8c0dcb56c5a6a54527a5b184f9e6edad4689e6d0224a36c513106272fb20df60", func := "vernier/vernierlaw4.BallLooks", spec := "ballLooks", named := ["math/bits.overflowError"], apart := false, narrowed := true }
def BallLooksUptoSaid : Prop := ballLooksUptoRow.holds Try.pinned (OpenSpec.upto ballLooksSpec)

/-- 'vernierlaw17.StatTells', WHERE WHAT IT READS IS OF BULK AT MOST 1048576: true; the input reads as it did. -/
def statTellsUptoRow : OpenClaim := { program := "ytmfoihjkhoinaaa", sum := "8c0dcb56c5a6a54527a5b184f9e6edad4689e6d0224a36c513106272fb20df60", func := "vernier/vernierlaw17.StatTells", spec := "statTells", named := ["math/bits.overflowError"], apart := false, narrowed := true }
def StatTellsUptoSaid : Prop := statTellsUptoRow.holds Try.pinned (OpenSpec.upto statTellsSpec)

/-- 'vernierlaw17.StatPowers', WHERE WHAT IT READS IS OF BULK AT MOST 1048576: true; the input reads as it did. -/
def statPowersUptoRow : OpenClaim := { program := "ytmfoihjkhoinaaa", sum := "8c0dcb56c5a6a54527a5b184f9e6edad4689e6d0224a36c513106272fb20df60", func := "vernier/vernierlaw17.StatPowers", spec := "statPowers", named := ["math/bits.overflowError"], apart := false, narrowed := true }
def StatPowersUptoSaid : Prop := statPowersUptoRow.holds Try.pinned (OpenSpec.upto statPowersSpec)

/-- 'vernierlaw13.DiscTwo', WHERE WHAT IT READS IS OF BULK AT MOST 1048576: true; the input reads as it did. -/
def discTwoUptoRow : OpenClaim := { program := "ytmfoihjkhoinaaa", sum := "8c0dcb56c5a6a54527a5b184f9e6edad4689e6d0224a36c513106272fb20df60", func := "vernier/vernierlaw13.DiscTwo", spec := "discTwo", named := ["math/bits.overflowError"], apart := false, narrowed := true }
def DiscTwoUptoSaid : Prop := discTwoUptoRow.holds Try.pinned (OpenSpec.upto discTwoSpec)

/-- 'vernierlaw4.BallReckons', WHERE WHAT IT READS IS OF BULK AT MOST 1048576: true; the input reads as it did. -/
def ballReckonsUptoRow : OpenClaim := { program := "ytmfoihjkhoinaaa", sum := "8c0dcb56c5a6a54527a5b184f9e6edad4689e6d0224a36c513106272fb20df60", func := "vernier/vernierlaw4.BallReckons", spec := "ballReckons", named := ["math/bits.overflowError"], apart := false, narrowed := true }
def BallReckonsUptoSaid : Prop := ballReckonsUptoRow.holds Try.pinned (OpenSpec.upto ballReckonsSpec)

/-- 'vernierlaw4.BallHolds', WHERE WHAT IT READS IS OF BULK AT MOST 1048576: true; the input reads as it did. -/
def ballHoldsUptoRow : OpenClaim := { program := "ytmfoihjkhoinaaa", sum := "8c0dcb56c5a6a54527a5b184f9e6edad4689e6d0224a36c513106272fb20df60", func := "vernier/vernierlaw4.BallHolds", spec := "ballHolds", named := ["math/bits.overflowError"], apart := false, narrowed := true }
def BallHoldsUptoSaid : Prop := ballHoldsUptoRow.holds Try.pinned (OpenSpec.upto ballHoldsSpec)

/-- 'vernierlaw13.DiscBinom', WHERE WHAT IT READS IS OF BULK AT MOST 1048576: true; the input reads as it did. -/
def discBinomUptoRow : OpenClaim := { program := "ytmfoihjkhoinaaa", sum := "8c0dcb56c5a6a54527a5b184f9e6edad4689e6d0224a36c513106272fb20df60", func := "vernier/vernierlaw13.DiscBinom", spec := "discBinom", named := ["math/bits.overflowError"], apart := false, narrowed := true }
def DiscBinomUptoSaid : Prop := discBinomUptoRow.holds Try.pinned (OpenSpec.upto discBinomSpec)

/-- 'vernierlaw18.RankTells', WHERE WHAT IT READS IS OF BULK AT MOST 1048576: true; the input reads as it did. -/
def rankTellsUptoRow : OpenClaim := { program := "ytmfoihjkhoinaaa", sum := "8c0dcb56c5a6a54527a5b184f9e6edad4689e6d0224a36c513106272fb20df60", func := "vernier/vernierlaw18.RankTells", spec := "rankTells", named := ["math/bits.overflowError"], apart := false, narrowed := true }
def RankTellsUptoSaid : Prop := rankTellsUptoRow.holds Try.pinned (OpenSpec.upto rankTellsSpec)

/-- 'vernierlaw18.RankBounds', WHERE WHAT IT READS IS OF BULK AT MOST 1048576: true; the input reads as it did. -/
def rankBoundsUptoRow : OpenClaim := { program := "ytmfoihjkhoinaaa", sum := "8c0dcb56c5a6a54527a5b184f9e6edad4689e6d0224a36c513106272fb20df60", func := "vernier/vernierlaw18.RankBounds", spec := "rankBounds", named := ["math/bits.overflowError"], apart := false, narrowed := true }
def RankBoundsUptoSaid : Prop := rankBoundsUptoRow.holds Try.pinned (OpenSpec.upto rankBoundsSpec)

/-- 'vernierlaw17.StatTwice', WHERE WHAT IT READS IS OF BULK AT MOST 1048576: true; the input reads as it did. -/
def statTwiceUptoRow : OpenClaim := { program := "ytmfoihjkhoinaaa", sum := "8c0dcb56c5a6a54527a5b184f9e6edad4689e6d0224a36c513106272fb20df60", func := "vernier/vernierlaw17.StatTwice", spec := "statTwice", unfollowed := true, recurses := true, named := ["math/bits.overflowError"], apart := false, narrowed := true }
def StatTwiceUptoSaid : Prop := statTwiceUptoRow.holds Try.pinned (OpenSpec.upto statTwiceSpec)

/-- 'vernierlaw17.StatBetween', WHERE WHAT IT READS IS OF BULK AT MOST 1048576: true; the input reads as it did. -/
def statBetweenUptoRow : OpenClaim := { program := "ytmfoihjkhoinaaa", sum := "8c0dcb56c5a6a54527a5b184f9e6edad4689e6d0224a36c513106272fb20df60", func := "vernier/vernierlaw17.StatBetween", spec := "statBetween", unfollowed := true, recurses := true, named := ["math/bits.overflowError"], apart := false, narrowed := true }
def StatBetweenUptoSaid : Prop := statBetweenUptoRow.holds Try.pinned (OpenSpec.upto statBetweenSpec)

/-- 'vernierlaw17.StatOrders', WHERE WHAT IT READS IS OF BULK AT MOST 1048576: true; the input reads as it did. -/
def statOrdersUptoRow : OpenClaim := { program := "ytmfoihjkhoinaaa", sum := "8c0dcb56c5a6a54527a5b184f9e6edad4689e6d0224a36c513106272fb20df60", func := "vernier/vernierlaw17.StatOrders", spec := "statOrders", unfollowed := true, recurses := true, named := ["math/bits.overflowError"], apart := false, narrowed := true }
def StatOrdersUptoSaid : Prop := statOrdersUptoRow.holds Try.pinned (OpenSpec.upto statOrdersSpec)

/-- 'vernierlaw17.StatMoves', WHERE WHAT IT READS IS OF BULK AT MOST 1048576: true; the input reads as it did. -/
def statMovesUptoRow : OpenClaim := { program := "ytmfoihjkhoinaaa", sum := "8c0dcb56c5a6a54527a5b184f9e6edad4689e6d0224a36c513106272fb20df60", func := "vernier/vernierlaw17.StatMoves", spec := "statMoves", unfollowed := true, recurses := true, named := ["math/bits.overflowError"], apart := false, narrowed := true }
def StatMovesUptoSaid : Prop := statMovesUptoRow.holds Try.pinned (OpenSpec.upto statMovesSpec)

/-- 'vernierlaw17.StatOwn', WHERE WHAT IT READS IS OF BULK AT MOST 1048576: true; the input reads as it did. -/
def statOwnUptoRow : OpenClaim := { program := "ytmfoihjkhoinaaa", sum := "8c0dcb56c5a6a54527a5b184f9e6edad4689e6d0224a36c513106272fb20df60", func := "vernier/vernierlaw17.StatOwn", spec := "statOwn", unfollowed := true, recurses := true, named := ["math/bits.overflowError"], apart := false, narrowed := true }
def StatOwnUptoSaid : Prop := statOwnUptoRow.holds Try.pinned (OpenSpec.upto statOwnSpec)

end Rows
end Go.Proofs.Ytmfoihjkhoinaaa
