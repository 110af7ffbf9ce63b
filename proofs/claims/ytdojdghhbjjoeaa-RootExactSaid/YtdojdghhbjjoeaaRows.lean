/-
  No cell of these rows narrows 'for every input' (looked for: loops, veiled, ifaces, maps, wideKeys, modest, calm, conditions, laid).
  DERIVED. THE GIVEN ROWS OF THIS SEAT. 14 by the template 'for every input the law returns true; each argument reads behind the call as it read before'; 0 by the template 'total and deterministic' (their statements: YtdojdghhbjjoeaaTotals.lean).
  GIVEN WITH THE SEED: the statements are not yours to turn. If you find one false, say at which input.
  Laid BY PROGRAM, IN A SANDBOX (cutbox-rows.mjs): the forced cells as the released guide's own fill.sh prints them over the translation 16fa469bed736583… (all of the seat's roots in one cut). By AI agents, Wed Nov 11 2026. No macro, syntax, notation, axiom, sorry.
-/
import Derived.Test.YtdojdghhbjjoeaaChecked
import GoSem.Claim
import GoSem.ClaimJoined
import GoSem.ClaimMapViews
import Derived.JoinedTies
import Derived.KernelRfl
namespace Go.Proofs.Ytdojdghhbjjoeaa
/- THE CELL 'sum', in the pinned program and in every row, IS THE sha256 OF THE DUMP (.gsa) THAT YtdojdghhbjjoeaaProg.lean LOADS. Nothing in Lean hashes anything: it is a label: what it is worth is what the hold of that sum in a sandbox is worth. -/
noncomputable def Try.pinned : Pinned := { name := "ytdojdghhbjjoeaa", sum := "16fa469bed7365833e6074fa529a610165b12a47ff22f15838b69ae737967f39", checked := Try.checked }
namespace Rows
def none {H : Type} : Left H := { results := [], args := [] }

/-- 'vernierlaw2.RatLaws': WHATEVER THE INPUT: true; the input reads as it did. -/
def ratLawsSpec : ChangeSpec := { name := "ratLaws", fn := fun _ => fun
  | [d1, d2, d3] => { results := [.lit (.bool true)], args := [d1, d2, d3] }
  | _ => none }
def ratLawsRow : OpenClaim := { program := "ytdojdghhbjjoeaa", sum := "16fa469bed7365833e6074fa529a610165b12a47ff22f15838b69ae737967f39", func := "vernier/vernierlaw2.RatLaws", spec := "ratLaws", named := ["math/bits.overflowError"], apart := false }
def RatLawsSaid : Prop := ratLawsRow.holds Try.pinned (OpenSpec.ofChange ratLawsSpec)

/-- ITS FALSE NEIGHBOUR: 'it returns false'. Refute it at one input. -/
def ratLawsWrong : ChangeSpec := { name := "ratLaws", fn := fun _ => fun
  | [d1, d2, d3] => { results := [.lit (.bool false)], args := [d1, d2, d3] }
  | _ => none }
def RatLawsWrongFalsely : Prop := ratLawsRow.holds Try.pinned (OpenSpec.ofChange ratLawsWrong)

/-- 'vernierlaw2.RatBack': WHATEVER THE INPUT: true; the input reads as it did. -/
def ratBackSpec : ChangeSpec := { name := "ratBack", fn := fun _ => fun
  | [d1, d2] => { results := [.lit (.bool true)], args := [d1, d2] }
  | _ => none }
def ratBackRow : OpenClaim := { program := "ytdojdghhbjjoeaa", sum := "16fa469bed7365833e6074fa529a610165b12a47ff22f15838b69ae737967f39", func := "vernier/vernierlaw2.RatBack", spec := "ratBack", named := ["math/bits.overflowError"], apart := false }
def RatBackSaid : Prop := ratBackRow.holds Try.pinned (OpenSpec.ofChange ratBackSpec)

/-- ITS FALSE NEIGHBOUR: 'it returns false'. Refute it at one input. -/
def ratBackWrong : ChangeSpec := { name := "ratBack", fn := fun _ => fun
  | [d1, d2] => { results := [.lit (.bool false)], args := [d1, d2] }
  | _ => none }
def RatBackWrongFalsely : Prop := ratBackRow.holds Try.pinned (OpenSpec.ofChange ratBackWrong)

/-- 'vernierlaw2.RatInts': WHATEVER THE INPUT: true; the input reads as it did. -/
def ratIntsSpec : ChangeSpec := { name := "ratInts", fn := fun _ => fun
  | [d1, d2] => { results := [.lit (.bool true)], args := [d1, d2] }
  | _ => none }
def ratIntsRow : OpenClaim := { program := "ytdojdghhbjjoeaa", sum := "16fa469bed7365833e6074fa529a610165b12a47ff22f15838b69ae737967f39", func := "vernier/vernierlaw2.RatInts", spec := "ratInts", named := ["math/bits.overflowError"], apart := false }
def RatIntsSaid : Prop := ratIntsRow.holds Try.pinned (OpenSpec.ofChange ratIntsSpec)

/-- ITS FALSE NEIGHBOUR: 'it returns false'. Refute it at one input. -/
def ratIntsWrong : ChangeSpec := { name := "ratInts", fn := fun _ => fun
  | [d1, d2] => { results := [.lit (.bool false)], args := [d1, d2] }
  | _ => none }
def RatIntsWrongFalsely : Prop := ratIntsRow.holds Try.pinned (OpenSpec.ofChange ratIntsWrong)

/-- 'vernierlaw5.RootSquares': WHATEVER THE INPUT: true; the input reads as it did. -/
def rootSquaresSpec : ChangeSpec := { name := "rootSquares", fn := fun _ => fun
  | [d1, d2, d3] => { results := [.lit (.bool true)], args := [d1, d2, d3] }
  | _ => none }
def rootSquaresRow : OpenClaim := { program := "ytdojdghhbjjoeaa", sum := "16fa469bed7365833e6074fa529a610165b12a47ff22f15838b69ae737967f39", func := "vernier/vernierlaw5.RootSquares", spec := "rootSquares", named := ["math/bits.overflowError"], apart := false }
def RootSquaresSaid : Prop := rootSquaresRow.holds Try.pinned (OpenSpec.ofChange rootSquaresSpec)

/-- ITS FALSE NEIGHBOUR: 'it returns false'. Refute it at one input. -/
def rootSquaresWrong : ChangeSpec := { name := "rootSquares", fn := fun _ => fun
  | [d1, d2, d3] => { results := [.lit (.bool false)], args := [d1, d2, d3] }
  | _ => none }
def RootSquaresWrongFalsely : Prop := rootSquaresRow.holds Try.pinned (OpenSpec.ofChange rootSquaresWrong)

/-- 'vernierlaw5.RootExact': WHATEVER THE INPUT: true; the input reads as it did. -/
def rootExactSpec : ChangeSpec := { name := "rootExact", fn := fun _ => fun
  | [d1, d2] => { results := [.lit (.bool true)], args := [d1, d2] }
  | _ => none }
def rootExactRow : OpenClaim := { program := "ytdojdghhbjjoeaa", sum := "16fa469bed7365833e6074fa529a610165b12a47ff22f15838b69ae737967f39", func := "vernier/vernierlaw5.RootExact", spec := "rootExact", named := ["math/bits.overflowError"], apart := false }
def RootExactSaid : Prop := rootExactRow.holds Try.pinned (OpenSpec.ofChange rootExactSpec)

/-- ITS FALSE NEIGHBOUR: 'it returns false'. Refute it at one input. -/
def rootExactWrong : ChangeSpec := { name := "rootExact", fn := fun _ => fun
  | [d1, d2] => { results := [.lit (.bool false)], args := [d1, d2] }
  | _ => none }
def RootExactWrongFalsely : Prop := rootExactRow.holds Try.pinned (OpenSpec.ofChange rootExactWrong)

/-- 'vernierlaw5.RootMuls': WHATEVER THE INPUT: true; the input reads as it did. -/
def rootMulsSpec : ChangeSpec := { name := "rootMuls", fn := fun _ => fun
  | [d1, d2, d3] => { results := [.lit (.bool true)], args := [d1, d2, d3] }
  | _ => none }
def rootMulsRow : OpenClaim := { program := "ytdojdghhbjjoeaa", sum := "16fa469bed7365833e6074fa529a610165b12a47ff22f15838b69ae737967f39", func := "vernier/vernierlaw5.RootMuls", spec := "rootMuls", named := ["math/bits.overflowError"], apart := false }
def RootMulsSaid : Prop := rootMulsRow.holds Try.pinned (OpenSpec.ofChange rootMulsSpec)

/-- ITS FALSE NEIGHBOUR: 'it returns false'. Refute it at one input. -/
def rootMulsWrong : ChangeSpec := { name := "rootMuls", fn := fun _ => fun
  | [d1, d2, d3] => { results := [.lit (.bool false)], args := [d1, d2, d3] }
  | _ => none }
def RootMulsWrongFalsely : Prop := rootMulsRow.holds Try.pinned (OpenSpec.ofChange rootMulsWrong)

/-- 'vernierlaw5.RootRises': WHATEVER THE INPUT: true; the input reads as it did. -/
def rootRisesSpec : ChangeSpec := { name := "rootRises", fn := fun _ => fun
  | [d1, d2, d3, d4] => { results := [.lit (.bool true)], args := [d1, d2, d3, d4] }
  | _ => none }
def rootRisesRow : OpenClaim := { program := "ytdojdghhbjjoeaa", sum := "16fa469bed7365833e6074fa529a610165b12a47ff22f15838b69ae737967f39", func := "vernier/vernierlaw5.RootRises", spec := "rootRises", named := ["math/bits.overflowError"], apart := false }
def RootRisesSaid : Prop := rootRisesRow.holds Try.pinned (OpenSpec.ofChange rootRisesSpec)

/-- ITS FALSE NEIGHBOUR: 'it returns false'. Refute it at one input. -/
def rootRisesWrong : ChangeSpec := { name := "rootRises", fn := fun _ => fun
  | [d1, d2, d3, d4] => { results := [.lit (.bool false)], args := [d1, d2, d3, d4] }
  | _ => none }
def RootRisesWrongFalsely : Prop := rootRisesRow.holds Try.pinned (OpenSpec.ofChange rootRisesWrong)

/-- 'vernierlaw2.RatOwn': WHATEVER THE INPUT: true; the input reads as it did. -/
def ratOwnSpec : ChangeSpec := { name := "ratOwn", fn := fun _ => fun
  | [d1, d2] => { results := [.lit (.bool true)], args := [d1, d2] }
  | _ => none }
def ratOwnRow : OpenClaim := { program := "ytdojdghhbjjoeaa", sum := "16fa469bed7365833e6074fa529a610165b12a47ff22f15838b69ae737967f39", func := "vernier/vernierlaw2.RatOwn", spec := "ratOwn", named := ["math/bits.overflowError"], apart := false }
def RatOwnSaid : Prop := ratOwnRow.holds Try.pinned (OpenSpec.ofChange ratOwnSpec)

/-- ITS FALSE NEIGHBOUR: 'it returns false'. Refute it at one input. -/
def ratOwnWrong : ChangeSpec := { name := "ratOwn", fn := fun _ => fun
  | [d1, d2] => { results := [.lit (.bool false)], args := [d1, d2] }
  | _ => none }
def RatOwnWrongFalsely : Prop := ratOwnRow.holds Try.pinned (OpenSpec.ofChange ratOwnWrong)

/-- 'vernierlaw2.RatOrder': WHATEVER THE INPUT: true; the input reads as it did. -/
def ratOrderSpec : ChangeSpec := { name := "ratOrder", fn := fun _ => fun
  | [d1, d2, d3] => { results := [.lit (.bool true)], args := [d1, d2, d3] }
  | _ => none }
def ratOrderRow : OpenClaim := { program := "ytdojdghhbjjoeaa", sum := "16fa469bed7365833e6074fa529a610165b12a47ff22f15838b69ae737967f39", func := "vernier/vernierlaw2.RatOrder", spec := "ratOrder", named := ["math/bits.overflowError"], apart := false }
def RatOrderSaid : Prop := ratOrderRow.holds Try.pinned (OpenSpec.ofChange ratOrderSpec)

/-- ITS FALSE NEIGHBOUR: 'it returns false'. Refute it at one input. -/
def ratOrderWrong : ChangeSpec := { name := "ratOrder", fn := fun _ => fun
  | [d1, d2, d3] => { results := [.lit (.bool false)], args := [d1, d2, d3] }
  | _ => none }
def RatOrderWrongFalsely : Prop := ratOrderRow.holds Try.pinned (OpenSpec.ofChange ratOrderWrong)

/-- 'vernierlaw2.RatFloors': WHATEVER THE INPUT: true; the input reads as it did. -/
def ratFloorsSpec : ChangeSpec := { name := "ratFloors", fn := fun _ => fun
  | [d] => { results := [.lit (.bool true)], args := [d] }
  | _ => none }
def ratFloorsRow : OpenClaim := { program := "ytdojdghhbjjoeaa", sum := "16fa469bed7365833e6074fa529a610165b12a47ff22f15838b69ae737967f39", func := "vernier/vernierlaw2.RatFloors", spec := "ratFloors", named := ["math/bits.overflowError"], apart := false }
def RatFloorsSaid : Prop := ratFloorsRow.holds Try.pinned (OpenSpec.ofChange ratFloorsSpec)

/-- ITS FALSE NEIGHBOUR: 'it returns false'. Refute it at one input. -/
def ratFloorsWrong : ChangeSpec := { name := "ratFloors", fn := fun _ => fun
  | [d] => { results := [.lit (.bool false)], args := [d] }
  | _ => none }
def RatFloorsWrongFalsely : Prop := ratFloorsRow.holds Try.pinned (OpenSpec.ofChange ratFloorsWrong)

/-- 'vernierlaw2.RatWider': WHATEVER THE INPUT: true; the input reads as it did. -/
def ratWiderSpec : ChangeSpec := { name := "ratWider", fn := fun _ => fun
  | [d1, d2] => { results := [.lit (.bool true)], args := [d1, d2] }
  | _ => none }
def ratWiderRow : OpenClaim := { program := "ytdojdghhbjjoeaa", sum := "16fa469bed7365833e6074fa529a610165b12a47ff22f15838b69ae737967f39", func := "vernier/vernierlaw2.RatWider", spec := "ratWider", named := ["math/bits.overflowError"], apart := false }
def RatWiderSaid : Prop := ratWiderRow.holds Try.pinned (OpenSpec.ofChange ratWiderSpec)

/-- ITS FALSE NEIGHBOUR: 'it returns false'. Refute it at one input. -/
def ratWiderWrong : ChangeSpec := { name := "ratWider", fn := fun _ => fun
  | [d1, d2] => { results := [.lit (.bool false)], args := [d1, d2] }
  | _ => none }
def RatWiderWrongFalsely : Prop := ratWiderRow.holds Try.pinned (OpenSpec.ofChange ratWiderWrong)

/-- 'vernierlaw2.RatLooks': WHATEVER THE INPUT: true; the input reads as it did. -/
def ratLooksSpec : ChangeSpec := { name := "ratLooks", fn := fun _ => fun
  | [d1, d2] => { results := [.lit (.bool true)], args := [d1, d2] }
  | _ => none }
def ratLooksRow : OpenClaim := { program := "ytdojdghhbjjoeaa", sum := "16fa469bed7365833e6074fa529a610165b12a47ff22f15838b69ae737967f39", func := "vernier/vernierlaw2.RatLooks", spec := "ratLooks", named := ["math/bits.overflowError"], apart := false }
def RatLooksSaid : Prop := ratLooksRow.holds Try.pinned (OpenSpec.ofChange ratLooksSpec)

/-- ITS FALSE NEIGHBOUR: 'it returns false'. Refute it at one input. -/
def ratLooksWrong : ChangeSpec := { name := "ratLooks", fn := fun _ => fun
  | [d1, d2] => { results := [.lit (.bool false)], args := [d1, d2] }
  | _ => none }
def RatLooksWrongFalsely : Prop := ratLooksRow.holds Try.pinned (OpenSpec.ofChange ratLooksWrong)

/-- 'vernierlaw5.RootTells': WHATEVER THE INPUT: true; the input reads as it did. -/
def rootTellsSpec : ChangeSpec := { name := "rootTells", fn := fun _ => fun
  | [d1, d2, d3, d4] => { results := [.lit (.bool true)], args := [d1, d2, d3, d4] }
  | _ => none }
def rootTellsRow : OpenClaim := { program := "ytdojdghhbjjoeaa", sum := "16fa469bed7365833e6074fa529a610165b12a47ff22f15838b69ae737967f39", func := "vernier/vernierlaw5.RootTells", spec := "rootTells", named := ["math/bits.overflowError"], apart := false }
def RootTellsSaid : Prop := rootTellsRow.holds Try.pinned (OpenSpec.ofChange rootTellsSpec)

/-- ITS FALSE NEIGHBOUR: 'it returns false'. Refute it at one input. -/
def rootTellsWrong : ChangeSpec := { name := "rootTells", fn := fun _ => fun
  | [d1, d2, d3, d4] => { results := [.lit (.bool false)], args := [d1, d2, d3, d4] }
  | _ => none }
def RootTellsWrongFalsely : Prop := rootTellsRow.holds Try.pinned (OpenSpec.ofChange rootTellsWrong)

/-- 'vernierlaw2.RatReckons': WHATEVER THE INPUT: true; the input reads as it did. -/
def ratReckonsSpec : ChangeSpec := { name := "ratReckons", fn := fun _ => fun
  | [d1, d2] => { results := [.lit (.bool true)], args := [d1, d2] }
  | _ => none }
def ratReckonsRow : OpenClaim := { program := "ytdojdghhbjjoeaa", sum := "16fa469bed7365833e6074fa529a610165b12a47ff22f15838b69ae737967f39", func := "vernier/vernierlaw2.RatReckons", spec := "ratReckons", named := ["math/bits.overflowError"], apart := false }
def RatReckonsSaid : Prop := ratReckonsRow.holds Try.pinned (OpenSpec.ofChange ratReckonsSpec)

/-- ITS FALSE NEIGHBOUR: 'it returns false'. Refute it at one input. -/
def ratReckonsWrong : ChangeSpec := { name := "ratReckons", fn := fun _ => fun
  | [d1, d2] => { results := [.lit (.bool false)], args := [d1, d2] }
  | _ => none }
def RatReckonsWrongFalsely : Prop := ratReckonsRow.holds Try.pinned (OpenSpec.ofChange ratReckonsWrong)

/- THE SECOND FORM. 'bulk': how many values and letters a reading holds, each counted each time it is reached (what is shared counts as often as it is met; a slice's spare places count too). A statement '..UptoSaid' is the law's where the arguments, and the package variables that the reading takes, are together of bulk at most 1048576: NARROWER than '..Said'. Prove '..Said' where nothing that the law and all that it calls make is longer than what came in: it says more and counts as full. Else prove '..UptoSaid'. A law counts once. -/
mutual
def uptoBulk {H : Type} : DataW H → Nat
  | .lit (.string bytes) => bytes.length + 1
  | .lit _ => 1
  | .nil => 1
  | .ptr d => uptoBulk d + 1
  | .slice elems spare => uptoBulkAll elems + uptoBulkAll spare + 1
  | .agg parts => uptoBulkAll parts + 1
  | .iface _ d => uptoBulk d + 1
  | .map entries => uptoBulkEntries entries + 1
  | .held _ => 1
def uptoBulkAll {H : Type} : List (DataW H) → Nat
  | [] => 0
  | d :: r => uptoBulk d + uptoBulkAll r
def uptoBulkEntries {H : Type} : List (Lit × DataW H) → Nat
  | [] => 0
  | x :: r => uptoBulkEntry x + uptoBulkEntries r
def uptoBulkEntry {H : Type} : Lit × DataW H → Nat
  | (.string bytes, d) => bytes.length + uptoBulk d + 1
  | (_, d) => uptoBulk d + 1
 end
def uptoSmall : (H : Type) → List (DataW H) → Bool := fun _ ds => decide (uptoBulkAll ds ≤ 1048576)
def OpenSpec.upto (s : _root_.Go.ChangeSpec) : _root_.Go.OpenSpec := { _root_.Go.OpenSpec.ofChange s with cond := some uptoSmall }

/-- 'vernierlaw2.RatLaws', WHERE WHAT IT READS IS OF BULK AT MOST 1048576: true; the input reads as it did. -/
def ratLawsUptoRow : OpenClaim := { program := "ytdojdghhbjjoeaa", sum := "16fa469bed7365833e6074fa529a610165b12a47ff22f15838b69ae737967f39", func := "vernier/vernierlaw2.RatLaws", spec := "ratLaws", named := ["math/bits.overflowError"], apart := false, narrowed := true }
def RatLawsUptoSaid : Prop := ratLawsUptoRow.holds Try.pinned (OpenSpec.upto ratLawsSpec)

/-- 'vernierlaw2.RatBack', WHERE WHAT IT READS IS OF BULK AT MOST 1048576: true; the input reads as it did. -/
def ratBackUptoRow : OpenClaim := { program := "ytdojdghhbjjoeaa", sum := "16fa469bed7365833e6074fa529a610165b12a47ff22f15838b69ae737967f39", func := "vernier/vernierlaw2.RatBack", spec := "ratBack", named := ["math/bits.overflowError"], apart := false, narrowed := true }
def RatBackUptoSaid : Prop := ratBackUptoRow.holds Try.pinned (OpenSpec.upto ratBackSpec)

/-- 'vernierlaw2.RatInts', WHERE WHAT IT READS IS OF BULK AT MOST 1048576: true; the input reads as it did. -/
def ratIntsUptoRow : OpenClaim := { program := "ytdojdghhbjjoeaa", sum := "16fa469bed7365833e6074fa529a610165b12a47ff22f15838b69ae737967f39", func := "vernier/vernierlaw2.RatInts", spec := "ratInts", named := ["math/bits.overflowError"], apart := false, narrowed := true }
def RatIntsUptoSaid : Prop := ratIntsUptoRow.holds Try.pinned (OpenSpec.upto ratIntsSpec)

/-- 'vernierlaw5.RootSquares', WHERE WHAT IT READS IS OF BULK AT MOST 1048576: true; the input reads as it did. -/
def rootSquaresUptoRow : OpenClaim := { program := "ytdojdghhbjjoeaa", sum := "16fa469bed7365833e6074fa529a610165b12a47ff22f15838b69ae737967f39", func := "vernier/vernierlaw5.RootSquares", spec := "rootSquares", named := ["math/bits.overflowError"], apart := false, narrowed := true }
def RootSquaresUptoSaid : Prop := rootSquaresUptoRow.holds Try.pinned (OpenSpec.upto rootSquaresSpec)

/-- 'vernierlaw5.RootExact', WHERE WHAT IT READS IS OF BULK AT MOST 1048576: true; the input reads as it did. -/
def rootExactUptoRow : OpenClaim := { program := "ytdojdghhbjjoeaa", sum := "16fa469bed7365833e6074fa529a610165b12a47ff22f15838b69ae737967f39", func := "vernier/vernierlaw5.RootExact", spec := "rootExact", named := ["math/bits.overflowError"], apart := false, narrowed := true }
def RootExactUptoSaid : Prop := rootExactUptoRow.holds Try.pinned (OpenSpec.upto rootExactSpec)

/-- 'vernierlaw5.RootMuls', WHERE WHAT IT READS IS OF BULK AT MOST 1048576: true; the input reads as it did. -/
def rootMulsUptoRow : OpenClaim := { program := "ytdojdghhbjjoeaa", sum := "16fa469bed7365833e6074fa529a610165b12a47ff22f15838b69ae737967f39", func := "vernier/vernierlaw5.RootMuls", spec := "rootMuls", named := ["math/bits.overflowError"], apart := false, narrowed := true }
def RootMulsUptoSaid : Prop := rootMulsUptoRow.holds Try.pinned (OpenSpec.upto rootMulsSpec)

/-- 'vernierlaw5.RootRises', WHERE WHAT IT READS IS OF BULK AT MOST 1048576: true; the input reads as it did. -/
def rootRisesUptoRow : OpenClaim := { program := "ytdojdghhbjjoeaa", sum := "16fa469bed7365833e6074fa529a610165b12a47ff22f15838b69ae737967f39", func := "vernier/vernierlaw5.RootRises", spec := "rootRises", named := ["math/bits.overflowError"], apart := false, narrowed := true }
def RootRisesUptoSaid : Prop := rootRisesUptoRow.holds Try.pinned (OpenSpec.upto rootRisesSpec)

/-- 'vernierlaw2.RatOwn', WHERE WHAT IT READS IS OF BULK AT MOST 1048576: true; the input reads as it did. -/
def ratOwnUptoRow : OpenClaim := { program := "ytdojdghhbjjoeaa", sum := "16fa469bed7365833e6074fa529a610165b12a47ff22f15838b69ae737967f39", func := "vernier/vernierlaw2.RatOwn", spec := "ratOwn", named := ["math/bits.overflowError"], apart := false, narrowed := true }
def RatOwnUptoSaid : Prop := ratOwnUptoRow.holds Try.pinned (OpenSpec.upto ratOwnSpec)

/-- 'vernierlaw2.RatOrder', WHERE WHAT IT READS IS OF BULK AT MOST 1048576: true; the input reads as it did. -/
def ratOrderUptoRow : OpenClaim := { program := "ytdojdghhbjjoeaa", sum := "16fa469bed7365833e6074fa529a610165b12a47ff22f15838b69ae737967f39", func := "vernier/vernierlaw2.RatOrder", spec := "ratOrder", named := ["math/bits.overflowError"], apart := false, narrowed := true }
def RatOrderUptoSaid : Prop := ratOrderUptoRow.holds Try.pinned (OpenSpec.upto ratOrderSpec)

/-- 'vernierlaw2.RatFloors', WHERE WHAT IT READS IS OF BULK AT MOST 1048576: true; the input reads as it did. -/
def ratFloorsUptoRow : OpenClaim := { program := "ytdojdghhbjjoeaa", sum := "16fa469bed7365833e6074fa529a610165b12a47ff22f15838b69ae737967f39", func := "vernier/vernierlaw2.RatFloors", spec := "ratFloors", named := ["math/bits.overflowError"], apart := false, narrowed := true }
def RatFloorsUptoSaid : Prop := ratFloorsUptoRow.holds Try.pinned (OpenSpec.upto ratFloorsSpec)

/-- 'vernierlaw2.RatWider', WHERE WHAT IT READS IS OF BULK AT MOST 1048576: true; the input reads as it did. -/
def ratWiderUptoRow : OpenClaim := { program := "ytdojdghhbjjoeaa", sum := "16fa469bed7365833e6074fa529a610165b12a47ff22f15838b69ae737967f39", func := "vernier/vernierlaw2.RatWider", spec := "ratWider", named := ["math/bits.overflowError"], apart := false, narrowed := true }
def RatWiderUptoSaid : Prop := ratWiderUptoRow.holds Try.pinned (OpenSpec.upto ratWiderSpec)

/-- 'vernierlaw2.RatLooks', WHERE WHAT IT READS IS OF BULK AT MOST 1048576: true; the input reads as it did. -/
def ratLooksUptoRow : OpenClaim := { program := "ytdojdghhbjjoeaa", sum := "16fa469bed7365833e6074fa529a610165b12a47ff22f15838b69ae737967f39", func := "vernier/vernierlaw2.RatLooks", spec := "ratLooks", named := ["math/bits.overflowError"], apart := false, narrowed := true }
def RatLooksUptoSaid : Prop := ratLooksUptoRow.holds Try.pinned (OpenSpec.upto ratLooksSpec)

/-- 'vernierlaw5.RootTells', WHERE WHAT IT READS IS OF BULK AT MOST 1048576: true; the input reads as it did. -/
def rootTellsUptoRow : OpenClaim := { program := "ytdojdghhbjjoeaa", sum := "16fa469bed7365833e6074fa529a610165b12a47ff22f15838b69ae737967f39", func := "vernier/vernierlaw5.RootTells", spec := "rootTells", named := ["math/bits.overflowError"], apart := false, narrowed := true }
def RootTellsUptoSaid : Prop := rootTellsUptoRow.holds Try.pinned (OpenSpec.upto rootTellsSpec)

/-- 'vernierlaw2.RatReckons', WHERE WHAT IT READS IS OF BULK AT MOST 1048576: true; the input reads as it did. -/
def ratReckonsUptoRow : OpenClaim := { program := "ytdojdghhbjjoeaa", sum := "16fa469bed7365833e6074fa529a610165b12a47ff22f15838b69ae737967f39", func := "vernier/vernierlaw2.RatReckons", spec := "ratReckons", named := ["math/bits.overflowError"], apart := false, narrowed := true }
def RatReckonsUptoSaid : Prop := ratReckonsUptoRow.holds Try.pinned (OpenSpec.upto ratReckonsSpec)

end Rows
end Go.Proofs.Ytdojdghhbjjoeaa
