/-
  No cell of these rows narrows 'for every input' (looked for: loops, veiled, ifaces, maps, wideKeys, modest, calm, conditions, laid).
  DERIVED. THE GIVEN ROWS OF THIS SEAT. 9 by the template 'for every input the law returns true; each argument reads behind the call as it read before'; 0 by the template 'total and deterministic' (their statements: YtifnpelkoklcnaaTotals.lean).
  GIVEN WITH THE SEED: the statements are not yours to turn. If you find one false, say at which input.
  Laid BY PROGRAM, IN A SANDBOX (cutbox-rows.mjs): the forced cells as the released guide's own fill.sh prints them over the translation ba74756ecf826ecc… (all of the seat's roots in one cut). By AI agents, Wed Nov 11 2026. No macro, syntax, notation, axiom, sorry.
-/
import Derived.Test.YtifnpelkoklcnaaChecked
import GoSem.Claim
import GoSem.ClaimJoined
import GoSem.ClaimMapViews
import Derived.JoinedTies
import Derived.KernelRfl
namespace Go.Proofs.Ytifnpelkoklcnaa
/- THE CELL 'sum', in the pinned program and in every row, IS THE sha256 OF THE DUMP (.gsa) THAT YtifnpelkoklcnaaProg.lean LOADS. Nothing in Lean hashes anything: it is a label: what it is worth is what the hold of that sum in a sandbox is worth. -/
noncomputable def Try.pinned : Pinned := { name := "ytifnpelkoklcnaa", sum := "ba74756ecf826ecc647e889676da0f94e3264875b37cb0d3b45dc19c37e7dd25", checked := Try.checked }
namespace Rows
def none {H : Type} : Left H := { results := [], args := [] }

/-- 'vernierlaw4.BallOwn': WHATEVER THE INPUT: true; the input reads as it did. -/
def ballOwnSpec : ChangeSpec := { name := "ballOwn", fn := fun _ => fun
  | [d] => { results := [.lit (.bool true)], args := [d] }
  | _ => none }
def ballOwnRow : OpenClaim := { program := "ytifnpelkoklcnaa", sum := "ba74756ecf826ecc647e889676da0f94e3264875b37cb0d3b45dc19c37e7dd25", func := "vernier/vernierlaw4.BallOwn", spec := "ballOwn", named := ["math/bits.overflowError"], apart := false }
def BallOwnSaid : Prop := ballOwnRow.holds Try.pinned (OpenSpec.ofChange ballOwnSpec)

/-- ITS FALSE NEIGHBOUR: 'it returns false'. Refute it at one input. -/
def ballOwnWrong : ChangeSpec := { name := "ballOwn", fn := fun _ => fun
  | [d] => { results := [.lit (.bool false)], args := [d] }
  | _ => none }
def BallOwnWrongFalsely : Prop := ballOwnRow.holds Try.pinned (OpenSpec.ofChange ballOwnWrong)

/-- 'vernierlaw8.ArcsTurns': WHATEVER THE INPUT: true; the input reads as it did. -/
def arcsTurnsSpec : ChangeSpec := { name := "arcsTurns", fn := fun _ => fun
  | [d1, d2] => { results := [.lit (.bool true)], args := [d1, d2] }
  | _ => none }
def arcsTurnsRow : OpenClaim := { program := "ytifnpelkoklcnaa", sum := "ba74756ecf826ecc647e889676da0f94e3264875b37cb0d3b45dc19c37e7dd25", func := "vernier/vernierlaw8.ArcsTurns", spec := "arcsTurns", unfollowed := true, recurses := true, named := ["math/bits.overflowError"], apart := false }
def ArcsTurnsSaid : Prop := arcsTurnsRow.holds Try.pinned (OpenSpec.ofChange arcsTurnsSpec)

/-- ITS FALSE NEIGHBOUR: 'it returns false'. Refute it at one input. -/
def arcsTurnsWrong : ChangeSpec := { name := "arcsTurns", fn := fun _ => fun
  | [d1, d2] => { results := [.lit (.bool false)], args := [d1, d2] }
  | _ => none }
def ArcsTurnsWrongFalsely : Prop := arcsTurnsRow.holds Try.pinned (OpenSpec.ofChange arcsTurnsWrong)

/-- 'vernierlaw8.ArcsOnes': WHATEVER THE INPUT: true; the input reads as it did. -/
def arcsOnesSpec : ChangeSpec := { name := "arcsOnes", fn := fun _ => fun
  | [d] => { results := [.lit (.bool true)], args := [d] }
  | _ => none }
def arcsOnesRow : OpenClaim := { program := "ytifnpelkoklcnaa", sum := "ba74756ecf826ecc647e889676da0f94e3264875b37cb0d3b45dc19c37e7dd25", func := "vernier/vernierlaw8.ArcsOnes", spec := "arcsOnes", unfollowed := true, recurses := true, named := ["math/bits.overflowError"], apart := false }
def ArcsOnesSaid : Prop := arcsOnesRow.holds Try.pinned (OpenSpec.ofChange arcsOnesSpec)

/-- ITS FALSE NEIGHBOUR: 'it returns false'. Refute it at one input. -/
def arcsOnesWrong : ChangeSpec := { name := "arcsOnes", fn := fun _ => fun
  | [d] => { results := [.lit (.bool false)], args := [d] }
  | _ => none }
def ArcsOnesWrongFalsely : Prop := arcsOnesRow.holds Try.pinned (OpenSpec.ofChange arcsOnesWrong)

/-- 'vernierlaw8.ArcsRises': WHATEVER THE INPUT: true; the input reads as it did. -/
def arcsRisesSpec : ChangeSpec := { name := "arcsRises", fn := fun _ => fun
  | [d1, d2, d3, d4] => { results := [.lit (.bool true)], args := [d1, d2, d3, d4] }
  | _ => none }
def arcsRisesRow : OpenClaim := { program := "ytifnpelkoklcnaa", sum := "ba74756ecf826ecc647e889676da0f94e3264875b37cb0d3b45dc19c37e7dd25", func := "vernier/vernierlaw8.ArcsRises", spec := "arcsRises", unfollowed := true, recurses := true, named := ["math/bits.overflowError"], apart := false }
def ArcsRisesSaid : Prop := arcsRisesRow.holds Try.pinned (OpenSpec.ofChange arcsRisesSpec)

/-- ITS FALSE NEIGHBOUR: 'it returns false'. Refute it at one input. -/
def arcsRisesWrong : ChangeSpec := { name := "arcsRises", fn := fun _ => fun
  | [d1, d2, d3, d4] => { results := [.lit (.bool false)], args := [d1, d2, d3, d4] }
  | _ => none }
def ArcsRisesWrongFalsely : Prop := arcsRisesRow.holds Try.pinned (OpenSpec.ofChange arcsRisesWrong)

/-- 'vernierlaw6.ExpsTurns': WHATEVER THE INPUT: true; the input reads as it did. -/
def expsTurnsSpec : ChangeSpec := { name := "expsTurns", fn := fun _ => fun
  | [d1, d2] => { results := [.lit (.bool true)], args := [d1, d2] }
  | _ => none }
def expsTurnsRow : OpenClaim := { program := "ytifnpelkoklcnaa", sum := "ba74756ecf826ecc647e889676da0f94e3264875b37cb0d3b45dc19c37e7dd25", func := "vernier/vernierlaw6.ExpsTurns", spec := "expsTurns", unfollowed := true, recurses := true, named := ["math/bits.overflowError"], apart := false }
def ExpsTurnsSaid : Prop := expsTurnsRow.holds Try.pinned (OpenSpec.ofChange expsTurnsSpec)

/-- ITS FALSE NEIGHBOUR: 'it returns false'. Refute it at one input. -/
def expsTurnsWrong : ChangeSpec := { name := "expsTurns", fn := fun _ => fun
  | [d1, d2] => { results := [.lit (.bool false)], args := [d1, d2] }
  | _ => none }
def ExpsTurnsWrongFalsely : Prop := expsTurnsRow.holds Try.pinned (OpenSpec.ofChange expsTurnsWrong)

/-- 'vernierlaw7.LogsPowers': WHATEVER THE INPUT: true; the input reads as it did. -/
def logsPowersSpec : ChangeSpec := { name := "logsPowers", fn := fun _ => fun
  | [d1, d2] => { results := [.lit (.bool true)], args := [d1, d2] }
  | _ => none }
def logsPowersRow : OpenClaim := { program := "ytifnpelkoklcnaa", sum := "ba74756ecf826ecc647e889676da0f94e3264875b37cb0d3b45dc19c37e7dd25", func := "vernier/vernierlaw7.LogsPowers", spec := "logsPowers", unfollowed := true, recurses := true, named := ["math/bits.overflowError"], apart := false }
def LogsPowersSaid : Prop := logsPowersRow.holds Try.pinned (OpenSpec.ofChange logsPowersSpec)

/-- ITS FALSE NEIGHBOUR: 'it returns false'. Refute it at one input. -/
def logsPowersWrong : ChangeSpec := { name := "logsPowers", fn := fun _ => fun
  | [d1, d2] => { results := [.lit (.bool false)], args := [d1, d2] }
  | _ => none }
def LogsPowersWrongFalsely : Prop := logsPowersRow.holds Try.pinned (OpenSpec.ofChange logsPowersWrong)

/-- 'vernierlaw13.DiscSums': WHATEVER THE INPUT: true; the input reads as it did. -/
def discSumsSpec : ChangeSpec := { name := "discSums", fn := fun _ => fun
  | [d1, d2, d3, d4, d5] => { results := [.lit (.bool true)], args := [d1, d2, d3, d4, d5] }
  | _ => none }
def discSumsRow : OpenClaim := { program := "ytifnpelkoklcnaa", sum := "ba74756ecf826ecc647e889676da0f94e3264875b37cb0d3b45dc19c37e7dd25", func := "vernier/vernierlaw13.DiscSums", spec := "discSums", unfollowed := true, recurses := true, named := ["math/bits.overflowError"], apart := false }
def DiscSumsSaid : Prop := discSumsRow.holds Try.pinned (OpenSpec.ofChange discSumsSpec)

/-- ITS FALSE NEIGHBOUR: 'it returns false'. Refute it at one input. -/
def discSumsWrong : ChangeSpec := { name := "discSums", fn := fun _ => fun
  | [d1, d2, d3, d4, d5] => { results := [.lit (.bool false)], args := [d1, d2, d3, d4, d5] }
  | _ => none }
def DiscSumsWrongFalsely : Prop := discSumsRow.holds Try.pinned (OpenSpec.ofChange discSumsWrong)

/-- 'vernierlaw17.StatOrders': WHATEVER THE INPUT: true; the input reads as it did. -/
def statOrdersSpec : ChangeSpec := { name := "statOrders", fn := fun _ => fun
  | [d1, d2] => { results := [.lit (.bool true)], args := [d1, d2] }
  | _ => none }
def statOrdersRow : OpenClaim := { program := "ytifnpelkoklcnaa", sum := "ba74756ecf826ecc647e889676da0f94e3264875b37cb0d3b45dc19c37e7dd25", func := "vernier/vernierlaw17.StatOrders", spec := "statOrders", unfollowed := true, recurses := true, named := ["math/bits.overflowError"], apart := false }
def StatOrdersSaid : Prop := statOrdersRow.holds Try.pinned (OpenSpec.ofChange statOrdersSpec)

/-- ITS FALSE NEIGHBOUR: 'it returns false'. Refute it at one input. -/
def statOrdersWrong : ChangeSpec := { name := "statOrders", fn := fun _ => fun
  | [d1, d2] => { results := [.lit (.bool false)], args := [d1, d2] }
  | _ => none }
def StatOrdersWrongFalsely : Prop := statOrdersRow.holds Try.pinned (OpenSpec.ofChange statOrdersWrong)

/-- 'vernierlaw17.StatOwn': WHATEVER THE INPUT: true; the input reads as it did. -/
def statOwnSpec : ChangeSpec := { name := "statOwn", fn := fun _ => fun
  | [d] => { results := [.lit (.bool true)], args := [d] }
  | _ => none }
def statOwnRow : OpenClaim := { program := "ytifnpelkoklcnaa", sum := "ba74756ecf826ecc647e889676da0f94e3264875b37cb0d3b45dc19c37e7dd25", func := "vernier/vernierlaw17.StatOwn", spec := "statOwn", unfollowed := true, recurses := true, named := ["math/bits.overflowError"], apart := false }
def StatOwnSaid : Prop := statOwnRow.holds Try.pinned (OpenSpec.ofChange statOwnSpec)

/-- ITS FALSE NEIGHBOUR: 'it returns false'. Refute it at one input. -/
def statOwnWrong : ChangeSpec := { name := "statOwn", fn := fun _ => fun
  | [d] => { results := [.lit (.bool false)], args := [d] }
  | _ => none }
def StatOwnWrongFalsely : Prop := statOwnRow.holds Try.pinned (OpenSpec.ofChange statOwnWrong)

/- THE SECOND FORM. 'bulk': how many values and letters a reading holds, each counted each time it is reached (what is shared counts as often as it is met; a slice's spare places count too). A statement '..UptoSaid' is the law's where the arguments, and the package variables that the reading takes, are together of bulk at most 1048576: NARROWER than '..Said'. Prove '..Said' where nothing that the law and all that it calls make is longer than what came in: it says more and counts as full. Else prove '..UptoSaid'. A law counts once. -/
mutual
def uptoBulk {H : Type} : DataW H → Nat
  | .lit (.string bytes) => bytes.length + 1
  | .lit _ => 1
  | .nil => 1
  | .ptr d => uptoBulk d + 1
  | .slice elems spare => uptoBulkAll elems + uptoBulkAll spare + 1
  | .agg parts => uptoBulkAll parts + 1
  | .iface _ d => uptoBulk d + 1
  | .map entries => uptoBulkEntries entries + 1
  | .held _ => 1
def uptoBulkAll {H : Type} : List (DataW H) → Nat
  | [] => 0
  | d :: r => uptoBulk d + uptoBulkAll r
def uptoBulkEntries {H : Type} : List (Lit × DataW H) → Nat
  | [] => 0
  | x :: r => uptoBulkEntry x + uptoBulkEntries r
def uptoBulkEntry {H : Type} : Lit × DataW H → Nat
  | (.string bytes, d) => bytes.length + uptoBulk d + 1
  | (_, d) => uptoBulk d + 1
 end
def uptoSmall : (H : Type) → List (DataW H) → Bool := fun _ ds => decide (uptoBulkAll ds ≤ 1048576)
def OpenSpec.upto (s : _root_.Go.ChangeSpec) : _root_.Go.OpenSpec := { _root_.Go.OpenSpec.ofChange s with cond := some uptoSmall }

/-- 'vernierlaw4.BallOwn', WHERE WHAT IT READS IS OF BULK AT MOST 1048576: true; the input reads as it did. -/
def ballOwnUptoRow : OpenClaim := { program := "ytifnpelkoklcnaa", sum := "ba74756ecf826ecc647e889676da0f94e3264875b37cb0d3b45dc19c37e7dd25", func := "vernier/vernierlaw4.BallOwn", spec := "ballOwn", named := ["math/bits.overflowError"], apart := false, narrowed := true }
def BallOwnUptoSaid : Prop := ballOwnUptoRow.holds Try.pinned (OpenSpec.upto ballOwnSpec)

/-- 'vernierlaw8.ArcsTurns', WHERE WHAT IT READS IS OF BULK AT MOST 1048576: true; the input reads as it did. -/
def arcsTurnsUptoRow : OpenClaim := { program := "ytifnpelkoklcnaa", sum := "ba74756ecf826ecc647e889676da0f94e3264875b37cb0d3b45dc19c37e7dd25", func := "vernier/vernierlaw8.ArcsTurns", spec := "arcsTurns", unfollowed := true, recurses := true, named := ["math/bits.overflowError"], apart := false, narrowed := true }
def ArcsTurnsUptoSaid : Prop := arcsTurnsUptoRow.holds Try.pinned (OpenSpec.upto arcsTurnsSpec)

/-- 'vernierlaw8.ArcsOnes', WHERE WHAT IT READS IS OF BULK AT MOST 1048576: true; the input reads as it did. -/
def arcsOnesUptoRow : OpenClaim := { program := "ytifnpelkoklcnaa", sum := "ba74756ecf826ecc647e889676da0f94e3264875b37cb0d3b45dc19c37e7dd25", func := "vernier/vernierlaw8.ArcsOnes", spec := "arcsOnes", unfollowed := true, recurses := true, named := ["math/bits.overflowError"], apart := false, narrowed := true }
def ArcsOnesUptoSaid : Prop := arcsOnesUptoRow.holds Try.pinned (OpenSpec.upto arcsOnesSpec)

/-- 'vernierlaw8.ArcsRises', WHERE WHAT IT READS IS OF BULK AT MOST 1048576: true; the input reads as it did. -/
def arcsRisesUptoRow : OpenClaim := { program := "ytifnpelkoklcnaa", sum := "ba74756ecf826ecc647e889676da0f94e3264875b37cb0d3b45dc19c37e7dd25", func := "vernier/vernierlaw8.ArcsRises", spec := "arcsRises", unfollowed := true, recurses := true, named := ["math/bits.overflowError"], apart := false, narrowed := true }
def ArcsRisesUptoSaid : Prop := arcsRisesUptoRow.holds Try.pinned (OpenSpec.upto arcsRisesSpec)

/-- 'vernierlaw6.ExpsTurns', WHERE WHAT IT READS IS OF BULK AT MOST 1048576: true; the input reads as it did. -/
def expsTurnsUptoRow : OpenClaim := { program := "ytifnpelkoklcnaa", sum := "ba74756ecf826ecc647e889676da0f94e3264875b37cb0d3b45dc19c37e7dd25", func := "vernier/vernierlaw6.ExpsTurns", spec := "expsTurns", unfollowed := true, recurses := true, named := ["math/bits.overflowError"], apart := false, narrowed := true }
def ExpsTurnsUptoSaid : Prop := expsTurnsUptoRow.holds Try.pinned (OpenSpec.upto expsTurnsSpec)

/-- 'vernierlaw7.LogsPowers', WHERE WHAT IT READS IS OF BULK AT MOST 1048576: true; the input reads as it did. -/
def logsPowersUptoRow : OpenClaim := { program := "ytifnpelkoklcnaa", sum := "ba74756ecf826ecc647e889676da0f94e3264875b37cb0d3b45dc19c37e7dd25", func := "vernier/vernierlaw7.LogsPowers", spec := "logsPowers", unfollowed := true, recurses := true, named := ["math/bits.overflowError"], apart := false, narrowed := true }
def LogsPowersUptoSaid : Prop := logsPowersUptoRow.holds Try.pinned (OpenSpec.upto logsPowersSpec)

/-- 'vernierlaw13.DiscSums', WHERE WHAT IT READS IS OF BULK AT MOST 1048576: true; the input reads as it did. -/
def discSumsUptoRow : OpenClaim := { program := "ytifnpelkoklcnaa", sum := "ba74756ecf826ecc647e889676da0f94e3264875b37cb0d3b45dc19c37e7dd25", func := "vernier/vernierlaw13.DiscSums", spec := "discSums", unfollowed := true, recurses := true, named := ["math/bits.overflowError"], apart := false, narrowed := true }
def DiscSumsUptoSaid : Prop := discSumsUptoRow.holds Try.pinned (OpenSpec.upto discSumsSpec)

/-- 'vernierlaw17.StatOrders', WHERE WHAT IT READS IS OF BULK AT MOST 1048576: true; the input reads as it did. -/
def statOrdersUptoRow : OpenClaim := { program := "ytifnpelkoklcnaa", sum := "ba74756ecf826ecc647e889676da0f94e3264875b37cb0d3b45dc19c37e7dd25", func := "vernier/vernierlaw17.StatOrders", spec := "statOrders", unfollowed := true, recurses := true, named := ["math/bits.overflowError"], apart := false, narrowed := true }
def StatOrdersUptoSaid : Prop := statOrdersUptoRow.holds Try.pinned (OpenSpec.upto statOrdersSpec)

/-- 'vernierlaw17.StatOwn', WHERE WHAT IT READS IS OF BULK AT MOST 1048576: true; the input reads as it did. -/
def statOwnUptoRow : OpenClaim := { program := "ytifnpelkoklcnaa", sum := "ba74756ecf826ecc647e889676da0f94e3264875b37cb0d3b45dc19c37e7dd25", func := "vernier/vernierlaw17.StatOwn", spec := "statOwn", unfollowed := true, recurses := true, named := ["math/bits.overflowError"], apart := false, narrowed := true }
def StatOwnUptoSaid : Prop := statOwnUptoRow.holds Try.pinned (OpenSpec.upto statOwnSpec)

end Rows
end Go.Proofs.Ytifnpelkoklcnaa
