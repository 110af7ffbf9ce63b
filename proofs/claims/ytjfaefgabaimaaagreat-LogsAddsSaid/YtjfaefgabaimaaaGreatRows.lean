/-
  No cell of these rows narrows 'for every input' (looked for: loops, veiled, ifaces, maps, wideKeys, modest, calm, conditions, laid).
  DERIVED. THE GIVEN ROWS OF THIS SEAT. 3 by the template 'for every input the law returns true; each argument reads behind the call as it read before'; 0 by the template 'total and deterministic' (their statements: YtjfaefgabaimaaaGreatTotals.lean).
  GIVEN WITH THE SEED: the statements are not yours to turn. If you find one false, say at which input.
  Laid BY PROGRAM, IN A SANDBOX (cutbox-rows.mjs): the forced cells as the released guide's own fill.sh prints them over the translation 050437a019d971c2… (all of the seat's roots in one cut). By AI agents, Wed Nov 11 2026. No macro, syntax, notation, axiom, sorry.
-/
import Derived.Test.YtjfaefgabaimaaaGreatChecked
import GoSem.Claim
import GoSem.ClaimJoined
import GoSem.ClaimMapViews
import Derived.JoinedTies
import Derived.KernelRfl
namespace Go.Proofs.YtjfaefgabaimaaaGreat
/- THE CELL 'sum', in the pinned program and in every row, IS THE sha256 OF THE DUMP (.gsa) THAT YtjfaefgabaimaaaGreatProg.lean LOADS. Nothing in Lean hashes anything: it is a label: what it is worth is what the hold of that sum in a sandbox is worth. -/
noncomputable def Tryz.pinned : Pinned := { name := "ytjfaefgabaimaaagreat", sum := "050437a019d971c27ade7f8098457146fd180ee6f4815d1823503703d24f56aa", checked := Tryz.checked }
namespace Rows
def none {H : Type} : Left H := { results := [], args := [] }

/-- 'vernierlaw6.ExpsAdds': WHATEVER THE INPUT: true; the input reads as it did. -/
def expsAddsSpec : ChangeSpec := { name := "expsAdds", fn := fun _ => fun
  | [d1, d2, d3] => { results := [.lit (.bool true)], args := [d1, d2, d3] }
  | _ => none }
def expsAddsRow : OpenClaim := { program := "ytjfaefgabaimaaagreat", sum := "050437a019d971c27ade7f8098457146fd180ee6f4815d1823503703d24f56aa", func := "vernier/vernierlaw6.ExpsAdds", spec := "expsAdds", unfollowed := true, recurses := true, named := ["math/bits.overflowError"], apart := false }
def ExpsAddsSaid : Prop := expsAddsRow.holds Tryz.pinned (OpenSpec.ofChange expsAddsSpec)

/-- ITS FALSE NEIGHBOUR: 'it returns false'. Refute it at one input. -/
def expsAddsWrong : ChangeSpec := { name := "expsAdds", fn := fun _ => fun
  | [d1, d2, d3] => { results := [.lit (.bool false)], args := [d1, d2, d3] }
  | _ => none }
def ExpsAddsWrongFalsely : Prop := expsAddsRow.holds Tryz.pinned (OpenSpec.ofChange expsAddsWrong)

/-- 'vernierlaw6.ExpsRises': WHATEVER THE INPUT: true; the input reads as it did. -/
def expsRisesSpec : ChangeSpec := { name := "expsRises", fn := fun _ => fun
  | [d1, d2, d3, d4] => { results := [.lit (.bool true)], args := [d1, d2, d3, d4] }
  | _ => none }
def expsRisesRow : OpenClaim := { program := "ytjfaefgabaimaaagreat", sum := "050437a019d971c27ade7f8098457146fd180ee6f4815d1823503703d24f56aa", func := "vernier/vernierlaw6.ExpsRises", spec := "expsRises", unfollowed := true, recurses := true, named := ["math/bits.overflowError"], apart := false }
def ExpsRisesSaid : Prop := expsRisesRow.holds Tryz.pinned (OpenSpec.ofChange expsRisesSpec)

/-- ITS FALSE NEIGHBOUR: 'it returns false'. Refute it at one input. -/
def expsRisesWrong : ChangeSpec := { name := "expsRises", fn := fun _ => fun
  | [d1, d2, d3, d4] => { results := [.lit (.bool false)], args := [d1, d2, d3, d4] }
  | _ => none }
def ExpsRisesWrongFalsely : Prop := expsRisesRow.holds Tryz.pinned (OpenSpec.ofChange expsRisesWrong)

/-- 'vernierlaw7.LogsAdds': WHATEVER THE INPUT: true; the input reads as it did. -/
def logsAddsSpec : ChangeSpec := { name := "logsAdds", fn := fun _ => fun
  | [d1, d2, d3] => { results := [.lit (.bool true)], args := [d1, d2, d3] }
  | _ => none }
def logsAddsRow : OpenClaim := { program := "ytjfaefgabaimaaagreat", sum := "050437a019d971c27ade7f8098457146fd180ee6f4815d1823503703d24f56aa", func := "vernier/vernierlaw7.LogsAdds", spec := "logsAdds", unfollowed := true, recurses := true, named := ["math/bits.overflowError"], apart := false }
def LogsAddsSaid : Prop := logsAddsRow.holds Tryz.pinned (OpenSpec.ofChange logsAddsSpec)

/-- ITS FALSE NEIGHBOUR: 'it returns false'. Refute it at one input. -/
def logsAddsWrong : ChangeSpec := { name := "logsAdds", fn := fun _ => fun
  | [d1, d2, d3] => { results := [.lit (.bool false)], args := [d1, d2, d3] }
  | _ => none }
def LogsAddsWrongFalsely : Prop := logsAddsRow.holds Tryz.pinned (OpenSpec.ofChange logsAddsWrong)

/- THE SECOND FORM. 'bulk': how many values and letters a reading holds, each counted each time it is reached (what is shared counts as often as it is met; a slice's spare places count too). A statement '..UptoSaid' is the law's where the arguments, and the package variables that the reading takes, are together of bulk at most 1048576: NARROWER than '..Said'. Prove '..Said' where nothing that the law and all that it calls make is longer than what came in: it says more and counts as full. Else prove '..UptoSaid'. A law counts once. -/
mutual
def uptoBulk {H : Type} : DataW H → Nat
  | .lit (.string bytes) => bytes.length + 1
  | .lit _ => 1
  | .nil => 1
  | .ptr d => uptoBulk d + 1
  | .slice elems spare => uptoBulkAll elems + uptoBulkAll spare + 1
  | .agg parts => uptoBulkAll parts + 1
  | .iface _ d => uptoBulk d + 1
  | .map entries => uptoBulkEntries entries + 1
  | .held _ => 1
def uptoBulkAll {H : Type} : List (DataW H) → Nat
  | [] => 0
  | d :: r => uptoBulk d + uptoBulkAll r
def uptoBulkEntries {H : Type} : List (Lit × DataW H) → Nat
  | [] => 0
  | x :: r => uptoBulkEntry x + uptoBulkEntries r
def uptoBulkEntry {H : Type} : Lit × DataW H → Nat
  | (.string bytes, d) => bytes.length + uptoBulk d + 1
  | (_, d) => uptoBulk d + 1
 end
def uptoSmall : (H : Type) → List (DataW H) → Bool := fun _ ds => decide (uptoBulkAll ds ≤ 1048576)
def OpenSpec.upto (s : _root_.Go.ChangeSpec) : _root_.Go.OpenSpec := { _root_.Go.OpenSpec.ofChange s with cond := some uptoSmall }

/-- 'vernierlaw6.ExpsAdds', WHERE WHAT IT READS IS OF BULK AT MOST 1048576: true; the input reads as it did. -/
def expsAddsUptoRow : OpenClaim := { program := "ytjfaefgabaimaaagreat", sum := "050437a019d971c27ade7f8098457146fd180ee6f4815d1823503703d24f56aa", func := "vernier/vernierlaw6.ExpsAdds", spec := "expsAdds", unfollowed := true, recurses := true, named := ["math/bits.overflowError"], apart := false, narrowed := true }
def ExpsAddsUptoSaid : Prop := expsAddsUptoRow.holds Tryz.pinned (OpenSpec.upto expsAddsSpec)

/-- 'vernierlaw6.ExpsRises', WHERE WHAT IT READS IS OF BULK AT MOST 1048576: true; the input reads as it did. -/
def expsRisesUptoRow : OpenClaim := { program := "ytjfaefgabaimaaagreat", sum := "050437a019d971c27ade7f8098457146fd180ee6f4815d1823503703d24f56aa", func := "vernier/vernierlaw6.ExpsRises", spec := "expsRises", unfollowed := true, recurses := true, named := ["math/bits.overflowError"], apart := false, narrowed := true }
def ExpsRisesUptoSaid : Prop := expsRisesUptoRow.holds Tryz.pinned (OpenSpec.upto expsRisesSpec)

/-- 'vernierlaw7.LogsAdds', WHERE WHAT IT READS IS OF BULK AT MOST 1048576: true; the input reads as it did. -/
def logsAddsUptoRow : OpenClaim := { program := "ytjfaefgabaimaaagreat", sum := "050437a019d971c27ade7f8098457146fd180ee6f4815d1823503703d24f56aa", func := "vernier/vernierlaw7.LogsAdds", spec := "logsAdds", unfollowed := true, recurses := true, named := ["math/bits.overflowError"], apart := false, narrowed := true }
def LogsAddsUptoSaid : Prop := logsAddsUptoRow.holds Tryz.pinned (OpenSpec.upto logsAddsSpec)

end Rows
end Go.Proofs.YtjfaefgabaimaaaGreat
