/- Facts of the whole program. No condition. -/
import Derived.Test.YtocpmekblkfdiaaGreatDoorRows
import Derived.WalkKit
import Derived.ProofKit
import Derived.OpenShut
namespace Go.Proofs.YtocpmekblkfdiaaGreatDoor
def preL : List Char := [Char.ofNat 104, Char.ofNat 97, Char.ofNat 114, Char.ofNat 110, Char.ofNat 101, Char.ofNat 115, Char.ofNat 115, Char.ofNat 32, Char.ofNat 100, Char.ofNat 51, Char.ofNat 99, Char.ofNat 52, Char.ofNat 56, Char.ofNat 52, Char.ofNat 52, Char.ofNat 55, Char.ofNat 102, Char.ofNat 100, Char.ofNat 50, Char.ofNat 56, Char.ofNat 52, Char.ofNat 55, Char.ofNat 50, Char.ofNat 52, Char.ofNat 101, Char.ofNat 57, Char.ofNat 101, Char.ofNat 57, Char.ofNat 55, Char.ofNat 102, Char.ofNat 53, Char.ofNat 99, Char.ofNat 55, Char.ofNat 97, Char.ofNat 100, Char.ofNat 102, Char.ofNat 102, Char.ofNat 56, Char.ofNat 57, Char.ofNat 50, Char.ofNat 101, Char.ofNat 56, Char.ofNat 97, Char.ofNat 101, Char.ofNat 98, Char.ofNat 51, Char.ofNat 54, Char.ofNat 54, Char.ofNat 52, Char.ofNat 48, Char.ofNat 57, Char.ofNat 99, Char.ofNat 57, Char.ofNat 52, Char.ofNat 56, Char.ofNat 56, Char.ofNat 57, Char.ofNat 102, Char.ofNat 101, Char.ofNat 55, Char.ofNat 101, Char.ofNat 56, Char.ofNat 101, Char.ofNat 51, Char.ofNat 99, Char.ofNat 53, Char.ofNat 97, Char.ofNat 51, Char.ofNat 99, Char.ofNat 55, Char.ofNat 51, Char.ofNat 97, Char.ofNat 32, Char.ofNat 99, Char.ofNat 117, Char.ofNat 116, Char.ofNat 32]
def tailL : List Char := [Char.ofNat 97, Char.ofNat 116, Char.ofNat 32, Char.ofNat 118, Char.ofNat 101, Char.ofNat 114, Char.ofNat 110, Char.ofNat 105, Char.ofNat 101, Char.ofNat 114, Char.ofNat 47, Char.ofNat 118, Char.ofNat 101, Char.ofNat 114, Char.ofNat 110, Char.ofNat 105, Char.ofNat 101, Char.ofNat 114, Char.ofNat 116, Char.ofNat 111, Char.ofNat 112, Char.ofNat 46, Char.ofNat 84, Char.ofNat 111, Char.ofNat 112, Char.ofNat 69, Char.ofNat 120, Char.ofNat 97, Char.ofNat 99, Char.ofNat 116]
def cutW : List Char := [Char.ofNat 99, Char.ofNat 117, Char.ofNat 116]
set_option maxRecDepth 100000 in
theorem initIs : Tryz.prog.initOrder = String.ofList (preL ++ tailL) := by kernel_rfl
theorem initToL : Tryz.prog.initOrder.toList = preL ++ tailL := (congrArg String.toList initIs).trans String.toList_ofList
set_option maxRecDepth 100000 in
theorem words_cut (r : List Char) : behindMainWord (wordsSigns (preL ++ r)) = cutW :: wordsSigns r := by kernel_rfl
theorem strip_cut (r : List (List Char)) : stripLifts liftWords (cutW :: r) = ([], cutW :: r) := by kernel_rfl
theorem cut_gc : (cutW == "gc".toList) = false := by kernel_rfl
theorem cut_spec : (cutW == "spec".toList) = false := by kernel_rfl
theorem cut_carried : (cutW == "carried".toList) = false := by kernel_rfl
theorem cut_cut : (cutW == "cut".toList) = true := by kernel_rfl
theorem head_cut (r : List (List Char)) : ((cutW :: r).head? == some "cut".toList) = true := by kernel_rfl
theorem head_carried (r : List (List Char)) : ((cutW :: r).head? == some "carried".toList) = false := by kernel_rfl
section
variable {P : Program} {l : List Char} {r : List (List Char)} (h0 : P.initOrder.toList = l) (h : behindMainWord (wordsSigns l) = cutW :: r)
include h0 h
theorem headLifts_of : P.headLifts = [] := by
  unfold Program.headLifts
  rw [h0, h, strip_cut]
  simp only [head_cut, if_true]
theorem liftsFinal_of : P.liftsFinal = false := by
  unfold Program.liftsFinal
  rw [h0, h, headLifts_of h0 h]
  simp only [head_carried, Bool.false_and, Bool.false_or]
  rfl
theorem make_of : P.make = some .cut := by
  unfold Program.make
  rw [h0, h, headLifts_of h0 h]
  simp only [cut_gc, cut_spec, cut_cut, Bool.or_self, Bool.false_eq_true, if_false, Bool.true_or, if_true]
theorem mayEnter_of (h1 : P.laysLater = false) (h2 : P.bearsReflect = false) (h3 : P.doorFits [] = true) : P.mayEnter = true := by
  unfold Program.mayEnter
  rw [h0, h]
  simp only [strip_cut, h1, h2, h3, head_cut, cut_gc, cut_spec, cut_carried, Bool.or_self, Bool.false_and, Bool.false_or, Bool.not_false, Bool.or_true, Bool.true_and]
  rfl
end
theorem laysLaterIs : Tryz.prog.laysLater = false := by kernel_rfl
theorem bearsReflectIs : Tryz.prog.bearsReflect = false := by kernel_rfl
theorem doorFitsIs : Tryz.prog.doorFits [] = true := by kernel_rfl
theorem liftsFinalIs : Tryz.prog.liftsFinal = false := liftsFinal_of initToL (words_cut tailL)
theorem makeIs : Tryz.prog.make = some .cut := make_of initToL (words_cut tailL)
theorem mayEnterIs : Tryz.prog.mayEnter = true := mayEnter_of initToL (words_cut tailL) laysLaterIs bearsReflectIs doorFitsIs
theorem progIs : Tryz.pinned.checked.prog = Tryz.prog := by kernel_rfl
theorem stopsHeardIs : Tryz.prog.stopsHeard = true := by kernel_rfl
theorem laidOutIs : laidOutB Tryz.prog = true := by kernel_rfl
theorem plainKeysIs : Tryz.prog.plainKeys = true := by kernel_rfl
end Go.Proofs.YtocpmekblkfdiaaGreatDoor
