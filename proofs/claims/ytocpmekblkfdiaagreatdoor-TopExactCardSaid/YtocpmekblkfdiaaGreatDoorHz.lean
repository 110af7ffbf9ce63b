/- fix.Less, fix.Over, by the abstract walk. Conditions: at most 10^12 limbs. -/
import Derived.Test.YtocpmekblkfdiaaGreatDoorAm
namespace Go.Proofs.YtocpmekblkfdiaaGreatDoor
open Go.RowKit
set_option linter.unusedSimpArgs false
set_option linter.unusedVariables false
def d_fix_Less : Den := den2 aLim aLim (fun a b => a.length ≤ 1000000000000 ∧ b.length ≤ 1000000000000) fun a b => natV (val a - val b)
set_option maxRecDepth 100000 in
set_option maxHeartbeats 1000000 in
theorem s_fix_Less : Sound Tryz.prog 169 d_fix_Less := by
  refine sound2 (fz := nofz) (l := [(69, d_nat_Sub)]) TT_ok ⟨s_nat_Sub, trivial⟩ mixed Tryz.func169 Tryz.ntmps169 Tryz.results169 Tryz.call169 rfl (by omega) (fun _ _ => rfl) ?_
  intro a b hp ha hb
  rw [codeK_start]
  simp only [go_sem, d_nat_Sub, Nat.reduceBEq, Nat.reduceBNe, Nat.reduceLT, Nat.reduceLeDiff, Nat.reduceAdd, Nat.reduceSub, Nat.reduceMul, Nat.reduceEqDiff, Int.reduceNeg, Int.reduceAdd, Int.reduceLT, Int.reduceLE, Int.reduceToNat, ↓reduceIte]
  ((try and_intros) <;> first | exact trivial | assumption | omega | (show okDraw _ _ = true; kernel_rfl))
def d_fix_Over : Den := den2 aLim aLim (fun a b => a.length ≤ 1000000000000 ∧ b.length ≤ 1000000000000) fun a b => natV (val a / val b)
set_option maxRecDepth 100000 in
set_option maxHeartbeats 1000000 in
theorem s_fix_Over : Sound Tryz.prog 170 d_fix_Over := by
  refine sound2 (fz := nofz) (l := [(120, d_nat_DivMod)]) TT_ok ⟨s_nat_DivMod, trivial⟩ mixed Tryz.func170 Tryz.ntmps170 Tryz.results170 Tryz.call170 rfl (by omega) (fun _ _ => rfl) ?_
  intro a b hp ha hb
  rw [codeK_start]
  simp only [go_sem, d_nat_DivMod, Nat.reduceBEq, Nat.reduceBNe, Nat.reduceLT, Nat.reduceLeDiff, Nat.reduceAdd, Nat.reduceSub, Nat.reduceMul, Nat.reduceEqDiff, Int.reduceNeg, Int.reduceAdd, Int.reduceLT, Int.reduceLE, Int.reduceToNat, ↓reduceIte]
  ((try and_intros) <;> first | exact trivial | assumption | omega | (show okDraw _ _ = true; kernel_rfl))
end Go.Proofs.YtocpmekblkfdiaaGreatDoor
