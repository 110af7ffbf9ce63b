/- fix.Less, fix.Over, by the abstract walk. Conditions: at most 10^12 limbs. -/
import Derived.Test.YtjfaefgabaimaaaGreatAm
namespace Go.Proofs.YtjfaefgabaimaaaGreat
open Go.RowKit
set_option linter.unusedSimpArgs false
set_option linter.unusedVariables false
def d_fix_Less : Den := den2 aLim aLim (fun a b => a.length ≤ 1000000000000 ∧ b.length ≤ 1000000000000) fun a b => natV (val a - val b)
set_option maxRecDepth 100000 in
set_option maxHeartbeats 1000000 in
theorem s_fix_Less : Sound Tryz.prog 90 d_fix_Less := by
  refine sound2 (fz := nofz) (l := [(126, d_nat_Sub)]) TT_ok ⟨s_nat_Sub, trivial⟩ mixed Tryz.func90 Tryz.ntmps90 Tryz.results90 Tryz.call90 rfl (by omega) (fun _ _ => rfl) ?_
  intro a b hp ha hb
  rw [codeK_start]
  simp only [go_sem, d_nat_Sub, Nat.reduceBEq, Nat.reduceBNe, Nat.reduceLT, Nat.reduceLeDiff, Nat.reduceAdd, Nat.reduceSub, Nat.reduceMul, Nat.reduceEqDiff, Int.reduceNeg, Int.reduceAdd, Int.reduceLT, Int.reduceLE, Int.reduceToNat, ↓reduceIte]
  ((try and_intros) <;> first | exact trivial | assumption | omega | (show okDraw _ _ = true; kernel_rfl))
def d_fix_Over : Den := den2 aLim aLim (fun a b => a.length ≤ 1000000000000 ∧ b.length ≤ 1000000000000) fun a b => natV (val a / val b)
set_option maxRecDepth 100000 in
set_option maxHeartbeats 1000000 in
theorem s_fix_Over : Sound Tryz.prog 108 d_fix_Over := by
  refine sound2 (fz := nofz) (l := [(105, d_nat_DivMod)]) TT_ok ⟨s_nat_DivMod, trivial⟩ mixed Tryz.func108 Tryz.ntmps108 Tryz.results108 Tryz.call108 rfl (by omega) (fun _ _ => rfl) ?_
  intro a b hp ha hb
  rw [codeK_start]
  simp only [go_sem, d_nat_DivMod, Nat.reduceBEq, Nat.reduceBNe, Nat.reduceLT, Nat.reduceLeDiff, Nat.reduceAdd, Nat.reduceSub, Nat.reduceMul, Nat.reduceEqDiff, Int.reduceNeg, Int.reduceAdd, Int.reduceLT, Int.reduceLE, Int.reduceToNat, ↓reduceIte]
  ((try and_intros) <;> first | exact trivial | assumption | omega | (show okDraw _ _ = true; kernel_rfl))
end Go.Proofs.YtjfaefgabaimaaaGreat
