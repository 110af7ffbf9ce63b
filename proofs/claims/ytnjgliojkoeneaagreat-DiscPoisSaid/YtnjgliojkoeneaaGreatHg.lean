/- vernierref13: Binom, BinomCdf, BinomTwo; vernierlaw13: long, known, by the abstract walk. Conditions: numbers of at most 1000 limbs. What the laws of chapter 13 ask of chances. No condition. -/
import Derived.Test.YtnjgliojkoeneaaGreatHc
namespace Go.Proofs.YtnjgliojkoeneaaGreat
open Go.RowKit
set_option linter.unusedSimpArgs false
set_option linter.unusedVariables false
def d_law13_known : Den := den0 (boolV true)
set_option maxRecDepth 100000 in
set_option maxHeartbeats 1000000 in
theorem s_law13_known : Sound Tryz.prog 9 d_law13_known := by
  refine sound0 (fz := nofz) (l := [(24, d_ref2_Of), (25, d_disc_Binom), (26, d_ref2_Same)]) TT_ok ⟨s_ref2_Of, s_disc_Binom, s_ref2_Same, trivial⟩ mixed Tryz.func9 Tryz.ntmps9 Tryz.results9 Tryz.call9 rfl rfl ?_
  rw [codeK_start]
  have e1 : tryB 2 (qv false 1 (val [2])) = true := by decide +kernel
  have e2 : bQ 2 1 (qv false 1 (val [2])) = qv false 1 (val [2]) := by decide +kernel
  have hz : rs (qv false 1 (val [2])) ≤ 1 := by
    show rs (qv false 1 2) ≤ 1
    exact rs_qv _ _ _ _ (by decide) (by decide) (by omega)
  simp only [go_sem, d_ref2_Of, d_disc_Binom, d_ref2_Same, decide_true, decide_false, e1, e2, eq_self, Nat.reduceBEq, Nat.reduceBNe, Nat.reduceLT, Nat.reduceLeDiff, Nat.reduceAdd, Nat.reduceSub, Nat.reduceMul, Nat.reduceEqDiff, Int.reduceNeg, Int.reduceAdd, Int.reduceLT, Int.reduceLE, Int.reduceToNat, ↓reduceIte]
  ((try and_intros) <;> first | exact trivial | omega | (show okDraw _ _ = true; kernel_rfl) | assumption)
end Go.Proofs.YtnjgliojkoeneaaGreat
namespace Go.Proofs.YtnjgliojkoeneaaGreat
open Go.RowKit
set_option linter.unusedSimpArgs false
set_option linter.unusedVariables false
end Go.Proofs.YtnjgliojkoeneaaGreat
