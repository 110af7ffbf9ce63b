/- vernierlaw4: known; by the abstract walk. No condition. -/
import Derived.Test.YtifnpelkoklcnaaBf
namespace Go.Proofs.Ytifnpelkoklcnaa
open Go.RowKit
set_option linter.unusedSimpArgs false
set_option linter.unusedVariables false

def d_law4_known : Den := den0 (boolV true)
set_option maxRecDepth 100000 in
set_option maxHeartbeats 1000000 in
theorem s_law4_known : Sound Try.prog 19 d_law4_known := by
  refine sound0 (fz := nofz) (l := [(24, d_ref2_Int), (66, d_ball_Mul), (16, d_ref4_Same)]) TT_ok ⟨s_ref2_Int, s_ball_Mul, s_ref4_Same, trivial⟩ mixed Try.func19 Try.ntmps19 Try.results19 Try.call19 rfl rfl ?_
  rw [codeK_start]
  simp only [go_sem, d_ref2_Int, d_ball_Mul, d_ref4_Same, Nat.reduceBEq, Nat.reduceBNe, Nat.reduceLT, Nat.reduceLeDiff, Nat.reduceAdd, Nat.reduceSub, Nat.reduceMul, Nat.reduceEqDiff, Int.reduceNeg, Int.reduceAdd, Int.reduceLT, Int.reduceLE, Int.reduceToNat, ↓reduceIte]
  have e1 : mulLo ⟨cr ((-1 : Int) : Rat), cr ((2 : Int) : Rat)⟩ ⟨cr ((-3 : Int) : Rat), cr ((1 : Int) : Rat)⟩ = ((-6 : Int) : Rat) := by
    show mn (mn (mn ((cr _).q * (cr _).q) ((cr _).q * (cr _).q)) ((cr _).q * (cr _).q)) ((cr _).q * (cr _).q) = _
    simp only [cr_q]
    decide +kernel
  have e2 : mulHi ⟨cr ((-1 : Int) : Rat), cr ((2 : Int) : Rat)⟩ ⟨cr ((-3 : Int) : Rat), cr ((1 : Int) : Rat)⟩ = ((3 : Int) : Rat) := by
    show mx (mx (mx ((cr _).q * (cr _).q) ((cr _).q * (cr _).q)) ((cr _).q * (cr _).q)) ((cr _).q * (cr _).q) = _
    simp only [cr_q]
    decide +kernel
  rw [e1, e2]
  have z : ∀ n : Int, -10 ≤ n → n ≤ 10 → rs (n : Rat) ≤ 2 := fun n h1 h2 => rsb_int (by omega) (by omega) (by omega)
  have z1 := z (-1) (by omega) (by omega)
  have z2 := z 2 (by omega) (by omega)
  have z3 := z (-3) (by omega) (by omega)
  have z4 := z 1 (by omega) (by omega)
  have z5 := z (-6) (by omega) (by omega)
  have z6 := z 3 (by omega) (by omega)
  exact ⟨⟨Nat.max_le.2 ⟨by rw [cr_sz]; omega, by rw [cr_sz]; omega⟩, Nat.max_le.2 ⟨by rw [cr_sz]; omega, by rw [cr_sz]; omega⟩⟩, ⟨Nat.max_le.2 ⟨by rw [cr_sz]; omega, by rw [cr_sz]; omega⟩, Nat.max_le.2 ⟨by rw [cr_sz]; omega, by rw [cr_sz]; omega⟩⟩, sameB_self _⟩


end Go.Proofs.Ytifnpelkoklcnaa
