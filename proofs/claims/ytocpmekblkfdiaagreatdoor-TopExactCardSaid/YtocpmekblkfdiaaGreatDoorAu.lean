/- ball.Of, root.whole, Square, Sqrt, Of by the abstract walk. Conditions: numbers of at most 10^8 limbs. vernierref4: Of, Is, low, high, Has, Hold, two, Bit, Width, Within, Side, Same, Whole, Plus, Rat, pow2, root, Root; by the abstract walk. Conditions: numbers of at most 10^8 limbs. vernierref5: zero, Square, Sqrt, Of; vernierlaw5: big, wide, known; by the abstract walk. Conditions: numbers of at most 15 limbs. -/
import Derived.Test.YtocpmekblkfdiaaGreatDoorAq
namespace Go.Proofs.YtocpmekblkfdiaaGreatDoor
open Go.RowKit
set_option linter.unusedSimpArgs false
set_option linter.unusedVariables false
def bb (lo hi : Rat) : BB := ⟨cr lo, cr hi⟩
attribute [go_sem] bb
def hold (p : Int) : Nat := (min (max p 0) 512).toNat
def d_ball_Of : Den := den1 aRat (fun a => a.sz ≤ 1000000000000) fun a => ballV (bb a.q a.q)
set_option maxRecDepth 100000 in
set_option maxHeartbeats 1000000 in
theorem s_ball_Of : Sound Tryz.prog 46 d_ball_Of := by
  refine sound1 (fz := nofz) (l := [(66, d_rat_Norm)]) TT_ok ⟨s_rat_Norm, trivial⟩ mixed Tryz.func46 Tryz.ntmps46 Tryz.results46 Tryz.call46 rfl (by omega) (fun _ => rfl) ?_
  intro a hp ha
  rw [codeK_start]
  simp only [go_sem, d_rat_Norm, Nat.reduceBEq, Nat.reduceBNe, Nat.reduceLT, Nat.reduceLeDiff, Nat.reduceAdd, Nat.reduceSub, Nat.reduceMul, Nat.reduceEqDiff, Int.reduceNeg, Int.reduceAdd, Int.reduceLT, Int.reduceLE, Int.reduceToNat, ↓reduceIte]
  exact ⟨hp, hp, by kernel_rfl⟩
end Go.Proofs.YtocpmekblkfdiaaGreatDoor
namespace Go.Proofs.YtocpmekblkfdiaaGreatDoor
open Go.RowKit
set_option linter.unusedSimpArgs false
set_option linter.unusedVariables false
def isB (a : BB) : Bool := oneB a.lo (cr a.lo.q) && (oneB a.hi (cr a.hi.q) && decide (a.lo.q ≤ a.hi.q))
def hasB (lo hi q : Rat) : Bool := decide (lo ≤ q) && decide (q ≤ hi)
theorem BB.lens {a : BB} {K : Nat} (h : a.sz ≤ K) : a.lo.sz ≤ K ∧ a.hi.sz ≤ K := ⟨Nat.le_trans (Nat.le_max_left _ _) h, Nat.le_trans (Nat.le_max_right _ _) h⟩
def d_ref4_Has : Den := den2 aBall aRat (fun a b => a.sz ≤ 1000000000 ∧ b.sz ≤ 1000000000) fun a b => boolV (hasB a.lo.q a.hi.q b.q)
set_option maxRecDepth 100000 in
set_option maxHeartbeats 1000000 in
theorem s_ref4_Has : Sound Tryz.prog 9 d_ref4_Has := by
  refine sound2 (fz := nofz) (l := [(4, d_ref2_Cmp)]) TT_ok ⟨s_ref2_Cmp, trivial⟩ mixed Tryz.func9 Tryz.ntmps9 Tryz.results9 Tryz.call9 rfl (by omega) (fun _ _ => rfl) ?_
  intro a b hp ha hb
  rw [codeK_start]
  simp only [go_sem, d_ref2_Cmp, Nat.reduceBEq, Nat.reduceBNe, Nat.reduceLT, Nat.reduceLeDiff, Nat.reduceAdd, Nat.reduceSub, Nat.reduceMul, Nat.reduceEqDiff, Int.reduceNeg, Int.reduceAdd, Int.reduceLT, Int.reduceLE, Int.reduceToNat, ↓reduceIte]
  have l := BB.lens hp.1
  refine ⟨⟨by omega, by omega⟩, ?_⟩
  unfold hasB
  split
  · rename_i h1; exact ⟨⟨by omega, by omega⟩, by simp [h1]⟩
  · rename_i h1; simp [h1]
structure II where
  s : Bool
  n : List Nat
def II.z (x : II) : Int := if x.s = true then -(val x.n : Int) else (val x.n : Int)
end Go.Proofs.YtocpmekblkfdiaaGreatDoor
namespace Go.Proofs.YtocpmekblkfdiaaGreatDoor
open Go.RowKit
set_option linter.unusedSimpArgs false
set_option linter.unusedVariables false
end Go.Proofs.YtocpmekblkfdiaaGreatDoor
