/- ball.Of, root.whole, Square, Sqrt, Of by the abstract walk. Conditions: numbers of at most 10^8 limbs. vernierref4: Of, Is, low, high, Has, Hold, two, Bit, Width, Within, Side, Same, Whole, Plus, Rat, pow2, root, Root; by the abstract walk. Conditions: numbers of at most 10^8 limbs. vernierref5: zero, Square, Sqrt, Of; vernierlaw5: big, wide, known; by the abstract walk. Conditions: numbers of at most 15 limbs. -/
import Derived.Test.YtjfaefgabaimaaaGreatAq
namespace Go.Proofs.YtjfaefgabaimaaaGreat
open Go.RowKit
set_option linter.unusedSimpArgs false
set_option linter.unusedVariables false
def bb (lo hi : Rat) : BB := ⟨cr lo, cr hi⟩
def ballOkV (b : BB) (ok : Bool) : AV := .tup [.agg (ballCells b), .cel (.bool ok)]
attribute [go_sem] bb ballOkV
def hold (p : Int) : Nat := (min (max p 0) 512).toNat
theorem hold_le (p : Int) : hold p ≤ 512 := by unfold hold; omega
theorem hold_cast (p : Int) : ((hold p : Nat) : Int) = min (max p 0) 512 := by unfold hold; omega
theorem rs_parts {q : Rat} {K : Nat} (h : rs q ≤ K) : (limbs (nm q)).length ≤ K ∧ (limbs q.den).length ≤ K := ⟨Nat.le_trans (Nat.le_max_left _ _) h, Nat.le_trans (Nat.le_max_right _ _) h⟩
def d_ball_Of : Den := den1 aRat (fun a => a.sz ≤ 1000000000000) fun a => ballV (bb a.q a.q)
set_option maxRecDepth 100000 in
set_option maxHeartbeats 1000000 in
theorem s_ball_Of : Sound Tryz.prog 25 d_ball_Of := by
  refine sound1 (fz := nofz) (l := [(22, d_rat_Norm)]) TT_ok ⟨s_rat_Norm, trivial⟩ mixed Tryz.func25 Tryz.ntmps25 Tryz.results25 Tryz.call25 rfl (by omega) (fun _ => rfl) ?_
  intro a hp ha
  rw [codeK_start]
  simp only [go_sem, d_rat_Norm, Nat.reduceBEq, Nat.reduceBNe, Nat.reduceLT, Nat.reduceLeDiff, Nat.reduceAdd, Nat.reduceSub, Nat.reduceMul, Nat.reduceEqDiff, Int.reduceNeg, Int.reduceAdd, Int.reduceLT, Int.reduceLE, Int.reduceToNat, ↓reduceIte]
  exact ⟨hp, hp, by kernel_rfl⟩
end Go.Proofs.YtjfaefgabaimaaaGreat
namespace Go.Proofs.YtjfaefgabaimaaaGreat
open Go.RowKit
set_option linter.unusedSimpArgs false
set_option linter.unusedVariables false
def sameB (a b : BB) : Bool := decide (a.lo.q = b.lo.q) && decide (a.hi.q = b.hi.q)
theorem BB.lens {a : BB} {K : Nat} (h : a.sz ≤ K) : a.lo.sz ≤ K ∧ a.hi.sz ≤ K := ⟨Nat.le_trans (Nat.le_max_left _ _) h, Nat.le_trans (Nat.le_max_right _ _) h⟩
def sideI (a b : BB) : Int := if a.hi.q < b.lo.q then -1 else if b.hi.q < a.lo.q then 1 else 0
def d_ref4_Of : Den := den1 aRat (fun a => a.sz ≤ 100000000000) fun a => ballV (bb a.q a.q)
set_option maxRecDepth 100000 in
set_option maxHeartbeats 1000000 in
theorem s_ref4_Of : Sound Tryz.prog 40 d_ref4_Of := by
  refine sound1 (fz := nofz) (l := [(30, d_ref2_Norm)]) TT_ok ⟨s_ref2_Norm, trivial⟩ mixed Tryz.func40 Tryz.ntmps40 Tryz.results40 Tryz.call40 rfl (by omega) (fun _ => rfl) ?_
  intro a hp ha
  rw [codeK_start]
  simp only [go_sem, d_ref2_Norm, Nat.reduceBEq, Nat.reduceBNe, Nat.reduceLT, Nat.reduceLeDiff, Nat.reduceAdd, Nat.reduceSub, Nat.reduceMul, Nat.reduceEqDiff, Int.reduceNeg, Int.reduceAdd, Int.reduceLT, Int.reduceLE, Int.reduceToNat, ↓reduceIte]
  exact ⟨hp, hp, by kernel_rfl⟩
def d_ref4_Hold : Den := den1 aInt (fun _ => True) fun p => intV ((hold p : Nat) : Int)
set_option maxRecDepth 100000 in
set_option maxHeartbeats 1000000 in
theorem s_ref4_Hold : Sound Tryz.prog 36 d_ref4_Hold := by
  refine sound1 (fz := nofz) (l := []) TT_ok trivial mixed Tryz.func36 Tryz.ntmps36 Tryz.results36 Tryz.call36 rfl (by omega) (fun _ => rfl) ?_
  intro a hp ha
  rw [codeK_start]
  simp only [go_sem, Nat.reduceBEq, Nat.reduceBNe, Nat.reduceLT, Nat.reduceLeDiff, Nat.reduceAdd, Nat.reduceSub, Nat.reduceMul, Nat.reduceEqDiff, Int.reduceNeg, Int.reduceAdd, Int.reduceLT, Int.reduceLE, Int.reduceToNat, ↓reduceIte]
  exact (hold_cast a).symm
def d_ref4_Side : Den := den2 aBall aBall (fun a b => a.sz ≤ 1000000000 ∧ b.sz ≤ 1000000000) fun a b => intV (sideI a b)
set_option maxRecDepth 100000 in
set_option maxHeartbeats 1000000 in
theorem s_ref4_Side : Sound Tryz.prog 11 d_ref4_Side := by
  refine sound2 (fz := nofz) (l := [(13, d_ref2_Cmp)]) TT_ok ⟨s_ref2_Cmp, trivial⟩ mixed Tryz.func11 Tryz.ntmps11 Tryz.results11 Tryz.call11 rfl (by omega) (fun _ _ => rfl) ?_
  intro a b hp ha hb
  rw [codeK_start]
  simp only [go_sem, d_ref2_Cmp, Nat.reduceBEq, Nat.reduceBNe, Nat.reduceLT, Nat.reduceLeDiff, Nat.reduceAdd, Nat.reduceSub, Nat.reduceMul, Nat.reduceEqDiff, Int.reduceNeg, Int.reduceAdd, Int.reduceLT, Int.reduceLE, Int.reduceToNat, ↓reduceIte]
  have l := BB.lens hp.1
  have m := BB.lens hp.2
  refine ⟨⟨by omega, by omega⟩, ?_⟩
  unfold sideI
  split
  · rfl
  · refine ⟨⟨by omega, by omega⟩, ?_⟩
    split <;> rfl
def d_ref4_Same : Den := den2 aBall aBall (fun a b => a.sz ≤ 1000000000 ∧ b.sz ≤ 1000000000) fun a b => boolV (sameB a b)
set_option maxRecDepth 100000 in
set_option maxHeartbeats 1000000 in
theorem s_ref4_Same : Sound Tryz.prog 44 d_ref4_Same := by
  refine sound2 (fz := nofz) (l := [(54, d_ref2_Same)]) TT_ok ⟨s_ref2_Same, trivial⟩ mixed Tryz.func44 Tryz.ntmps44 Tryz.results44 Tryz.call44 rfl (by omega) (fun _ _ => rfl) ?_
  intro a b hp ha hb
  rw [codeK_start]
  simp only [go_sem, d_ref2_Same, Nat.reduceBEq, Nat.reduceBNe, Nat.reduceLT, Nat.reduceLeDiff, Nat.reduceAdd, Nat.reduceSub, Nat.reduceMul, Nat.reduceEqDiff, Int.reduceNeg, Int.reduceAdd, Int.reduceLT, Int.reduceLE, Int.reduceToNat, ↓reduceIte]
  have l := BB.lens hp.1
  have m := BB.lens hp.2
  refine ⟨⟨by omega, by omega⟩, ?_⟩
  unfold sameB
  split
  · rename_i h1; exact ⟨⟨by omega, by omega⟩, by simp [h1]⟩
  · rename_i h1; simp [h1]
structure II where
  s : Bool
  n : List Nat
def II.z (x : II) : Int := if x.s = true then -(val x.n : Int) else (val x.n : Int)
end Go.Proofs.YtjfaefgabaimaaaGreat
namespace Go.Proofs.YtjfaefgabaimaaaGreat
open Go.RowKit
set_option linter.unusedSimpArgs false
set_option linter.unusedVariables false
end Go.Proofs.YtjfaefgabaimaaaGreat
