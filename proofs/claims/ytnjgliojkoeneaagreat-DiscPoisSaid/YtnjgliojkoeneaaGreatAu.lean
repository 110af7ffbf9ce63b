/- ball.Of, root.whole, Square, Sqrt, Of by the abstract walk. Conditions: numbers of at most 10^8 limbs. vernierref4: Of, Is, low, high, Has, Hold, two, Bit, Width, Within, Side, Same, Whole, Plus, Rat, pow2, root, Root; by the abstract walk. Conditions: numbers of at most 10^8 limbs. vernierref5: zero, Square, Sqrt, Of; vernierlaw5: big, wide, known; by the abstract walk. Conditions: numbers of at most 15 limbs. -/
import Derived.Test.YtnjgliojkoeneaaGreatAq
namespace Go.Proofs.YtnjgliojkoeneaaGreat
open Go.RowKit
set_option linter.unusedSimpArgs false
set_option linter.unusedVariables false
def bb (lo hi : Rat) : BB := ⟨cr lo, cr hi⟩
def ballOkV (b : BB) (ok : Bool) : AV := .tup [.agg (ballCells b), .cel (.bool ok)]
attribute [go_sem] bb ballOkV
def hold (p : Int) : Nat := (min (max p 0) 512).toNat
def sqI (q : Rat) (p : Int) : Nat := rt (nm q * 2 ^ (2 * hold p) / q.den)
theorem hold_le (p : Int) : hold p ≤ 512 := by unfold hold; omega
theorem hold_cast (p : Int) : ((hold p : Nat) : Int) = min (max p 0) 512 := by unfold hold; omega
theorem pow_lim {k m : Nat} (h : k < 32 * m) : 2 ^ k < 4294967296 ^ m := by
  rw [show (4294967296 : Nat) = 2 ^ 32 from rfl, ← Nat.pow_mul]
  exact Nat.pow_lt_pow_right (by omega) h
theorem pow_len {k : Nat} (h : k < 1056) : (limbs (2 ^ k)).length ≤ 33 := limbs_len_le (pow_lim h)
theorem rs_parts {q : Rat} {K : Nat} (h : rs q ≤ K) : (limbs (nm q)).length ≤ K ∧ (limbs q.den).length ≤ K := ⟨Nat.le_trans (Nat.le_max_left _ _) h, Nat.le_trans (Nat.le_max_right _ _) h⟩
def d_ball_Of : Den := den1 aRat (fun a => a.sz ≤ 1000000000000) fun a => ballV (bb a.q a.q)
set_option maxRecDepth 100000 in
set_option maxHeartbeats 1000000 in
theorem s_ball_Of : Sound Tryz.prog 30 d_ball_Of := by
  refine sound1 (fz := nofz) (l := [(27, d_rat_Norm)]) TT_ok ⟨s_rat_Norm, trivial⟩ mixed Tryz.func30 Tryz.ntmps30 Tryz.results30 Tryz.call30 rfl (by omega) (fun _ => rfl) ?_
  intro a hp ha
  rw [codeK_start]
  simp only [go_sem, d_rat_Norm, Nat.reduceBEq, Nat.reduceBNe, Nat.reduceLT, Nat.reduceLeDiff, Nat.reduceAdd, Nat.reduceSub, Nat.reduceMul, Nat.reduceEqDiff, Int.reduceNeg, Int.reduceAdd, Int.reduceLT, Int.reduceLE, Int.reduceToNat, ↓reduceIte]
  exact ⟨hp, hp, by kernel_rfl⟩
end Go.Proofs.YtnjgliojkoeneaaGreat
namespace Go.Proofs.YtnjgliojkoeneaaGreat
open Go.RowKit
set_option linter.unusedSimpArgs false
set_option linter.unusedVariables false
def isB (a : BB) : Bool := oneB a.lo (cr a.lo.q) && (oneB a.hi (cr a.hi.q) && decide (a.lo.q ≤ a.hi.q))
theorem BB.lens {a : BB} {K : Nat} (h : a.sz ≤ K) : a.lo.sz ≤ K ∧ a.hi.sz ≤ K := ⟨Nat.le_trans (Nat.le_max_left _ _) h, Nat.le_trans (Nat.le_max_right _ _) h⟩
theorem shiftN_nat {p : Int} (h : 0 ≤ p) (m : Nat) : shiftN m p = m * 2 ^ p.toNat := by unfold shiftN; rw [if_pos h]
def sideI (a b : BB) : Int := if a.hi.q < b.lo.q then -1 else if b.hi.q < a.lo.q then 1 else 0
def d_ref4_Of : Den := den1 aRat (fun a => a.sz ≤ 100000000000) fun a => ballV (bb a.q a.q)
set_option maxRecDepth 100000 in
set_option maxHeartbeats 1000000 in
theorem s_ref4_Of : Sound Tryz.prog 11 d_ref4_Of := by
  refine sound1 (fz := nofz) (l := [(39, d_ref2_Norm)]) TT_ok ⟨s_ref2_Norm, trivial⟩ mixed Tryz.func11 Tryz.ntmps11 Tryz.results11 Tryz.call11 rfl (by omega) (fun _ => rfl) ?_
  intro a hp ha
  rw [codeK_start]
  simp only [go_sem, d_ref2_Norm, Nat.reduceBEq, Nat.reduceBNe, Nat.reduceLT, Nat.reduceLeDiff, Nat.reduceAdd, Nat.reduceSub, Nat.reduceMul, Nat.reduceEqDiff, Int.reduceNeg, Int.reduceAdd, Int.reduceLT, Int.reduceLE, Int.reduceToNat, ↓reduceIte]
  exact ⟨hp, hp, by kernel_rfl⟩
def d_ref4_Is : Den := den1 aBall (fun a => a.sz ≤ 1000000000) fun a => boolV (isB a)
set_option maxRecDepth 100000 in
set_option maxHeartbeats 1000000 in
theorem s_ref4_Is : Sound Tryz.prog 18 d_ref4_Is := by
  refine sound1 (fz := nofz) (l := [(49, d_ref2_Is), (19, d_ref2_Cmp)]) TT_ok ⟨s_ref2_Is, s_ref2_Cmp, trivial⟩ mixed Tryz.func18 Tryz.ntmps18 Tryz.results18 Tryz.call18 rfl (by omega) (fun _ => rfl) ?_
  intro a hp ha
  rw [codeK_start]
  simp only [go_sem, d_ref2_Is, d_ref2_Cmp, Nat.reduceBEq, Nat.reduceBNe, Nat.reduceLT, Nat.reduceLeDiff, Nat.reduceAdd, Nat.reduceSub, Nat.reduceMul, Nat.reduceEqDiff, Int.reduceNeg, Int.reduceAdd, Int.reduceLT, Int.reduceLE, Int.reduceToNat, ↓reduceIte]
  have l := BB.lens hp
  refine ⟨by omega, ?_⟩
  unfold isB
  split
  · rename_i h1
    refine ⟨by omega, ?_⟩
    split
    · rename_i h2
      exact ⟨⟨by omega, by omega⟩, by rw [h1, h2]; rfl⟩
    · rename_i h2; rw [Bool.not_eq_true] at h2; rw [h2]; simp
  · rename_i h1; rw [Bool.not_eq_true] at h1; rw [h1]; rfl
def d_ref4_Hold : Den := den1 aInt (fun _ => True) fun p => intV ((hold p : Nat) : Int)
set_option maxRecDepth 100000 in
set_option maxHeartbeats 1000000 in
theorem s_ref4_Hold : Sound Tryz.prog 22 d_ref4_Hold := by
  refine sound1 (fz := nofz) (l := []) TT_ok trivial mixed Tryz.func22 Tryz.ntmps22 Tryz.results22 Tryz.call22 rfl (by omega) (fun _ => rfl) ?_
  intro a hp ha
  rw [codeK_start]
  simp only [go_sem, Nat.reduceBEq, Nat.reduceBNe, Nat.reduceLT, Nat.reduceLeDiff, Nat.reduceAdd, Nat.reduceSub, Nat.reduceMul, Nat.reduceEqDiff, Int.reduceNeg, Int.reduceAdd, Int.reduceLT, Int.reduceLE, Int.reduceToNat, ↓reduceIte]
  exact (hold_cast a).symm
def d_ref4_Bit : Den := den1 aInt (fun p => 0 ≤ p ∧ p ≤ 1000) fun p => ratV (cr (qv false 1 (2 ^ p.toNat)))
set_option maxRecDepth 100000 in
set_option maxHeartbeats 1000000 in
theorem s_ref4_Bit : Sound Tryz.prog 21 d_ref4_Bit := by
  refine sound1 (fz := nofz) (l := [(51, d_ref1_Shift), (24, d_ref2_Of)]) TT_ok ⟨s_ref1_Shift, s_ref2_Of, trivial⟩ mixed Tryz.func21 Tryz.ntmps21 Tryz.results21 Tryz.call21 rfl (by omega) (fun _ => rfl) ?_
  intro a hp ha
  rw [codeK_start]
  simp only [go_sem, d_ref1_Shift, d_ref2_Of, Nat.reduceBEq, Nat.reduceBNe, Nat.reduceLT, Nat.reduceLeDiff, Nat.reduceAdd, Nat.reduceSub, Nat.reduceMul, Nat.reduceEqDiff, Int.reduceNeg, Int.reduceAdd, Int.reduceLT, Int.reduceLE, Int.reduceToNat, ↓reduceIte]
  rw [shiftN_nat hp.1, Nat.one_mul]
  have := pow_len (k := a.toNat) (by omega)
  exact ⟨⟨by omega, by omega⟩, by omega, rfl, rfl, rfl⟩
def d_ref4_Width : Den := den1 aBall (fun a => a.sz ≤ 1000000000) fun a => ratV (cr (a.hi.q - a.lo.q))
set_option maxRecDepth 100000 in
set_option maxHeartbeats 1000000 in
theorem s_ref4_Width : Sound Tryz.prog 20 d_ref4_Width := by
  refine sound1 (fz := nofz) (l := [(50, d_ref2_Sub)]) TT_ok ⟨s_ref2_Sub, trivial⟩ mixed Tryz.func20 Tryz.ntmps20 Tryz.results20 Tryz.call20 rfl (by omega) (fun _ => rfl) ?_
  intro a hp ha
  rw [codeK_start]
  simp only [go_sem, d_ref2_Sub, Nat.reduceBEq, Nat.reduceBNe, Nat.reduceLT, Nat.reduceLeDiff, Nat.reduceAdd, Nat.reduceSub, Nat.reduceMul, Nat.reduceEqDiff, Int.reduceNeg, Int.reduceAdd, Int.reduceLT, Int.reduceLE, Int.reduceToNat, ↓reduceIte]
  have l := BB.lens hp
  exact ⟨by omega, by omega⟩
def d_ref4_Side : Den := den2 aBall aBall (fun a b => a.sz ≤ 1000000000 ∧ b.sz ≤ 1000000000) fun a b => intV (sideI a b)
set_option maxRecDepth 100000 in
set_option maxHeartbeats 1000000 in
theorem s_ref4_Side : Sound Tryz.prog 23 d_ref4_Side := by
  refine sound2 (fz := nofz) (l := [(19, d_ref2_Cmp)]) TT_ok ⟨s_ref2_Cmp, trivial⟩ mixed Tryz.func23 Tryz.ntmps23 Tryz.results23 Tryz.call23 rfl (by omega) (fun _ _ => rfl) ?_
  intro a b hp ha hb
  rw [codeK_start]
  simp only [go_sem, d_ref2_Cmp, Nat.reduceBEq, Nat.reduceBNe, Nat.reduceLT, Nat.reduceLeDiff, Nat.reduceAdd, Nat.reduceSub, Nat.reduceMul, Nat.reduceEqDiff, Int.reduceNeg, Int.reduceAdd, Int.reduceLT, Int.reduceLE, Int.reduceToNat, ↓reduceIte]
  have l := BB.lens hp.1
  have m := BB.lens hp.2
  refine ⟨⟨by omega, by omega⟩, ?_⟩
  unfold sideI
  split
  · rfl
  · refine ⟨⟨by omega, by omega⟩, ?_⟩
    split <;> rfl
structure II where
  s : Bool
  n : List Nat
def II.z (x : II) : Int := if x.s = true then -(val x.n : Int) else (val x.n : Int)
end Go.Proofs.YtnjgliojkoeneaaGreat
namespace Go.Proofs.YtnjgliojkoeneaaGreat
open Go.RowKit
set_option linter.unusedSimpArgs false
set_option linter.unusedVariables false
end Go.Proofs.YtnjgliojkoeneaaGreat
