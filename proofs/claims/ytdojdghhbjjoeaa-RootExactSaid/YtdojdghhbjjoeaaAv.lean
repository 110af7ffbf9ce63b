/- vernierref4: Of, Is, low, high, Has, Hold, two, Bit, Width, Within, Side, Same, Whole, Plus, Rat, pow2, root, Root; by the abstract walk. Conditions: numbers of at most 10^8 limbs. -/
import Derived.Test.YtdojdghhbjjoeaaAu
namespace Go.Proofs.Ytdojdghhbjjoeaa
open Go.RowKit
set_option linter.unusedSimpArgs false
set_option linter.unusedVariables false

def intCells (n : Int) : List CV := [.bool (decide (n < 0)), .lim none (limbs n.natAbs)]
def sameB (a b : BB) : Bool := decide (a.lo.q = b.lo.q) && decide (a.hi.q = b.hi.q)
def isB (a : BB) : Bool := oneB a.lo (cr a.lo.q) && (oneB a.hi (cr a.hi.q) && decide (a.lo.q ≤ a.hi.q))
def hasB (lo hi q : Rat) : Bool := decide (lo ≤ q) && decide (q ≤ hi)
theorem BB.lens {a : BB} {K : Nat} (h : a.sz ≤ K) : a.lo.sz ≤ K ∧ a.hi.sz ≤ K := ⟨Nat.le_trans (Nat.le_max_left _ _) h, Nat.le_trans (Nat.le_max_right _ _) h⟩
theorem shiftN_nat {p : Int} (h : 0 ≤ p) (m : Nat) : shiftN m p = m * 2 ^ p.toNat := by unfold shiftN; rw [if_pos h]
def lowR (a b : RR) : RR := if a.q ≤ b.q then a else b
def highR (a b : RR) : RR := if b.q ≤ a.q then a else b
def wholeV (n : Int) : AV := .one (.agg (intCells n))
attribute [go_sem] wholeV intCells
def sideI (a b : BB) : Int := if a.hi.q < b.lo.q then -1 else if b.hi.q < a.lo.q then 1 else 0

def d_ref4_Of : Den := den1 aRat (fun a => a.sz ≤ 100000000000) fun a => ballV (bb a.q a.q)
set_option maxRecDepth 100000 in
set_option maxHeartbeats 1000000 in
theorem s_ref4_Of : Sound Try.prog 43 d_ref4_Of := by
  refine sound1 (fz := nofz) (l := [(22, d_ref2_Norm)]) TT_ok ⟨s_ref2_Norm, trivial⟩ mixed Try.func43 Try.ntmps43 Try.results43 Try.call43 rfl (by omega) (fun _ => rfl) ?_
  intro a hp ha
  rw [codeK_start]
  simp only [go_sem, d_ref2_Norm, Nat.reduceBEq, Nat.reduceBNe, Nat.reduceLT, Nat.reduceLeDiff, Nat.reduceAdd, Nat.reduceSub, Nat.reduceMul, Nat.reduceEqDiff, Int.reduceNeg, Int.reduceAdd, Int.reduceLT, Int.reduceLE, Int.reduceToNat, ↓reduceIte]
  exact ⟨hp, hp, by kernel_rfl⟩

def d_ref4_Is : Den := den1 aBall (fun a => a.sz ≤ 1000000000) fun a => boolV (isB a)
set_option maxRecDepth 100000 in
set_option maxHeartbeats 1000000 in
theorem s_ref4_Is : Sound Try.prog 96 d_ref4_Is := by
  refine sound1 (fz := nofz) (l := [(53, d_ref2_Is), (36, d_ref2_Cmp)]) TT_ok ⟨s_ref2_Is, s_ref2_Cmp, trivial⟩ mixed Try.func96 Try.ntmps96 Try.results96 Try.call96 rfl (by omega) (fun _ => rfl) ?_
  intro a hp ha
  rw [codeK_start]
  simp only [go_sem, d_ref2_Is, d_ref2_Cmp, Nat.reduceBEq, Nat.reduceBNe, Nat.reduceLT, Nat.reduceLeDiff, Nat.reduceAdd, Nat.reduceSub, Nat.reduceMul, Nat.reduceEqDiff, Int.reduceNeg, Int.reduceAdd, Int.reduceLT, Int.reduceLE, Int.reduceToNat, ↓reduceIte]
  have l := BB.lens hp
  refine ⟨by omega, ?_⟩
  unfold isB
  split
  · rename_i h1
    refine ⟨by omega, ?_⟩
    split
    · rename_i h2
      exact ⟨⟨by omega, by omega⟩, by rw [h1, h2]; rfl⟩
    · rename_i h2; rw [Bool.not_eq_true] at h2; rw [h2]; simp
  · rename_i h1; rw [Bool.not_eq_true] at h1; rw [h1]; rfl

def d_ref4_Has : Den := den2 aBall aRat (fun a b => a.sz ≤ 1000000000 ∧ b.sz ≤ 1000000000) fun a b => boolV (hasB a.lo.q a.hi.q b.q)
set_option maxRecDepth 100000 in
set_option maxHeartbeats 1000000 in
theorem s_ref4_Has : Sound Try.prog 90 d_ref4_Has := by
  refine sound2 (fz := nofz) (l := [(36, d_ref2_Cmp)]) TT_ok ⟨s_ref2_Cmp, trivial⟩ mixed Try.func90 Try.ntmps90 Try.results90 Try.call90 rfl (by omega) (fun _ _ => rfl) ?_
  intro a b hp ha hb
  rw [codeK_start]
  simp only [go_sem, d_ref2_Cmp, Nat.reduceBEq, Nat.reduceBNe, Nat.reduceLT, Nat.reduceLeDiff, Nat.reduceAdd, Nat.reduceSub, Nat.reduceMul, Nat.reduceEqDiff, Int.reduceNeg, Int.reduceAdd, Int.reduceLT, Int.reduceLE, Int.reduceToNat, ↓reduceIte]
  have l := BB.lens hp.1
  refine ⟨⟨by omega, by omega⟩, ?_⟩
  unfold hasB
  split
  · rename_i h1; exact ⟨⟨by omega, by omega⟩, by simp [h1]⟩
  · rename_i h1; simp [h1]

def d_ref4_Hold : Den := den1 aInt (fun _ => True) fun p => intV ((hold p : Nat) : Int)
set_option maxRecDepth 100000 in
set_option maxHeartbeats 1000000 in
theorem s_ref4_Hold : Sound Try.prog 97 d_ref4_Hold := by
  refine sound1 (fz := nofz) (l := []) TT_ok trivial mixed Try.func97 Try.ntmps97 Try.results97 Try.call97 rfl (by omega) (fun _ => rfl) ?_
  intro a hp ha
  rw [codeK_start]
  simp only [go_sem, Nat.reduceBEq, Nat.reduceBNe, Nat.reduceLT, Nat.reduceLeDiff, Nat.reduceAdd, Nat.reduceSub, Nat.reduceMul, Nat.reduceEqDiff, Int.reduceNeg, Int.reduceAdd, Int.reduceLT, Int.reduceLE, Int.reduceToNat, ↓reduceIte]
  exact (hold_cast a).symm

def d_ref4_Bit : Den := den1 aInt (fun p => 0 ≤ p ∧ p ≤ 1000) fun p => ratV (cr (qv false 1 (2 ^ p.toNat)))
set_option maxRecDepth 100000 in
set_option maxHeartbeats 1000000 in
theorem s_ref4_Bit : Sound Try.prog 38 d_ref4_Bit := by
  refine sound1 (fz := nofz) (l := [(85, d_ref1_Shift), (84, d_ref2_Of)]) TT_ok ⟨s_ref1_Shift, s_ref2_Of, trivial⟩ mixed Try.func38 Try.ntmps38 Try.results38 Try.call38 rfl (by omega) (fun _ => rfl) ?_
  intro a hp ha
  rw [codeK_start]
  simp only [go_sem, d_ref1_Shift, d_ref2_Of, Nat.reduceBEq, Nat.reduceBNe, Nat.reduceLT, Nat.reduceLeDiff, Nat.reduceAdd, Nat.reduceSub, Nat.reduceMul, Nat.reduceEqDiff, Int.reduceNeg, Int.reduceAdd, Int.reduceLT, Int.reduceLE, Int.reduceToNat, ↓reduceIte]
  rw [shiftN_nat hp.1, Nat.one_mul]
  have := pow_len (k := a.toNat) (by omega)
  exact ⟨⟨by omega, by omega⟩, by omega, rfl, rfl, rfl⟩

def d_ref4_Width : Den := den1 aBall (fun a => a.sz ≤ 1000000000) fun a => ratV (cr (a.hi.q - a.lo.q))
set_option maxRecDepth 100000 in
set_option maxHeartbeats 1000000 in
theorem s_ref4_Width : Sound Try.prog 37 d_ref4_Width := by
  refine sound1 (fz := nofz) (l := [(67, d_ref2_Sub)]) TT_ok ⟨s_ref2_Sub, trivial⟩ mixed Try.func37 Try.ntmps37 Try.results37 Try.call37 rfl (by omega) (fun _ => rfl) ?_
  intro a hp ha
  rw [codeK_start]
  simp only [go_sem, d_ref2_Sub, Nat.reduceBEq, Nat.reduceBNe, Nat.reduceLT, Nat.reduceLeDiff, Nat.reduceAdd, Nat.reduceSub, Nat.reduceMul, Nat.reduceEqDiff, Int.reduceNeg, Int.reduceAdd, Int.reduceLT, Int.reduceLE, Int.reduceToNat, ↓reduceIte]
  have l := BB.lens hp
  exact ⟨by omega, by omega⟩

def d_ref4_Within : Den := den2 aBall aBall (fun a b => a.sz ≤ 1000000000 ∧ b.sz ≤ 1000000000) fun a b => boolV (hasB b.lo.q b.hi.q a.lo.q && hasB b.lo.q b.hi.q a.hi.q)
set_option maxRecDepth 100000 in
set_option maxHeartbeats 1000000 in
theorem s_ref4_Within : Sound Try.prog 47 d_ref4_Within := by
  refine sound2 (fz := nofz) (l := [(90, d_ref4_Has)]) TT_ok ⟨s_ref4_Has, trivial⟩ mixed Try.func47 Try.ntmps47 Try.results47 Try.call47 rfl (by omega) (fun _ _ => rfl) ?_
  intro a b hp ha hb
  rw [codeK_start]
  simp only [go_sem, d_ref4_Has, Nat.reduceBEq, Nat.reduceBNe, Nat.reduceLT, Nat.reduceLeDiff, Nat.reduceAdd, Nat.reduceSub, Nat.reduceMul, Nat.reduceEqDiff, Int.reduceNeg, Int.reduceAdd, Int.reduceLT, Int.reduceLE, Int.reduceToNat, ↓reduceIte]
  have l := BB.lens hp.1
  have m := BB.lens hp.2
  refine ⟨⟨by omega, by omega⟩, ?_⟩
  split
  · rename_i h1; exact ⟨⟨by omega, by omega⟩, by rw [h1]; rfl⟩
  · rename_i h1; rw [Bool.not_eq_true] at h1; rw [h1]; rfl

def d_ref4_Side : Den := den2 aBall aBall (fun a b => a.sz ≤ 1000000000 ∧ b.sz ≤ 1000000000) fun a b => intV (sideI a b)
set_option maxRecDepth 100000 in
set_option maxHeartbeats 1000000 in
theorem s_ref4_Side : Sound Try.prog 45 d_ref4_Side := by
  refine sound2 (fz := nofz) (l := [(36, d_ref2_Cmp)]) TT_ok ⟨s_ref2_Cmp, trivial⟩ mixed Try.func45 Try.ntmps45 Try.results45 Try.call45 rfl (by omega) (fun _ _ => rfl) ?_
  intro a b hp ha hb
  rw [codeK_start]
  simp only [go_sem, d_ref2_Cmp, Nat.reduceBEq, Nat.reduceBNe, Nat.reduceLT, Nat.reduceLeDiff, Nat.reduceAdd, Nat.reduceSub, Nat.reduceMul, Nat.reduceEqDiff, Int.reduceNeg, Int.reduceAdd, Int.reduceLT, Int.reduceLE, Int.reduceToNat, ↓reduceIte]
  have l := BB.lens hp.1
  have m := BB.lens hp.2
  refine ⟨⟨by omega, by omega⟩, ?_⟩
  unfold sideI
  split
  · rfl
  · refine ⟨⟨by omega, by omega⟩, ?_⟩
    split <;> rfl

def d_ref4_Same : Den := den2 aBall aBall (fun a b => a.sz ≤ 1000000000 ∧ b.sz ≤ 1000000000) fun a b => boolV (sameB a b)
set_option maxRecDepth 100000 in
set_option maxHeartbeats 1000000 in
theorem s_ref4_Same : Sound Try.prog 42 d_ref4_Same := by
  refine sound2 (fz := nofz) (l := [(41, d_ref2_Same)]) TT_ok ⟨s_ref2_Same, trivial⟩ mixed Try.func42 Try.ntmps42 Try.results42 Try.call42 rfl (by omega) (fun _ _ => rfl) ?_
  intro a b hp ha hb
  rw [codeK_start]
  simp only [go_sem, d_ref2_Same, Nat.reduceBEq, Nat.reduceBNe, Nat.reduceLT, Nat.reduceLeDiff, Nat.reduceAdd, Nat.reduceSub, Nat.reduceMul, Nat.reduceEqDiff, Int.reduceNeg, Int.reduceAdd, Int.reduceLT, Int.reduceLE, Int.reduceToNat, ↓reduceIte]
  have l := BB.lens hp.1
  have m := BB.lens hp.2
  refine ⟨⟨by omega, by omega⟩, ?_⟩
  unfold sameB
  split
  · rename_i h1; exact ⟨⟨by omega, by omega⟩, by simp [h1]⟩
  · rename_i h1; simp [h1]

def d_ref4_pow2 : Den := den1 aInt (fun p => 0 ≤ p ∧ p ≤ 1000) fun p => natV (2 ^ p.toNat)
set_option maxRecDepth 100000 in
set_option maxHeartbeats 1000000 in
theorem s_ref4_pow2 : Sound Try.prog 112 d_ref4_pow2 := by
  refine sound1 (fz := nofz) (l := [(85, d_ref1_Shift)]) TT_ok ⟨s_ref1_Shift, trivial⟩ mixed Try.func112 Try.ntmps112 Try.results112 Try.call112 rfl (by omega) (fun _ => rfl) ?_
  intro a hp ha
  rw [codeK_start]
  simp only [go_sem, d_ref1_Shift, Nat.reduceBEq, Nat.reduceBNe, Nat.reduceLT, Nat.reduceLeDiff, Nat.reduceAdd, Nat.reduceSub, Nat.reduceMul, Nat.reduceEqDiff, Int.reduceNeg, Int.reduceAdd, Int.reduceLT, Int.reduceLE, Int.reduceToNat, ↓reduceIte]
  rw [shiftN_nat hp.1, Nat.one_mul]
  exact ⟨⟨by omega, by omega⟩, rfl⟩

def d_ref4_Whole : Den := den1 aInt (fun n => -9223372036854775807 ≤ n ∧ n ≤ 9223372036854775807) fun n => wholeV n
set_option maxRecDepth 100000 in
set_option maxHeartbeats 1000000 in
theorem s_ref4_Whole : Sound Try.prog 101 d_ref4_Whole := by
  refine sound1 (fz := nofz) (l := [(95, d_ref1_Of)]) TT_ok ⟨s_ref1_Of, trivial⟩ mixed Try.func101 Try.ntmps101 Try.results101 Try.call101 rfl (by omega) (fun _ => rfl) ?_
  intro a hp ha
  rw [codeK_start]
  simp only [go_sem, d_ref1_Of, Nat.reduceBEq, Nat.reduceBNe, Nat.reduceLT, Nat.reduceLeDiff, Nat.reduceAdd, Nat.reduceSub, Nat.reduceMul, Nat.reduceEqDiff, Int.reduceNeg, Int.reduceAdd, Int.reduceLT, Int.reduceLE, Int.reduceToNat, ↓reduceIte]
  split
  · rename_i h
    rw [IntWalk.u64_in _ ⟨by omega, by omega⟩]
    exact ⟨⟨by omega, by omega⟩, by omega, (decide_eq_true h).symm, by congr 1; omega⟩
  · rename_i h
    rw [IntWalk.u64_in _ ⟨by omega, by omega⟩]
    exact ⟨by omega, (decide_eq_false h).symm, by congr 1; omega⟩

def d_ref4_low : Den := den2 aRat aRat (fun a b => a.sz ≤ 1000000000 ∧ b.sz ≤ 1000000000) fun a b => ratV (lowR a b)
set_option maxRecDepth 100000 in
set_option maxHeartbeats 1000000 in
theorem s_ref4_low : Sound Try.prog 88 d_ref4_low := by
  refine sound2 (fz := nofz) (l := [(36, d_ref2_Cmp)]) TT_ok ⟨s_ref2_Cmp, trivial⟩ mixed Try.func88 Try.ntmps88 Try.results88 Try.call88 rfl (by omega) (fun _ _ => rfl) ?_
  intro a b hp ha hb
  rw [codeK_start]
  simp only [go_sem, d_ref2_Cmp, Nat.reduceBEq, Nat.reduceBNe, Nat.reduceLT, Nat.reduceLeDiff, Nat.reduceAdd, Nat.reduceSub, Nat.reduceMul, Nat.reduceEqDiff, Int.reduceNeg, Int.reduceAdd, Int.reduceLT, Int.reduceLE, Int.reduceToNat, ↓reduceIte]
  unfold lowR
  refine ⟨⟨by omega, by omega⟩, ?_⟩
  split
  · exact ⟨rfl, rfl, rfl⟩
  · exact ⟨rfl, rfl, rfl⟩

def d_ref4_high : Den := den2 aRat aRat (fun a b => a.sz ≤ 1000000000 ∧ b.sz ≤ 1000000000) fun a b => ratV (highR a b)
set_option maxRecDepth 100000 in
set_option maxHeartbeats 1000000 in
theorem s_ref4_high : Sound Try.prog 89 d_ref4_high := by
  refine sound2 (fz := nofz) (l := [(36, d_ref2_Cmp)]) TT_ok ⟨s_ref2_Cmp, trivial⟩ mixed Try.func89 Try.ntmps89 Try.results89 Try.call89 rfl (by omega) (fun _ _ => rfl) ?_
  intro a b hp ha hb
  rw [codeK_start]
  simp only [go_sem, d_ref2_Cmp, Nat.reduceBEq, Nat.reduceBNe, Nat.reduceLT, Nat.reduceLeDiff, Nat.reduceAdd, Nat.reduceSub, Nat.reduceMul, Nat.reduceEqDiff, Int.reduceNeg, Int.reduceAdd, Int.reduceLT, Int.reduceLE, Int.reduceToNat, ↓reduceIte]
  unfold highR
  refine ⟨⟨by omega, by omega⟩, ?_⟩
  split
  · exact ⟨rfl, rfl, rfl⟩
  · exact ⟨rfl, rfl, rfl⟩

def intV4 (s : Bool) (n : Nat) : AV := .one (.agg [.bool s, .lim none (limbs n)])
structure II where
  s : Bool
  n : List Nat
def iiV (x : II) : AV := .one (.agg [.bool x.s, .lim none x.n])
def paII : AV → Option II
  | .one (.agg [.bool s, x]) => match x.lims with
    | some n => some ⟨s, n⟩
    | none => none
  | _ => none
def aII : Arg II where
  pa := paII
  un := iiV
  va := fun x => limOk x.n
  ok := by
    intro v x h X w u hu
    unfold paII at h
    split at h
    · rename_i s y
      split at h
      · rename_i n hn
        cases h
        obtain ⟨vs, rfl, hl⟩ := hu
        obtain ⟨u1, u2, rfl, g1, g2⟩ := hl.two
        exact ⟨_, rfl, .cons g1 (.cons (by simpa only [CV.P] using CV.lims_P hn g2) .nil)⟩
      · cases h
    · cases h
  st := fun _ => rfl
  vd := fun x X w u hu => by
    obtain ⟨vs, rfl, hl⟩ := hu
    obtain ⟨u1, u2, rfl, g1, g2⟩ := hl.two
    exact limV_ok (X := X) (w := w) (v := u2) g2
attribute [go_sem] aII iiV paII intV4
def II.z (x : II) : Int := if x.s = true then -(val x.n : Int) else (val x.n : Int)

def d_ref4_Rat : Den := den2 aII aInt (fun a p => a.n.length ≤ 1000000000 ∧ 0 ≤ p ∧ p ≤ 1000) fun a p => ratV (cr (qv a.s (val a.n) (2 ^ p.toNat)))
set_option maxRecDepth 100000 in
set_option maxHeartbeats 1000000 in
theorem s_ref4_Rat : Sound Try.prog 99 d_ref4_Rat := by
  refine sound2 (fz := nofz) (l := [(112, d_ref4_pow2), (84, d_ref2_Of)]) TT_ok ⟨s_ref4_pow2, s_ref2_Of, trivial⟩ mixed Try.func99 Try.ntmps99 Try.results99 Try.call99 rfl (by omega) (fun _ _ => rfl) ?_
  intro a b hp ha hb
  rw [codeK_start]
  simp only [go_sem, d_ref4_pow2, d_ref2_Of, Nat.reduceBEq, Nat.reduceBNe, Nat.reduceLT, Nat.reduceLeDiff, Nat.reduceAdd, Nat.reduceSub, Nat.reduceMul, Nat.reduceEqDiff, Int.reduceNeg, Int.reduceAdd, Int.reduceLT, Int.reduceLE, Int.reduceToNat, ↓reduceIte]
  have := pow_len (k := b.toNat) (by omega)
  exact ⟨⟨by omega, by omega⟩, ⟨by omega, by omega⟩, by kernel_rfl⟩

def d_ref4_Plus : Den := den2 aII aII (fun a b => a.n.length ≤ 1000000000 ∧ b.n.length ≤ 1000000000 ∧ a.s = false ∧ b.s = false) fun a b => intV4 false (val a.n + val b.n)
set_option maxRecDepth 100000 in
set_option maxHeartbeats 1000000 in
theorem s_ref4_Plus : Sound Try.prog 100 d_ref4_Plus := by
  refine sound2 (fz := nofz) (l := [(31, d_ref1_Add), (34, d_ref1_Cmp), (91, d_ref1_Sub)]) TT_ok ⟨s_ref1_Add, s_ref1_Cmp, s_ref1_Sub, trivial⟩ mixed Try.func100 Try.ntmps100 Try.results100 Try.call100 rfl (by omega) (fun _ _ => rfl) ?_
  intro a b hp ha hb
  rw [codeK_start]
  simp only [go_sem, d_ref1_Add, d_ref1_Cmp, d_ref1_Sub, hp.2.2.1, hp.2.2.2, Nat.reduceBEq, Nat.reduceBNe, Nat.reduceLT, Nat.reduceLeDiff, Nat.reduceAdd, Nat.reduceSub, Nat.reduceMul, Nat.reduceEqDiff, Int.reduceNeg, Int.reduceAdd, Int.reduceLT, Int.reduceLE, Int.reduceToNat, ↓reduceIte]
  rw [if_pos (by rfl)]
  exact ⟨⟨by omega, by omega⟩, by kernel_rfl⟩

theorem RVle_nil : RVle (.av (.one (.cel .nil))) (.av (limV [])) := fun _ _ _ _ _ _ _ h => ⟨h.1, h.2.1, AV.fit_G (x := .one (.cel .nil)) (y := limV []) rfl h.2.2⟩
theorem rt_lt {n b k : Nat} (h : n < 2 ^ b) (hk : b ≤ 2 * k) : rt n < 2 ^ k := by
  obtain ⟨k1, _⟩ := rt_spec n
  rcases Nat.lt_or_ge (rt n) (2 ^ k) with h1 | h1
  · exact h1
  · have h2 := Nat.mul_le_mul h1 h1
    have h3 : 2 ^ b ≤ 2 ^ (2 * k) := Nat.pow_le_pow_right (by omega) hk
    rw [Nat.two_mul, Nat.pow_add] at h3
    omega
theorem blen_le_lim {xs : List Nat} (h : limOk xs) : blen (val xs) ≤ 32 * xs.length := by
  rcases Nat.eq_zero_or_pos (val xs) with h0 | h0
  · rw [h0, blen_zero]; omega
  · have h1 := blen_le (m := val xs) (by omega)
    have h2 : val xs < 4294967296 ^ xs.length := val_lt h
    rw [show (4294967296 : Nat) = 2 ^ 32 from rfl, ← Nat.pow_mul] at h2
    have := (Nat.pow_lt_pow_iff_right (show 1 < 2 by omega)).1 (Nat.lt_of_le_of_lt h1 h2)
    omega

def d_ref4_root : Den := den1 aLim (fun a => a.length ≤ 60) fun a => natV (rt (val a))
set_option maxRecDepth 100000 in
set_option maxHeartbeats 1000000 in
theorem s_ref4_root : Sound Try.prog 102 d_ref4_root := by
  refine sound1 (fz := nofz) (l := [(113, d_ref1_Bits), (112, d_ref4_pow2), (31, d_ref1_Add), (35, d_ref1_Mul), (34, d_ref1_Cmp)]) TT_ok ⟨s_ref1_Bits, s_ref4_pow2, s_ref1_Add, s_ref1_Mul, s_ref1_Cmp, trivial⟩ mixed Try.func102 Try.ntmps102 Try.results102 Try.call102 rfl (by omega) (fun _ => rfl) ?_
  intro a hp ha
  rw [codeK_start]
  simp only [go_sem, d_ref1_Bits, d_ref4_pow2, d_ref1_Add, d_ref1_Mul, d_ref1_Cmp, Nat.reduceBEq, Nat.reduceBNe, Nat.reduceLT, Nat.reduceLeDiff, Nat.reduceAdd, Nat.reduceSub, Nat.reduceMul, Nat.reduceEqDiff, Int.reduceNeg, Int.reduceAdd, Int.reduceLT, Int.reduceLE, Int.reduceToNat, ↓reduceIte]
  have hb := blen_le_lim ha
  have hlen := limbs_len_val (xs := a) ha
  generalize hn : val a = n at *
  have e1 : (((blen n : Nat) : Int) + 1).tdiv 2 = (((blen n + 1) / 2 : Nat) : Int) := by rw [Int.tdiv_eq_ediv_of_nonneg (by omega)]; omega
  rw [e1]
  have hst : rt n < 0 + 2 ^ ((blen n + 1) / 2 + 1) := by rw [Nat.zero_add]; exact rt_lt (blen_lt n) (by omega)
  refine ⟨by omega, ⟨by omega, by omega⟩, ⟨by omega, by omega, by omega⟩, ?_⟩
  refine codeK_loop (fun x : { x : Nat × Nat // x.1 ≤ 962 ∧ x.2 ≤ rt n ∧ rt n < x.2 + 2 ^ x.1 } => [(4, 0, .av (intV ((x.1.1 : Nat) - 1 : Int))), (3, 0, .av (limV (limbs x.1.2))), (0, 0, .av (limV a))]) (fun x => x.1.1) ⟨((blen n + 1) / 2 + 1, 0), by omega, by omega, hst⟩ (le_ofW ?_) ?_
  · simp only [go_sem, leW, Nat.reduceBEq, Nat.reduceBNe, Nat.reduceLT, Nat.reduceLeDiff, Nat.reduceAdd, Nat.reduceSub, Nat.reduceMul, Nat.reduceEqDiff, Int.reduceNeg, Int.reduceAdd, Int.reduceLT, Int.reduceLE, Int.reduceToNat, ↓reduceIte]
    refine ⟨⟨_, rfl, RVle.of_eq ?_⟩, ⟨_, rfl, RVle_nil⟩, _, rfl, RVle.refl _⟩
    rw [show (((blen n + 1) / 2 + 1 : Nat) : Int) - 1 = (((blen n + 1) / 2 : Nat) : Int) by omega]
  · rintro ⟨⟨j, r⟩, h1, h2, h3⟩
    have hr := limbs_len_mono (Nat.le_trans h2 (rt_le n))
    simp only at h1 h2 h3
    have hp1 : ∀ k : Nat, k = j - 1 → (limbs (2 ^ k)).length ≤ 33 := fun k hk => pow_len (by omega)
    have hp := hp1 _ rfl
    have l1 := limbs_len_add r (2 ^ (j - 1))
    have l2 := limbs_len_mul (r + 2 ^ (j - 1)) (r + 2 ^ (j - 1))
    have ej : (((j : Nat) : Int) - 1).toNat = j - 1 := by omega
    simp only at hr
    simp only [go_sem, d_ref1_Bits, d_ref4_pow2, d_ref1_Add, d_ref1_Mul, d_ref1_Cmp, hn, ej, Nat.reduceBEq, Nat.reduceBNe, Nat.reduceLT, Nat.reduceLeDiff, Nat.reduceAdd, Nat.reduceSub, Nat.reduceMul, Nat.reduceEqDiff, Int.reduceNeg, Int.reduceAdd, Int.reduceLT, Int.reduceLE, Int.reduceToNat, ↓reduceIte]
    split
    · rename_i hj
      have hj : 0 < j := by omega
      have hpw : 2 ^ j = 2 ^ (j - 1) + 2 ^ (j - 1) := by
        obtain ⟨i, rfl⟩ : ∃ i, j = i + 1 := ⟨j - 1, by omega⟩
        rw [Nat.add_sub_cancel, Nat.pow_succ]; omega
      have hspec := rt_spec n
      refine ⟨⟨by omega, by omega⟩, ⟨by omega, by omega⟩, by omega, ⟨by omega, by omega⟩, ?_⟩
      have hcast : ((j : Nat) : Int) - 1 - 1 = (((j - 1 : Nat) : Int)) - 1 := by omega
      split
      · rename_i hle
        have hle2 : r + 2 ^ (j - 1) ≤ rt n := by
          rcases Nat.lt_or_ge (rt n) (r + 2 ^ (j - 1)) with h | h
          · have := Nat.mul_le_mul (show rt n + 1 ≤ r + 2 ^ (j - 1) from h) (show rt n + 1 ≤ r + 2 ^ (j - 1) from h); omega
          · exact h
        refine ⟨⟨by omega, by omega⟩, ⟨(j - 1, r + 2 ^ (j - 1)), by show j - 1 ≤ 962; omega, hle2, by show rt n < r + 2 ^ (j - 1) + 2 ^ (j - 1); omega⟩, by show j - 1 < j; omega, le_of ?_⟩
        simp only [go_sem, leL, hcast, Nat.reduceBEq, Nat.reduceBNe, Nat.reduceLT, Nat.reduceLeDiff, Nat.reduceAdd, Nat.reduceSub, Nat.reduceMul, Nat.reduceEqDiff, Int.reduceNeg, Int.reduceAdd, Int.reduceLT, Int.reduceLE, Int.reduceToNat, ↓reduceIte]
      · rename_i hle
        have hlt : rt n < r + 2 ^ (j - 1) := by
          rcases Nat.lt_or_ge (rt n) (r + 2 ^ (j - 1)) with h | h
          · exact h
          · have := Nat.mul_le_mul h h; omega
        refine ⟨⟨by omega, by omega⟩, ⟨(j - 1, r), by show j - 1 ≤ 962; omega, h2, hlt⟩, by show j - 1 < j; omega, le_of ?_⟩
        simp only [go_sem, leL, hcast, Nat.reduceBEq, Nat.reduceBNe, Nat.reduceLT, Nat.reduceLeDiff, Nat.reduceAdd, Nat.reduceSub, Nat.reduceMul, Nat.reduceEqDiff, Int.reduceNeg, Int.reduceAdd, Int.reduceLT, Int.reduceLE, Int.reduceToNat, ↓reduceIte]
    · rename_i hj
      have hj : j = 0 := by omega
      subst hj
      rw [show r = rt n by omega]

def d_ref4_Root : Den := den1 aLim (fun a => a.length ≤ 60) fun a => natV (rt (val a))
set_option maxRecDepth 100000 in
set_option maxHeartbeats 1000000 in
theorem s_ref4_Root : Sound Try.prog 65 d_ref4_Root := by
  refine sound1 (fz := nofz) (l := [(102, d_ref4_root)]) TT_ok ⟨s_ref4_root, trivial⟩ mixed Try.func65 Try.ntmps65 Try.results65 Try.call65 rfl (by omega) (fun _ => rfl) ?_
  intro a hp ha
  rw [codeK_start]
  simp only [go_sem, d_ref4_root, Nat.reduceBEq, Nat.reduceBNe, Nat.reduceLT, Nat.reduceLeDiff, Nat.reduceAdd, Nat.reduceSub, Nat.reduceMul, Nat.reduceEqDiff, Int.reduceNeg, Int.reduceAdd, Int.reduceLT, Int.reduceLE, Int.reduceToNat, ↓reduceIte]
  exact hp


end Go.Proofs.Ytdojdghhbjjoeaa
