/- ball.Of, root.whole, Square, Sqrt, Of by the abstract walk. Conditions: numbers of at most 10^8 limbs. vernierref4: Of, Is, low, high, Has, Hold, two, Bit, Width, Within, Side, Same, Whole, Plus, Rat, pow2, root, Root; by the abstract walk. Conditions: numbers of at most 10^8 limbs. vernierref5: zero, Square, Sqrt, Of; vernierlaw5: big, wide, known; by the abstract walk. Conditions: numbers of at most 15 limbs. -/
import Derived.Test.YtjfaefgabaimaaaGreatAq
namespace Go.Proofs.YtjfaefgabaimaaaGreat
open Go.RowKit
set_option linter.unusedSimpArgs false
set_option linter.unusedVariables false

def bb (lo hi : Rat) : BB := ⟨cr lo, cr hi⟩
def ballOkV (b : BB) (ok : Bool) : AV := .tup [.agg (ballCells b), .cel (.bool ok)]
attribute [go_sem] bb ballOkV

/-- is n a square? -/
def sqn (n : Nat) : Bool := decide (rt n * rt n = n)
def sqB (q : Rat) : Bool := !ng q && (sqn (nm q) && sqn q.den)
def sqR (q : Rat) : Rat := if sqB q = true then qv false (rt (nm q)) (rt q.den) else 0
def hold (p : Int) : Nat := (min (max p 0) 512).toNat
def sqI (q : Rat) (p : Int) : Nat := rt (nm q * 2 ^ (2 * hold p) / q.den)
def sqLo (q : Rat) (p : Int) : Rat := if ng q = true then 0 else if sqB q = true then sqR q else qv false (sqI q p) (2 ^ hold p)
def sqHi (q : Rat) (p : Int) : Rat := if ng q = true then 0 else if sqB q = true then sqR q else qv false (sqI q p + 1) (2 ^ hold p)

theorem rt_le (n : Nat) : rt n ≤ n := by
  obtain ⟨h, _⟩ := rt_spec n
  rcases Nat.eq_zero_or_pos (rt n) with h0 | h0
  · omega
  · have := Nat.le_mul_of_pos_right (rt n) h0; omega
theorem hold_le (p : Int) : hold p ≤ 512 := by unfold hold; omega
theorem hold_cast (p : Int) : ((hold p : Nat) : Int) = min (max p 0) 512 := by unfold hold; omega
theorem shiftN_hold (m : Nat) (p : Int) : shiftN m (min (max p 0) 512) = m * 2 ^ hold p := by
  unfold shiftN
  rw [if_pos (by omega)]; rfl
theorem shiftN_hold2 (m : Nat) (p : Int) : shiftN m (2 * min (max p 0) 512) = m * 2 ^ (2 * hold p) := by
  unfold shiftN
  rw [if_pos (by omega), show (2 * min (max p 0) 512).toNat = 2 * hold p by unfold hold; omega]
theorem pow_lim {k m : Nat} (h : k < 32 * m) : 2 ^ k < 4294967296 ^ m := by
  rw [show (4294967296 : Nat) = 2 ^ 32 from rfl, ← Nat.pow_mul]
  exact Nat.pow_lt_pow_right (by omega) h
theorem pow_len {k : Nat} (h : k < 1056) : (limbs (2 ^ k)).length ≤ 33 := limbs_len_le (pow_lim h)
theorem sqR_zero {q : Rat} (h : sqB q = false) : sqR q = 0 := by unfold sqR; rw [h]; rfl
theorem sqR_some {q : Rat} (h : sqB q = true) : sqR q = qv false (rt (nm q)) (rt q.den) := by unfold sqR; rw [if_pos h]
theorem sqB_neg {q : Rat} (h : ng q = true) : sqB q = false := by unfold sqB; rw [h]; rfl
theorem sqB_num {q : Rat} (h : sqn (nm q) = false) : sqB q = false := by unfold sqB; rw [h]; simp
theorem sqB_den {q : Rat} (h : sqn q.den = false) : sqB q = false := by unfold sqB; rw [h]; simp
theorem sqB_all {q : Rat} (h1 : ng q = false) (h2 : sqn (nm q) = true) (h3 : sqn q.den = true) : sqB q = true := by unfold sqB; rw [h1, h2, h3]; rfl
theorem rs_parts {q : Rat} {K : Nat} (h : rs q ≤ K) : (limbs (nm q)).length ≤ K ∧ (limbs q.den).length ≤ K := ⟨Nat.le_trans (Nat.le_max_left _ _) h, Nat.le_trans (Nat.le_max_right _ _) h⟩
theorem cr0 : cr ((0 : Int) : Rat) = cr 0 := rfl

def d_ball_Of : Den := den1 aRat (fun a => a.sz ≤ 1000000000000) fun a => ballV (bb a.q a.q)
set_option maxRecDepth 100000 in
set_option maxHeartbeats 1000000 in
theorem s_ball_Of : Sound Tryz.prog 25 d_ball_Of := by
  refine sound1 (fz := nofz) (l := [(22, d_rat_Norm)]) TT_ok ⟨s_rat_Norm, trivial⟩ mixed Tryz.func25 Tryz.ntmps25 Tryz.results25 Tryz.call25 rfl (by omega) (fun _ => rfl) ?_
  intro a hp ha
  rw [codeK_start]
  simp only [go_sem, d_rat_Norm, Nat.reduceBEq, Nat.reduceBNe, Nat.reduceLT, Nat.reduceLeDiff, Nat.reduceAdd, Nat.reduceSub, Nat.reduceMul, Nat.reduceEqDiff, Int.reduceNeg, Int.reduceAdd, Int.reduceLT, Int.reduceLE, Int.reduceToNat, ↓reduceIte]
  exact ⟨hp, hp, by kernel_rfl⟩

def d_root_whole : Den := den1 aLim (fun a => a.length ≤ 1000000000) fun a => natOkV (rt (val a)) (sqn (val a))
def d_root_Square : Den := den1 aRat (fun a => a.sz ≤ 100000000) fun a => ratOkV (cr (sqR a.q)) (sqB a.q)
def d_root_Sqrt : Den := den2 aRat aInt (fun a _ => a.sz ≤ 100000000) fun a p => ballOkV (bb (sqLo a.q p) (sqHi a.q p)) (!ng a.q)
def d_root_Of : Den := den2 aBall aInt (fun a _ => a.sz ≤ 100000000) fun a p => ballOkV (bb (if ng a.lo.q = true ∨ ng a.hi.q = true then 0 else sqLo a.lo.q p) (if ng a.lo.q = true ∨ ng a.hi.q = true then 0 else sqHi a.hi.q p)) (!ng a.lo.q && !ng a.hi.q)
end Go.Proofs.YtjfaefgabaimaaaGreat

namespace Go.Proofs.YtjfaefgabaimaaaGreat
open Go.RowKit
set_option linter.unusedSimpArgs false
set_option linter.unusedVariables false

def intCells (n : Int) : List CV := [.bool (decide (n < 0)), .lim none (limbs n.natAbs)]
def sameB (a b : BB) : Bool := decide (a.lo.q = b.lo.q) && decide (a.hi.q = b.hi.q)
def isB (a : BB) : Bool := oneB a.lo (cr a.lo.q) && (oneB a.hi (cr a.hi.q) && decide (a.lo.q ≤ a.hi.q))
def hasB (lo hi q : Rat) : Bool := decide (lo ≤ q) && decide (q ≤ hi)
theorem BB.lens {a : BB} {K : Nat} (h : a.sz ≤ K) : a.lo.sz ≤ K ∧ a.hi.sz ≤ K := ⟨Nat.le_trans (Nat.le_max_left _ _) h, Nat.le_trans (Nat.le_max_right _ _) h⟩
theorem shiftN_nat {p : Int} (h : 0 ≤ p) (m : Nat) : shiftN m p = m * 2 ^ p.toNat := by unfold shiftN; rw [if_pos h]
def lowR (a b : RR) : RR := if a.q ≤ b.q then a else b
def highR (a b : RR) : RR := if b.q ≤ a.q then a else b
def wholeV (n : Int) : AV := .one (.agg (intCells n))
attribute [go_sem] wholeV intCells
def sideI (a b : BB) : Int := if a.hi.q < b.lo.q then -1 else if b.hi.q < a.lo.q then 1 else 0

def d_ref4_Of : Den := den1 aRat (fun a => a.sz ≤ 100000000000) fun a => ballV (bb a.q a.q)
set_option maxRecDepth 100000 in
set_option maxHeartbeats 1000000 in
theorem s_ref4_Of : Sound Tryz.prog 40 d_ref4_Of := by
  refine sound1 (fz := nofz) (l := [(30, d_ref2_Norm)]) TT_ok ⟨s_ref2_Norm, trivial⟩ mixed Tryz.func40 Tryz.ntmps40 Tryz.results40 Tryz.call40 rfl (by omega) (fun _ => rfl) ?_
  intro a hp ha
  rw [codeK_start]
  simp only [go_sem, d_ref2_Norm, Nat.reduceBEq, Nat.reduceBNe, Nat.reduceLT, Nat.reduceLeDiff, Nat.reduceAdd, Nat.reduceSub, Nat.reduceMul, Nat.reduceEqDiff, Int.reduceNeg, Int.reduceAdd, Int.reduceLT, Int.reduceLE, Int.reduceToNat, ↓reduceIte]
  exact ⟨hp, hp, by kernel_rfl⟩

def d_ref4_Is : Den := den1 aBall (fun a => a.sz ≤ 1000000000) fun a => boolV (isB a)
def d_ref4_Has : Den := den2 aBall aRat (fun a b => a.sz ≤ 1000000000 ∧ b.sz ≤ 1000000000) fun a b => boolV (hasB a.lo.q a.hi.q b.q)
set_option maxRecDepth 100000 in
set_option maxHeartbeats 1000000 in
theorem s_ref4_Has : Sound Tryz.prog 48 d_ref4_Has := by
  refine sound2 (fz := nofz) (l := [(13, d_ref2_Cmp)]) TT_ok ⟨s_ref2_Cmp, trivial⟩ mixed Tryz.func48 Tryz.ntmps48 Tryz.results48 Tryz.call48 rfl (by omega) (fun _ _ => rfl) ?_
  intro a b hp ha hb
  rw [codeK_start]
  simp only [go_sem, d_ref2_Cmp, Nat.reduceBEq, Nat.reduceBNe, Nat.reduceLT, Nat.reduceLeDiff, Nat.reduceAdd, Nat.reduceSub, Nat.reduceMul, Nat.reduceEqDiff, Int.reduceNeg, Int.reduceAdd, Int.reduceLT, Int.reduceLE, Int.reduceToNat, ↓reduceIte]
  have l := BB.lens hp.1
  refine ⟨⟨by omega, by omega⟩, ?_⟩
  unfold hasB
  split
  · rename_i h1; exact ⟨⟨by omega, by omega⟩, by simp [h1]⟩
  · rename_i h1; simp [h1]

def d_ref4_Hold : Den := den1 aInt (fun _ => True) fun p => intV ((hold p : Nat) : Int)
set_option maxRecDepth 100000 in
set_option maxHeartbeats 1000000 in
theorem s_ref4_Hold : Sound Tryz.prog 36 d_ref4_Hold := by
  refine sound1 (fz := nofz) (l := []) TT_ok trivial mixed Tryz.func36 Tryz.ntmps36 Tryz.results36 Tryz.call36 rfl (by omega) (fun _ => rfl) ?_
  intro a hp ha
  rw [codeK_start]
  simp only [go_sem, Nat.reduceBEq, Nat.reduceBNe, Nat.reduceLT, Nat.reduceLeDiff, Nat.reduceAdd, Nat.reduceSub, Nat.reduceMul, Nat.reduceEqDiff, Int.reduceNeg, Int.reduceAdd, Int.reduceLT, Int.reduceLE, Int.reduceToNat, ↓reduceIte]
  exact (hold_cast a).symm

def d_ref4_Bit : Den := den1 aInt (fun p => 0 ≤ p ∧ p ≤ 1000) fun p => ratV (cr (qv false 1 (2 ^ p.toNat)))
def d_ref4_Width : Den := den1 aBall (fun a => a.sz ≤ 1000000000) fun a => ratV (cr (a.hi.q - a.lo.q))
def d_ref4_Within : Den := den2 aBall aBall (fun a b => a.sz ≤ 1000000000 ∧ b.sz ≤ 1000000000) fun a b => boolV (hasB b.lo.q b.hi.q a.lo.q && hasB b.lo.q b.hi.q a.hi.q)
set_option maxRecDepth 100000 in
set_option maxHeartbeats 1000000 in
theorem s_ref4_Within : Sound Tryz.prog 14 d_ref4_Within := by
  refine sound2 (fz := nofz) (l := [(48, d_ref4_Has)]) TT_ok ⟨s_ref4_Has, trivial⟩ mixed Tryz.func14 Tryz.ntmps14 Tryz.results14 Tryz.call14 rfl (by omega) (fun _ _ => rfl) ?_
  intro a b hp ha hb
  rw [codeK_start]
  simp only [go_sem, d_ref4_Has, Nat.reduceBEq, Nat.reduceBNe, Nat.reduceLT, Nat.reduceLeDiff, Nat.reduceAdd, Nat.reduceSub, Nat.reduceMul, Nat.reduceEqDiff, Int.reduceNeg, Int.reduceAdd, Int.reduceLT, Int.reduceLE, Int.reduceToNat, ↓reduceIte]
  have l := BB.lens hp.1
  have m := BB.lens hp.2
  refine ⟨⟨by omega, by omega⟩, ?_⟩
  split
  · rename_i h1; exact ⟨⟨by omega, by omega⟩, by rw [h1]; rfl⟩
  · rename_i h1; rw [Bool.not_eq_true] at h1; rw [h1]; rfl

def d_ref4_Side : Den := den2 aBall aBall (fun a b => a.sz ≤ 1000000000 ∧ b.sz ≤ 1000000000) fun a b => intV (sideI a b)
set_option maxRecDepth 100000 in
set_option maxHeartbeats 1000000 in
theorem s_ref4_Side : Sound Tryz.prog 11 d_ref4_Side := by
  refine sound2 (fz := nofz) (l := [(13, d_ref2_Cmp)]) TT_ok ⟨s_ref2_Cmp, trivial⟩ mixed Tryz.func11 Tryz.ntmps11 Tryz.results11 Tryz.call11 rfl (by omega) (fun _ _ => rfl) ?_
  intro a b hp ha hb
  rw [codeK_start]
  simp only [go_sem, d_ref2_Cmp, Nat.reduceBEq, Nat.reduceBNe, Nat.reduceLT, Nat.reduceLeDiff, Nat.reduceAdd, Nat.reduceSub, Nat.reduceMul, Nat.reduceEqDiff, Int.reduceNeg, Int.reduceAdd, Int.reduceLT, Int.reduceLE, Int.reduceToNat, ↓reduceIte]
  have l := BB.lens hp.1
  have m := BB.lens hp.2
  refine ⟨⟨by omega, by omega⟩, ?_⟩
  unfold sideI
  split
  · rfl
  · refine ⟨⟨by omega, by omega⟩, ?_⟩
    split <;> rfl

def d_ref4_Same : Den := den2 aBall aBall (fun a b => a.sz ≤ 1000000000 ∧ b.sz ≤ 1000000000) fun a b => boolV (sameB a b)
set_option maxRecDepth 100000 in
set_option maxHeartbeats 1000000 in
theorem s_ref4_Same : Sound Tryz.prog 44 d_ref4_Same := by
  refine sound2 (fz := nofz) (l := [(54, d_ref2_Same)]) TT_ok ⟨s_ref2_Same, trivial⟩ mixed Tryz.func44 Tryz.ntmps44 Tryz.results44 Tryz.call44 rfl (by omega) (fun _ _ => rfl) ?_
  intro a b hp ha hb
  rw [codeK_start]
  simp only [go_sem, d_ref2_Same, Nat.reduceBEq, Nat.reduceBNe, Nat.reduceLT, Nat.reduceLeDiff, Nat.reduceAdd, Nat.reduceSub, Nat.reduceMul, Nat.reduceEqDiff, Int.reduceNeg, Int.reduceAdd, Int.reduceLT, Int.reduceLE, Int.reduceToNat, ↓reduceIte]
  have l := BB.lens hp.1
  have m := BB.lens hp.2
  refine ⟨⟨by omega, by omega⟩, ?_⟩
  unfold sameB
  split
  · rename_i h1; exact ⟨⟨by omega, by omega⟩, by simp [h1]⟩
  · rename_i h1; simp [h1]

def d_ref4_pow2 : Den := den1 aInt (fun p => 0 ≤ p ∧ p ≤ 1000) fun p => natV (2 ^ p.toNat)
set_option maxRecDepth 100000 in
set_option maxHeartbeats 1000000 in
theorem s_ref4_pow2 : Sound Tryz.prog 115 d_ref4_pow2 := by
  refine sound1 (fz := nofz) (l := [(80, d_ref1_Shift)]) TT_ok ⟨s_ref1_Shift, trivial⟩ mixed Tryz.func115 Tryz.ntmps115 Tryz.results115 Tryz.call115 rfl (by omega) (fun _ => rfl) ?_
  intro a hp ha
  rw [codeK_start]
  simp only [go_sem, d_ref1_Shift, Nat.reduceBEq, Nat.reduceBNe, Nat.reduceLT, Nat.reduceLeDiff, Nat.reduceAdd, Nat.reduceSub, Nat.reduceMul, Nat.reduceEqDiff, Int.reduceNeg, Int.reduceAdd, Int.reduceLT, Int.reduceLE, Int.reduceToNat, ↓reduceIte]
  rw [shiftN_nat hp.1, Nat.one_mul]
  exact ⟨⟨by omega, by omega⟩, rfl⟩

def d_ref4_Whole : Den := den1 aInt (fun n => -9223372036854775807 ≤ n ∧ n ≤ 9223372036854775807) fun n => wholeV n
set_option maxRecDepth 100000 in
set_option maxHeartbeats 1000000 in
theorem s_ref4_Whole : Sound Tryz.prog 77 d_ref4_Whole := by
  refine sound1 (fz := nofz) (l := [(73, d_ref1_Of)]) TT_ok ⟨s_ref1_Of, trivial⟩ mixed Tryz.func77 Tryz.ntmps77 Tryz.results77 Tryz.call77 rfl (by omega) (fun _ => rfl) ?_
  intro a hp ha
  rw [codeK_start]
  simp only [go_sem, d_ref1_Of, Nat.reduceBEq, Nat.reduceBNe, Nat.reduceLT, Nat.reduceLeDiff, Nat.reduceAdd, Nat.reduceSub, Nat.reduceMul, Nat.reduceEqDiff, Int.reduceNeg, Int.reduceAdd, Int.reduceLT, Int.reduceLE, Int.reduceToNat, ↓reduceIte]
  split
  · rename_i h
    rw [IntWalk.u64_in _ ⟨by omega, by omega⟩]
    exact ⟨⟨by omega, by omega⟩, by omega, (decide_eq_true h).symm, by congr 1; omega⟩
  · rename_i h
    rw [IntWalk.u64_in _ ⟨by omega, by omega⟩]
    exact ⟨by omega, (decide_eq_false h).symm, by congr 1; omega⟩

def d_ref4_low : Den := den2 aRat aRat (fun a b => a.sz ≤ 1000000000 ∧ b.sz ≤ 1000000000) fun a b => ratV (lowR a b)
set_option maxRecDepth 100000 in
set_option maxHeartbeats 1000000 in
theorem s_ref4_low : Sound Tryz.prog 45 d_ref4_low := by
  refine sound2 (fz := nofz) (l := [(13, d_ref2_Cmp)]) TT_ok ⟨s_ref2_Cmp, trivial⟩ mixed Tryz.func45 Tryz.ntmps45 Tryz.results45 Tryz.call45 rfl (by omega) (fun _ _ => rfl) ?_
  intro a b hp ha hb
  rw [codeK_start]
  simp only [go_sem, d_ref2_Cmp, Nat.reduceBEq, Nat.reduceBNe, Nat.reduceLT, Nat.reduceLeDiff, Nat.reduceAdd, Nat.reduceSub, Nat.reduceMul, Nat.reduceEqDiff, Int.reduceNeg, Int.reduceAdd, Int.reduceLT, Int.reduceLE, Int.reduceToNat, ↓reduceIte]
  unfold lowR
  refine ⟨⟨by omega, by omega⟩, ?_⟩
  split
  · exact ⟨rfl, rfl, rfl⟩
  · exact ⟨rfl, rfl, rfl⟩

def d_ref4_high : Den := den2 aRat aRat (fun a b => a.sz ≤ 1000000000 ∧ b.sz ≤ 1000000000) fun a b => ratV (highR a b)
set_option maxRecDepth 100000 in
set_option maxHeartbeats 1000000 in
theorem s_ref4_high : Sound Tryz.prog 46 d_ref4_high := by
  refine sound2 (fz := nofz) (l := [(13, d_ref2_Cmp)]) TT_ok ⟨s_ref2_Cmp, trivial⟩ mixed Tryz.func46 Tryz.ntmps46 Tryz.results46 Tryz.call46 rfl (by omega) (fun _ _ => rfl) ?_
  intro a b hp ha hb
  rw [codeK_start]
  simp only [go_sem, d_ref2_Cmp, Nat.reduceBEq, Nat.reduceBNe, Nat.reduceLT, Nat.reduceLeDiff, Nat.reduceAdd, Nat.reduceSub, Nat.reduceMul, Nat.reduceEqDiff, Int.reduceNeg, Int.reduceAdd, Int.reduceLT, Int.reduceLE, Int.reduceToNat, ↓reduceIte]
  unfold highR
  refine ⟨⟨by omega, by omega⟩, ?_⟩
  split
  · exact ⟨rfl, rfl, rfl⟩
  · exact ⟨rfl, rfl, rfl⟩

def intV4 (s : Bool) (n : Nat) : AV := .one (.agg [.bool s, .lim none (limbs n)])
structure II where
  s : Bool
  n : List Nat
def iiV (x : II) : AV := .one (.agg [.bool x.s, .lim none x.n])
def paII : AV → Option II
  | .one (.agg [.bool s, x]) => match x.lims with
    | some n => some ⟨s, n⟩
    | none => none
  | _ => none
def aII : Arg II where
  pa := paII
  un := iiV
  va := fun x => limOk x.n
  ok := by
    intro v x h X w u hu
    unfold paII at h
    split at h
    · rename_i s y
      split at h
      · rename_i n hn
        cases h
        obtain ⟨vs, rfl, hl⟩ := hu
        obtain ⟨u1, u2, rfl, g1, g2⟩ := hl.two
        exact ⟨_, rfl, .cons g1 (.cons (by simpa only [CV.P] using CV.lims_P hn g2) .nil)⟩
      · cases h
    · cases h
  st := fun _ => rfl
  vd := fun x X w u hu => by
    obtain ⟨vs, rfl, hl⟩ := hu
    obtain ⟨u1, u2, rfl, g1, g2⟩ := hl.two
    exact limV_ok (X := X) (w := w) (v := u2) g2
attribute [go_sem] aII iiV paII intV4
def II.z (x : II) : Int := if x.s = true then -(val x.n : Int) else (val x.n : Int)

def d_ref4_Rat : Den := den2 aII aInt (fun a p => a.n.length ≤ 1000000000 ∧ 0 ≤ p ∧ p ≤ 1000) fun a p => ratV (cr (qv a.s (val a.n) (2 ^ p.toNat)))
set_option maxRecDepth 100000 in
set_option maxHeartbeats 1000000 in
theorem s_ref4_Rat : Sound Tryz.prog 75 d_ref4_Rat := by
  refine sound2 (fz := nofz) (l := [(115, d_ref4_pow2), (32, d_ref2_Of)]) TT_ok ⟨s_ref4_pow2, s_ref2_Of, trivial⟩ mixed Tryz.func75 Tryz.ntmps75 Tryz.results75 Tryz.call75 rfl (by omega) (fun _ _ => rfl) ?_
  intro a b hp ha hb
  rw [codeK_start]
  simp only [go_sem, d_ref4_pow2, d_ref2_Of, Nat.reduceBEq, Nat.reduceBNe, Nat.reduceLT, Nat.reduceLeDiff, Nat.reduceAdd, Nat.reduceSub, Nat.reduceMul, Nat.reduceEqDiff, Int.reduceNeg, Int.reduceAdd, Int.reduceLT, Int.reduceLE, Int.reduceToNat, ↓reduceIte]
  have := pow_len (k := b.toNat) (by omega)
  exact ⟨⟨by omega, by omega⟩, ⟨by omega, by omega⟩, by kernel_rfl⟩

def d_ref4_Plus : Den := den2 aII aII (fun a b => a.n.length ≤ 1000000000 ∧ b.n.length ≤ 1000000000 ∧ a.s = false ∧ b.s = false) fun a b => intV4 false (val a.n + val b.n)
set_option maxRecDepth 100000 in
set_option maxHeartbeats 1000000 in
theorem s_ref4_Plus : Sound Tryz.prog 76 d_ref4_Plus := by
  refine sound2 (fz := nofz) (l := [(33, d_ref1_Add), (34, d_ref1_Cmp), (35, d_ref1_Sub)]) TT_ok ⟨s_ref1_Add, s_ref1_Cmp, s_ref1_Sub, trivial⟩ mixed Tryz.func76 Tryz.ntmps76 Tryz.results76 Tryz.call76 rfl (by omega) (fun _ _ => rfl) ?_
  intro a b hp ha hb
  rw [codeK_start]
  simp only [go_sem, d_ref1_Add, d_ref1_Cmp, d_ref1_Sub, hp.2.2.1, hp.2.2.2, Nat.reduceBEq, Nat.reduceBNe, Nat.reduceLT, Nat.reduceLeDiff, Nat.reduceAdd, Nat.reduceSub, Nat.reduceMul, Nat.reduceEqDiff, Int.reduceNeg, Int.reduceAdd, Int.reduceLT, Int.reduceLE, Int.reduceToNat, ↓reduceIte]
  rw [if_pos (by rfl)]
  exact ⟨⟨by omega, by omega⟩, by kernel_rfl⟩

theorem RVle_nil : RVle (.av (.one (.cel .nil))) (.av (limV [])) := fun _ _ _ _ _ _ _ h => ⟨h.1, h.2.1, AV.fit_G (x := .one (.cel .nil)) (y := limV []) rfl h.2.2⟩
theorem rt_lt {n b k : Nat} (h : n < 2 ^ b) (hk : b ≤ 2 * k) : rt n < 2 ^ k := by
  obtain ⟨k1, _⟩ := rt_spec n
  rcases Nat.lt_or_ge (rt n) (2 ^ k) with h1 | h1
  · exact h1
  · have h2 := Nat.mul_le_mul h1 h1
    have h3 : 2 ^ b ≤ 2 ^ (2 * k) := Nat.pow_le_pow_right (by omega) hk
    rw [Nat.two_mul, Nat.pow_add] at h3
    omega
theorem blen_le_lim {xs : List Nat} (h : limOk xs) : blen (val xs) ≤ 32 * xs.length := by
  rcases Nat.eq_zero_or_pos (val xs) with h0 | h0
  · rw [h0, blen_zero]; omega
  · have h1 := blen_le (m := val xs) (by omega)
    have h2 : val xs < 4294967296 ^ xs.length := val_lt h
    rw [show (4294967296 : Nat) = 2 ^ 32 from rfl, ← Nat.pow_mul] at h2
    have := (Nat.pow_lt_pow_iff_right (show 1 < 2 by omega)).1 (Nat.lt_of_le_of_lt h1 h2)
    omega

def d_ref4_root : Den := den1 aLim (fun a => a.length ≤ 60) fun a => natV (rt (val a))
def d_ref4_Root : Den := den1 aLim (fun a => a.length ≤ 60) fun a => natV (rt (val a))
end Go.Proofs.YtjfaefgabaimaaaGreat

namespace Go.Proofs.YtjfaefgabaimaaaGreat
open Go.RowKit
set_option linter.unusedSimpArgs false
set_option linter.unusedVariables false

theorem shiftN_hc (m : Nat) (p : Int) : shiftN m (2 * ((hold p : Nat) : Int)) = m * 2 ^ (2 * hold p) := by
  rw [hold_cast]; exact shiftN_hold2 m p
theorem nabs1 : Int.natAbs 1 = 1 := rfl

def d_ref5_zero : Den := den0 (ballV (bb 0 0))
def d_ref5_Square : Den := den1 aRat (fun a => a.sz ≤ 15) fun a => ratOkV (cr (sqR a.q)) (sqB a.q)
def d_ref5_Sqrt : Den := den2 aRat aInt (fun a _ => a.sz ≤ 15) fun a p => ballOkV (bb (sqLo a.q p) (sqHi a.q p)) (!ng a.q)
def d_ref5_Of : Den := den2 aBall aInt (fun a _ => a.sz ≤ 15) fun a p => ballOkV (bb (if ng a.lo.q = true ∨ ng a.hi.q = true then 0 else sqLo a.lo.q p) (if ng a.lo.q = true ∨ ng a.hi.q = true then 0 else sqHi a.hi.q p)) (!ng a.lo.q && !ng a.hi.q)
def bigR (r : RR) : Bool := decide (3 < r.n.length) || decide (3 < r.d.length)

def d_law5_big : Den := den1 aRats (fun l => l.length ≤ 1000 ∧ ∀ r ∈ l, r.sz ≤ 100000000000000) fun l => boolV (l.any bigR)
def d_law5_known : Den := den0 (boolV true)
end Go.Proofs.YtjfaefgabaimaaaGreat
