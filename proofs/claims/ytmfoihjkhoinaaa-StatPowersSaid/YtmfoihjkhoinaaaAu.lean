/- ball.Of, root.whole, Square, Sqrt, Of by the abstract walk. Conditions: numbers of at most 10^8 limbs. vernierref4: Of, Is, low, high, Has, Hold, two, Bit, Width, Within, Side, Same, Whole, Plus, Rat, pow2, root, Root; by the abstract walk. Conditions: numbers of at most 10^8 limbs. vernierref5: zero, Square, Sqrt, Of; vernierlaw5: big, wide, known; by the abstract walk. Conditions: numbers of at most 15 limbs. -/
import Derived.Test.YtmfoihjkhoinaaaAq
namespace Go.Proofs.Ytmfoihjkhoinaaa
open Go.RowKit
set_option linter.unusedSimpArgs false
set_option linter.unusedVariables false

def bb (lo hi : Rat) : BB := ⟨cr lo, cr hi⟩
def ballOkV (b : BB) (ok : Bool) : AV := .tup [.agg (ballCells b), .cel (.bool ok)]
attribute [go_sem] bb ballOkV

/-- is n a square? -/
def sqn (n : Nat) : Bool := decide (rt n * rt n = n)
def sqB (q : Rat) : Bool := !ng q && (sqn (nm q) && sqn q.den)
def sqR (q : Rat) : Rat := if sqB q = true then qv false (rt (nm q)) (rt q.den) else 0
def hold (p : Int) : Nat := (min (max p 0) 512).toNat
def sqI (q : Rat) (p : Int) : Nat := rt (nm q * 2 ^ (2 * hold p) / q.den)
def sqLo (q : Rat) (p : Int) : Rat := if ng q = true then 0 else if sqB q = true then sqR q else qv false (sqI q p) (2 ^ hold p)
def sqHi (q : Rat) (p : Int) : Rat := if ng q = true then 0 else if sqB q = true then sqR q else qv false (sqI q p + 1) (2 ^ hold p)

theorem rt_le (n : Nat) : rt n ≤ n := by
  obtain ⟨h, _⟩ := rt_spec n
  rcases Nat.eq_zero_or_pos (rt n) with h0 | h0
  · omega
  · have := Nat.le_mul_of_pos_right (rt n) h0; omega
theorem hold_le (p : Int) : hold p ≤ 512 := by unfold hold; omega
theorem hold_cast (p : Int) : ((hold p : Nat) : Int) = min (max p 0) 512 := by unfold hold; omega
theorem shiftN_hold (m : Nat) (p : Int) : shiftN m (min (max p 0) 512) = m * 2 ^ hold p := by
  unfold shiftN
  rw [if_pos (by omega)]; rfl
theorem shiftN_hold2 (m : Nat) (p : Int) : shiftN m (2 * min (max p 0) 512) = m * 2 ^ (2 * hold p) := by
  unfold shiftN
  rw [if_pos (by omega), show (2 * min (max p 0) 512).toNat = 2 * hold p by unfold hold; omega]
theorem pow_lim {k m : Nat} (h : k < 32 * m) : 2 ^ k < 4294967296 ^ m := by
  rw [show (4294967296 : Nat) = 2 ^ 32 from rfl, ← Nat.pow_mul]
  exact Nat.pow_lt_pow_right (by omega) h
theorem pow_len {k : Nat} (h : k < 1056) : (limbs (2 ^ k)).length ≤ 33 := limbs_len_le (pow_lim h)
theorem sqR_zero {q : Rat} (h : sqB q = false) : sqR q = 0 := by unfold sqR; rw [h]; rfl
theorem sqR_some {q : Rat} (h : sqB q = true) : sqR q = qv false (rt (nm q)) (rt q.den) := by unfold sqR; rw [if_pos h]
theorem sqB_neg {q : Rat} (h : ng q = true) : sqB q = false := by unfold sqB; rw [h]; rfl
theorem sqB_num {q : Rat} (h : sqn (nm q) = false) : sqB q = false := by unfold sqB; rw [h]; simp
theorem sqB_den {q : Rat} (h : sqn q.den = false) : sqB q = false := by unfold sqB; rw [h]; simp
theorem sqB_all {q : Rat} (h1 : ng q = false) (h2 : sqn (nm q) = true) (h3 : sqn q.den = true) : sqB q = true := by unfold sqB; rw [h1, h2, h3]; rfl
theorem rs_parts {q : Rat} {K : Nat} (h : rs q ≤ K) : (limbs (nm q)).length ≤ K ∧ (limbs q.den).length ≤ K := ⟨Nat.le_trans (Nat.le_max_left _ _) h, Nat.le_trans (Nat.le_max_right _ _) h⟩
theorem cr0 : cr ((0 : Int) : Rat) = cr 0 := rfl

def d_ball_Of : Den := den1 aRat (fun a => a.sz ≤ 1000000000000) fun a => ballV (bb a.q a.q)
set_option maxRecDepth 100000 in
set_option maxHeartbeats 1000000 in
theorem s_ball_Of : Sound Try.prog 84 d_ball_Of := by
  refine sound1 (fz := nofz) (l := [(53, d_rat_Norm)]) TT_ok ⟨s_rat_Norm, trivial⟩ mixed Try.func84 Try.ntmps84 Try.results84 Try.call84 rfl (by omega) (fun _ => rfl) ?_
  intro a hp ha
  rw [codeK_start]
  simp only [go_sem, d_rat_Norm, Nat.reduceBEq, Nat.reduceBNe, Nat.reduceLT, Nat.reduceLeDiff, Nat.reduceAdd, Nat.reduceSub, Nat.reduceMul, Nat.reduceEqDiff, Int.reduceNeg, Int.reduceAdd, Int.reduceLT, Int.reduceLE, Int.reduceToNat, ↓reduceIte]
  exact ⟨hp, hp, by kernel_rfl⟩

def d_root_whole : Den := den1 aLim (fun a => a.length ≤ 1000000000) fun a => natOkV (rt (val a)) (sqn (val a))
set_option maxRecDepth 100000 in
set_option maxHeartbeats 1000000 in
theorem s_root_whole : Sound Try.prog 187 d_root_whole := by
  refine sound1 (fz := nofz) (l := [(39, d_root_Int), (172, d_nat_Mul), (165, d_nat_Cmp)]) TT_ok ⟨s_root_Int, s_nat_Mul, s_nat_Cmp, trivial⟩ mixed Try.func187 Try.ntmps187 Try.results187 Try.call187 rfl (by omega) (fun _ => rfl) ?_
  intro a hp ha
  rw [codeK_start]
  simp only [go_sem, d_root_Int, d_nat_Mul, d_nat_Cmp, Nat.reduceBEq, Nat.reduceBNe, Nat.reduceLT, Nat.reduceLeDiff, Nat.reduceAdd, Nat.reduceSub, Nat.reduceMul, Nat.reduceEqDiff, Int.reduceNeg, Int.reduceAdd, Int.reduceLT, Int.reduceLE, Int.reduceToNat, ↓reduceIte]
  have l0 := limbs_len_val (xs := a) ha
  have l1 := limbs_len_mono (rt_le (val a))
  have l2 := limbs_len_mono (rt_spec (val a)).1
  exact ⟨hp, by omega, ⟨by omega, by omega⟩, rfl⟩

def d_root_Square : Den := den1 aRat (fun a => a.sz ≤ 100000000) fun a => ratOkV (cr (sqR a.q)) (sqB a.q)
set_option maxRecDepth 100000 in
set_option maxHeartbeats 1000000 in
theorem s_root_Square : Sound Try.prog 78 d_root_Square := by
  refine sound1 (fz := nofz) (l := [(53, d_rat_Norm), (187, d_root_whole), (71, d_rat_Int), (73, d_rat_Of)]) TT_ok ⟨s_rat_Norm, s_root_whole, s_rat_Int, s_rat_Of, trivial⟩ mixed Try.func78 Try.ntmps78 Try.results78 Try.call78 rfl (by omega) (fun _ => rfl) ?_
  intro a hp ha
  rw [codeK_start]
  simp only [go_sem, d_rat_Norm, d_root_whole, d_rat_Int, d_rat_Of, Nat.reduceBEq, Nat.reduceBNe, Nat.reduceLT, Nat.reduceLeDiff, Nat.reduceAdd, Nat.reduceSub, Nat.reduceMul, Nat.reduceEqDiff, Int.reduceNeg, Int.reduceAdd, Int.reduceLT, Int.reduceLE, Int.reduceToNat, ↓reduceIte]
  have hr := rs_parts (rs_ok ha hp (by omega))
  have l1 := limbs_len_mono (rt_le (nm a.q))
  have l2 := limbs_len_mono (rt_le a.q.den)
  simp only [cr_s, cr_n, cr_d, val_limbs, cr0]
  refine ⟨by omega, by omega, by omega, ?_⟩
  cases h1 : ng a.q
  · cases h2 : sqn (nm a.q)
    · rw [sqB_num h2, sqR_zero (sqB_num h2)]; simp [parts_zero]
    · cases h3 : sqn a.q.den
      · rw [sqB_den h3, sqR_zero (sqB_den h3)]; simp [parts_zero]
      · rw [sqB_all h1 h2 h3, sqR_some (sqB_all h1 h2 h3)]
        simp only [Bool.not_true, if_true, if_false, Bool.false_eq_true, and_self, and_true]
        exact ⟨by omega, by omega⟩
  · rw [sqB_neg h1, sqR_zero (sqB_neg h1)]; simp [parts_zero]

def d_root_Sqrt : Den := den2 aRat aInt (fun a _ => a.sz ≤ 100000000) fun a p => ballOkV (bb (sqLo a.q p) (sqHi a.q p)) (!ng a.q)
set_option maxRecDepth 100000 in
set_option maxHeartbeats 1000000 in
theorem s_root_Sqrt : Sound Try.prog 41 d_root_Sqrt := by
  refine sound2 (fz := nofz) (l := [(53, d_rat_Norm), (71, d_rat_Int), (84, d_ball_Of), (78, d_root_Square), (163, d_nat_Shift), (162, d_nat_DivMod), (39, d_root_Int), (168, d_nat_Of), (73, d_rat_Of), (164, d_nat_Add)]) TT_ok ⟨s_rat_Norm, s_rat_Int, s_ball_Of, s_root_Square, s_nat_Shift, s_nat_DivMod, s_root_Int, s_nat_Of, s_rat_Of, s_nat_Add, trivial⟩ mixed Try.func41 Try.ntmps41 Try.results41 Try.call41 rfl (by omega) (fun _ _ => rfl) ?_
  intro a b hp ha hb
  rw [codeK_start]
  simp only [go_sem, d_rat_Norm, d_rat_Int, d_ball_Of, d_root_Square, d_nat_Shift, d_nat_DivMod, d_root_Int, d_nat_Of, d_rat_Of, d_nat_Add, Nat.reduceBEq, Nat.reduceBNe, Nat.reduceLT, Nat.reduceLeDiff, Nat.reduceAdd, Nat.reduceSub, Nat.reduceMul, Nat.reduceEqDiff, Int.reduceNeg, Int.reduceAdd, Int.reduceLT, Int.reduceLE, Int.reduceToNat, ↓reduceIte]
  have hr := rs_parts (rs_ok ha hp (by omega))
  have hrs : rs a.q ≤ 100000000 := rs_ok ha hp (by omega)
  have l1 := limbs_len_mono (rt_le (nm a.q))
  have l2 := limbs_len_mono (rt_le a.q.den)
  have h1l : (limbs 1).length = 1 := rfl
  simp only [cr_s, cr_n, cr_d, val_limbs, cr0, shiftN_hold, shiftN_hold2, Nat.one_mul]
  refine ⟨by omega, ?_⟩
  cases h1 : ng a.q
  · simp only [Bool.false_eq_true, if_false]
    refine ⟨hrs, ?_⟩
    cases h2 : sqB a.q
    · have e1 : sqLo a.q b = qv false (sqI a.q b) (2 ^ hold b) := by unfold sqLo; rw [h1, h2]; rfl
      have e2 : sqHi a.q b = qv false (sqI a.q b + 1) (2 ^ hold b) := by unfold sqHi; rw [h1, h2]; rfl
      have p1 := pow_len (k := 2 * hold b) (by have := hold_le b; omega)
      have p2 := pow_len (k := hold b) (by have := hold_le b; omega)
      have l3 := limbs_len_mul (nm a.q) (2 ^ (2 * hold b))
      have l4 := limbs_len_mono (Nat.div_le_self (nm a.q * 2 ^ (2 * hold b)) a.q.den)
      have l5 := limbs_len_mono (rt_le (nm a.q * 2 ^ (2 * hold b) / a.q.den))
      have l6 := limbs_len_add (rt (nm a.q * 2 ^ (2 * hold b) / a.q.den)) 1
      simp only [Bool.false_eq_true, if_false, e1, e2, sqI, and_self, and_true, Bool.not_false]
      and_intros
      all_goals first
        | omega
        | trivial
        | (show okDraw _ _ = true; kernel_rfl)
    · have e1 : sqLo a.q b = sqR a.q := by unfold sqLo; rw [h1, h2]; rfl
      have e2 : sqHi a.q b = sqR a.q := by unfold sqHi; rw [h1, h2]; rfl
      have l3 : rs (sqR a.q) ≤ 1000000000000 := by
        rw [sqR_some h2]
        exact rs_qv _ _ _ _ (by omega) (by omega) (by omega)
      simp only [if_true, e1, e2, and_self, and_true, Bool.not_false]
      exact l3
  · have e1 : sqLo a.q b = 0 := by unfold sqLo; rw [h1]; rfl
    have e2 : sqHi a.q b = 0 := by unfold sqHi; rw [h1]; rfl
    simp only [if_true, e1, e2, and_self, and_true, Bool.not_true]
    exact (by decide : (1 : Nat) ≤ 1000000000000)

def d_root_Of : Den := den2 aBall aInt (fun a _ => a.sz ≤ 100000000) fun a p => ballOkV (bb (if ng a.lo.q = true ∨ ng a.hi.q = true then 0 else sqLo a.lo.q p) (if ng a.lo.q = true ∨ ng a.hi.q = true then 0 else sqHi a.hi.q p)) (!ng a.lo.q && !ng a.hi.q)
set_option maxRecDepth 100000 in
set_option maxHeartbeats 1000000 in
theorem s_root_Of : Sound Try.prog 76 d_root_Of := by
  refine sound2 (fz := nofz) (l := [(41, d_root_Sqrt), (71, d_rat_Int), (84, d_ball_Of)]) TT_ok ⟨s_root_Sqrt, s_rat_Int, s_ball_Of, trivial⟩ mixed Try.func76 Try.ntmps76 Try.results76 Try.call76 rfl (by omega) (fun _ _ => rfl) ?_
  intro a b hp ha hb
  rw [codeK_start]
  simp only [go_sem, d_root_Sqrt, d_rat_Int, d_ball_Of, Nat.reduceBEq, Nat.reduceBNe, Nat.reduceLT, Nat.reduceLeDiff, Nat.reduceAdd, Nat.reduceSub, Nat.reduceMul, Nat.reduceEqDiff, Int.reduceNeg, Int.reduceAdd, Int.reduceLT, Int.reduceLE, Int.reduceToNat, ↓reduceIte]
  have hlo : a.lo.sz ≤ 100000000 := Nat.le_trans (Nat.le_max_left _ _) hp
  have hhi : a.hi.sz ≤ 100000000 := Nat.le_trans (Nat.le_max_right _ _) hp
  have hz : rs (0 : Rat) ≤ 1000000000000 := (by decide : (1 : Nat) ≤ 1000000000000)
  refine ⟨hlo, hhi, ?_⟩
  cases h1 : ng a.lo.q <;> cases h2 : ng a.hi.q <;> simp [cr0, hz]


end Go.Proofs.Ytmfoihjkhoinaaa

namespace Go.Proofs.Ytmfoihjkhoinaaa
open Go.RowKit
set_option linter.unusedSimpArgs false
set_option linter.unusedVariables false

def intCells (n : Int) : List CV := [.bool (decide (n < 0)), .lim none (limbs n.natAbs)]
def sameB (a b : BB) : Bool := decide (a.lo.q = b.lo.q) && decide (a.hi.q = b.hi.q)
def isB (a : BB) : Bool := oneB a.lo (cr a.lo.q) && (oneB a.hi (cr a.hi.q) && decide (a.lo.q ≤ a.hi.q))
def hasB (lo hi q : Rat) : Bool := decide (lo ≤ q) && decide (q ≤ hi)
theorem BB.lens {a : BB} {K : Nat} (h : a.sz ≤ K) : a.lo.sz ≤ K ∧ a.hi.sz ≤ K := ⟨Nat.le_trans (Nat.le_max_left _ _) h, Nat.le_trans (Nat.le_max_right _ _) h⟩
theorem shiftN_nat {p : Int} (h : 0 ≤ p) (m : Nat) : shiftN m p = m * 2 ^ p.toNat := by unfold shiftN; rw [if_pos h]
def lowR (a b : RR) : RR := if a.q ≤ b.q then a else b
def highR (a b : RR) : RR := if b.q ≤ a.q then a else b
def wholeV (n : Int) : AV := .one (.agg (intCells n))
attribute [go_sem] wholeV intCells
def sideI (a b : BB) : Int := if a.hi.q < b.lo.q then -1 else if b.hi.q < a.lo.q then 1 else 0

def d_ref4_Of : Den := den1 aRat (fun a => a.sz ≤ 100000000000) fun a => ballV (bb a.q a.q)
set_option maxRecDepth 100000 in
set_option maxHeartbeats 1000000 in
theorem s_ref4_Of : Sound Try.prog 86 d_ref4_Of := by
  refine sound1 (fz := nofz) (l := [(38, d_ref2_Norm)]) TT_ok ⟨s_ref2_Norm, trivial⟩ mixed Try.func86 Try.ntmps86 Try.results86 Try.call86 rfl (by omega) (fun _ => rfl) ?_
  intro a hp ha
  rw [codeK_start]
  simp only [go_sem, d_ref2_Norm, Nat.reduceBEq, Nat.reduceBNe, Nat.reduceLT, Nat.reduceLeDiff, Nat.reduceAdd, Nat.reduceSub, Nat.reduceMul, Nat.reduceEqDiff, Int.reduceNeg, Int.reduceAdd, Int.reduceLT, Int.reduceLE, Int.reduceToNat, ↓reduceIte]
  exact ⟨hp, hp, by kernel_rfl⟩

def d_ref4_Is : Den := den1 aBall (fun a => a.sz ≤ 1000000000) fun a => boolV (isB a)
set_option maxRecDepth 100000 in
set_option maxHeartbeats 1000000 in
theorem s_ref4_Is : Sound Try.prog 115 d_ref4_Is := by
  refine sound1 (fz := nofz) (l := [(63, d_ref2_Is), (45, d_ref2_Cmp)]) TT_ok ⟨s_ref2_Is, s_ref2_Cmp, trivial⟩ mixed Try.func115 Try.ntmps115 Try.results115 Try.call115 rfl (by omega) (fun _ => rfl) ?_
  intro a hp ha
  rw [codeK_start]
  simp only [go_sem, d_ref2_Is, d_ref2_Cmp, Nat.reduceBEq, Nat.reduceBNe, Nat.reduceLT, Nat.reduceLeDiff, Nat.reduceAdd, Nat.reduceSub, Nat.reduceMul, Nat.reduceEqDiff, Int.reduceNeg, Int.reduceAdd, Int.reduceLT, Int.reduceLE, Int.reduceToNat, ↓reduceIte]
  have l := BB.lens hp
  refine ⟨by omega, ?_⟩
  unfold isB
  split
  · rename_i h1
    refine ⟨by omega, ?_⟩
    split
    · rename_i h2
      exact ⟨⟨by omega, by omega⟩, by rw [h1, h2]; rfl⟩
    · rename_i h2; rw [Bool.not_eq_true] at h2; rw [h2]; simp
  · rename_i h1; rw [Bool.not_eq_true] at h1; rw [h1]; rfl

def d_ref4_Has : Den := den2 aBall aRat (fun a b => a.sz ≤ 1000000000 ∧ b.sz ≤ 1000000000) fun a b => boolV (hasB a.lo.q a.hi.q b.q)
set_option maxRecDepth 100000 in
set_option maxHeartbeats 1000000 in
theorem s_ref4_Has : Sound Try.prog 124 d_ref4_Has := by
  refine sound2 (fz := nofz) (l := [(45, d_ref2_Cmp)]) TT_ok ⟨s_ref2_Cmp, trivial⟩ mixed Try.func124 Try.ntmps124 Try.results124 Try.call124 rfl (by omega) (fun _ _ => rfl) ?_
  intro a b hp ha hb
  rw [codeK_start]
  simp only [go_sem, d_ref2_Cmp, Nat.reduceBEq, Nat.reduceBNe, Nat.reduceLT, Nat.reduceLeDiff, Nat.reduceAdd, Nat.reduceSub, Nat.reduceMul, Nat.reduceEqDiff, Int.reduceNeg, Int.reduceAdd, Int.reduceLT, Int.reduceLE, Int.reduceToNat, ↓reduceIte]
  have l := BB.lens hp.1
  refine ⟨⟨by omega, by omega⟩, ?_⟩
  unfold hasB
  split
  · rename_i h1; exact ⟨⟨by omega, by omega⟩, by simp [h1]⟩
  · rename_i h1; simp [h1]

def d_ref4_Hold : Den := den1 aInt (fun _ => True) fun p => intV ((hold p : Nat) : Int)
set_option maxRecDepth 100000 in
set_option maxHeartbeats 1000000 in
theorem s_ref4_Hold : Sound Try.prog 182 d_ref4_Hold := by
  refine sound1 (fz := nofz) (l := []) TT_ok trivial mixed Try.func182 Try.ntmps182 Try.results182 Try.call182 rfl (by omega) (fun _ => rfl) ?_
  intro a hp ha
  rw [codeK_start]
  simp only [go_sem, Nat.reduceBEq, Nat.reduceBNe, Nat.reduceLT, Nat.reduceLeDiff, Nat.reduceAdd, Nat.reduceSub, Nat.reduceMul, Nat.reduceEqDiff, Int.reduceNeg, Int.reduceAdd, Int.reduceLT, Int.reduceLE, Int.reduceToNat, ↓reduceIte]
  exact (hold_cast a).symm

def d_ref4_Bit : Den := den1 aInt (fun p => 0 ≤ p ∧ p ≤ 1000) fun p => ratV (cr (qv false 1 (2 ^ p.toNat)))
set_option maxRecDepth 100000 in
set_option maxHeartbeats 1000000 in
theorem s_ref4_Bit : Sound Try.prog 47 d_ref4_Bit := by
  refine sound1 (fz := nofz) (l := [(169, d_ref1_Shift), (106, d_ref2_Of)]) TT_ok ⟨s_ref1_Shift, s_ref2_Of, trivial⟩ mixed Try.func47 Try.ntmps47 Try.results47 Try.call47 rfl (by omega) (fun _ => rfl) ?_
  intro a hp ha
  rw [codeK_start]
  simp only [go_sem, d_ref1_Shift, d_ref2_Of, Nat.reduceBEq, Nat.reduceBNe, Nat.reduceLT, Nat.reduceLeDiff, Nat.reduceAdd, Nat.reduceSub, Nat.reduceMul, Nat.reduceEqDiff, Int.reduceNeg, Int.reduceAdd, Int.reduceLT, Int.reduceLE, Int.reduceToNat, ↓reduceIte]
  rw [shiftN_nat hp.1, Nat.one_mul]
  have := pow_len (k := a.toNat) (by omega)
  exact ⟨⟨by omega, by omega⟩, by omega, rfl, rfl, rfl⟩

def d_ref4_Width : Den := den1 aBall (fun a => a.sz ≤ 1000000000) fun a => ratV (cr (a.hi.q - a.lo.q))
set_option maxRecDepth 100000 in
set_option maxHeartbeats 1000000 in
theorem s_ref4_Width : Sound Try.prog 46 d_ref4_Width := by
  refine sound1 (fz := nofz) (l := [(95, d_ref2_Sub)]) TT_ok ⟨s_ref2_Sub, trivial⟩ mixed Try.func46 Try.ntmps46 Try.results46 Try.call46 rfl (by omega) (fun _ => rfl) ?_
  intro a hp ha
  rw [codeK_start]
  simp only [go_sem, d_ref2_Sub, Nat.reduceBEq, Nat.reduceBNe, Nat.reduceLT, Nat.reduceLeDiff, Nat.reduceAdd, Nat.reduceSub, Nat.reduceMul, Nat.reduceEqDiff, Int.reduceNeg, Int.reduceAdd, Int.reduceLT, Int.reduceLE, Int.reduceToNat, ↓reduceIte]
  have l := BB.lens hp
  exact ⟨by omega, by omega⟩

def d_ref4_Within : Den := den2 aBall aBall (fun a b => a.sz ≤ 1000000000 ∧ b.sz ≤ 1000000000) fun a b => boolV (hasB b.lo.q b.hi.q a.lo.q && hasB b.lo.q b.hi.q a.hi.q)
set_option maxRecDepth 100000 in
set_option maxHeartbeats 1000000 in
theorem s_ref4_Within : Sound Try.prog 51 d_ref4_Within := by
  refine sound2 (fz := nofz) (l := [(124, d_ref4_Has)]) TT_ok ⟨s_ref4_Has, trivial⟩ mixed Try.func51 Try.ntmps51 Try.results51 Try.call51 rfl (by omega) (fun _ _ => rfl) ?_
  intro a b hp ha hb
  rw [codeK_start]
  simp only [go_sem, d_ref4_Has, Nat.reduceBEq, Nat.reduceBNe, Nat.reduceLT, Nat.reduceLeDiff, Nat.reduceAdd, Nat.reduceSub, Nat.reduceMul, Nat.reduceEqDiff, Int.reduceNeg, Int.reduceAdd, Int.reduceLT, Int.reduceLE, Int.reduceToNat, ↓reduceIte]
  have l := BB.lens hp.1
  have m := BB.lens hp.2
  refine ⟨⟨by omega, by omega⟩, ?_⟩
  split
  · rename_i h1; exact ⟨⟨by omega, by omega⟩, by rw [h1]; rfl⟩
  · rename_i h1; rw [Bool.not_eq_true] at h1; rw [h1]; rfl

def d_ref4_Side : Den := den2 aBall aBall (fun a b => a.sz ≤ 1000000000 ∧ b.sz ≤ 1000000000) fun a b => intV (sideI a b)
set_option maxRecDepth 100000 in
set_option maxHeartbeats 1000000 in
theorem s_ref4_Side : Sound Try.prog 49 d_ref4_Side := by
  refine sound2 (fz := nofz) (l := [(45, d_ref2_Cmp)]) TT_ok ⟨s_ref2_Cmp, trivial⟩ mixed Try.func49 Try.ntmps49 Try.results49 Try.call49 rfl (by omega) (fun _ _ => rfl) ?_
  intro a b hp ha hb
  rw [codeK_start]
  simp only [go_sem, d_ref2_Cmp, Nat.reduceBEq, Nat.reduceBNe, Nat.reduceLT, Nat.reduceLeDiff, Nat.reduceAdd, Nat.reduceSub, Nat.reduceMul, Nat.reduceEqDiff, Int.reduceNeg, Int.reduceAdd, Int.reduceLT, Int.reduceLE, Int.reduceToNat, ↓reduceIte]
  have l := BB.lens hp.1
  have m := BB.lens hp.2
  refine ⟨⟨by omega, by omega⟩, ?_⟩
  unfold sideI
  split
  · rfl
  · refine ⟨⟨by omega, by omega⟩, ?_⟩
    split <;> rfl

def d_ref4_Same : Den := den2 aBall aBall (fun a b => a.sz ≤ 1000000000 ∧ b.sz ≤ 1000000000) fun a b => boolV (sameB a b)
set_option maxRecDepth 100000 in
set_option maxHeartbeats 1000000 in
theorem s_ref4_Same : Sound Try.prog 81 d_ref4_Same := by
  refine sound2 (fz := nofz) (l := [(82, d_ref2_Same)]) TT_ok ⟨s_ref2_Same, trivial⟩ mixed Try.func81 Try.ntmps81 Try.results81 Try.call81 rfl (by omega) (fun _ _ => rfl) ?_
  intro a b hp ha hb
  rw [codeK_start]
  simp only [go_sem, d_ref2_Same, Nat.reduceBEq, Nat.reduceBNe, Nat.reduceLT, Nat.reduceLeDiff, Nat.reduceAdd, Nat.reduceSub, Nat.reduceMul, Nat.reduceEqDiff, Int.reduceNeg, Int.reduceAdd, Int.reduceLT, Int.reduceLE, Int.reduceToNat, ↓reduceIte]
  have l := BB.lens hp.1
  have m := BB.lens hp.2
  refine ⟨⟨by omega, by omega⟩, ?_⟩
  unfold sameB
  split
  · rename_i h1; exact ⟨⟨by omega, by omega⟩, by simp [h1]⟩
  · rename_i h1; simp [h1]

def d_ref4_pow2 : Den := den1 aInt (fun p => 0 ≤ p ∧ p ≤ 1000) fun p => natV (2 ^ p.toNat)
set_option maxRecDepth 100000 in
set_option maxHeartbeats 1000000 in
theorem s_ref4_pow2 : Sound Try.prog 217 d_ref4_pow2 := by
  refine sound1 (fz := nofz) (l := [(169, d_ref1_Shift)]) TT_ok ⟨s_ref1_Shift, trivial⟩ mixed Try.func217 Try.ntmps217 Try.results217 Try.call217 rfl (by omega) (fun _ => rfl) ?_
  intro a hp ha
  rw [codeK_start]
  simp only [go_sem, d_ref1_Shift, Nat.reduceBEq, Nat.reduceBNe, Nat.reduceLT, Nat.reduceLeDiff, Nat.reduceAdd, Nat.reduceSub, Nat.reduceMul, Nat.reduceEqDiff, Int.reduceNeg, Int.reduceAdd, Int.reduceLT, Int.reduceLE, Int.reduceToNat, ↓reduceIte]
  rw [shiftN_nat hp.1, Nat.one_mul]
  exact ⟨⟨by omega, by omega⟩, rfl⟩

def d_ref4_Whole : Den := den1 aInt (fun n => -9223372036854775807 ≤ n ∧ n ≤ 9223372036854775807) fun n => wholeV n
set_option maxRecDepth 100000 in
set_option maxHeartbeats 1000000 in
theorem s_ref4_Whole : Sound Try.prog 186 d_ref4_Whole := by
  refine sound1 (fz := nofz) (l := [(181, d_ref1_Of)]) TT_ok ⟨s_ref1_Of, trivial⟩ mixed Try.func186 Try.ntmps186 Try.results186 Try.call186 rfl (by omega) (fun _ => rfl) ?_
  intro a hp ha
  rw [codeK_start]
  simp only [go_sem, d_ref1_Of, Nat.reduceBEq, Nat.reduceBNe, Nat.reduceLT, Nat.reduceLeDiff, Nat.reduceAdd, Nat.reduceSub, Nat.reduceMul, Nat.reduceEqDiff, Int.reduceNeg, Int.reduceAdd, Int.reduceLT, Int.reduceLE, Int.reduceToNat, ↓reduceIte]
  split
  · rename_i h
    rw [IntWalk.u64_in _ ⟨by omega, by omega⟩]
    exact ⟨⟨by omega, by omega⟩, by omega, (decide_eq_true h).symm, by congr 1; omega⟩
  · rename_i h
    rw [IntWalk.u64_in _ ⟨by omega, by omega⟩]
    exact ⟨by omega, (decide_eq_false h).symm, by congr 1; omega⟩

def d_ref4_low : Den := den2 aRat aRat (fun a b => a.sz ≤ 1000000000 ∧ b.sz ≤ 1000000000) fun a b => ratV (lowR a b)
set_option maxRecDepth 100000 in
set_option maxHeartbeats 1000000 in
theorem s_ref4_low : Sound Try.prog 170 d_ref4_low := by
  refine sound2 (fz := nofz) (l := [(45, d_ref2_Cmp)]) TT_ok ⟨s_ref2_Cmp, trivial⟩ mixed Try.func170 Try.ntmps170 Try.results170 Try.call170 rfl (by omega) (fun _ _ => rfl) ?_
  intro a b hp ha hb
  rw [codeK_start]
  simp only [go_sem, d_ref2_Cmp, Nat.reduceBEq, Nat.reduceBNe, Nat.reduceLT, Nat.reduceLeDiff, Nat.reduceAdd, Nat.reduceSub, Nat.reduceMul, Nat.reduceEqDiff, Int.reduceNeg, Int.reduceAdd, Int.reduceLT, Int.reduceLE, Int.reduceToNat, ↓reduceIte]
  unfold lowR
  refine ⟨⟨by omega, by omega⟩, ?_⟩
  split
  · exact ⟨rfl, rfl, rfl⟩
  · exact ⟨rfl, rfl, rfl⟩

def d_ref4_high : Den := den2 aRat aRat (fun a b => a.sz ≤ 1000000000 ∧ b.sz ≤ 1000000000) fun a b => ratV (highR a b)
set_option maxRecDepth 100000 in
set_option maxHeartbeats 1000000 in
theorem s_ref4_high : Sound Try.prog 171 d_ref4_high := by
  refine sound2 (fz := nofz) (l := [(45, d_ref2_Cmp)]) TT_ok ⟨s_ref2_Cmp, trivial⟩ mixed Try.func171 Try.ntmps171 Try.results171 Try.call171 rfl (by omega) (fun _ _ => rfl) ?_
  intro a b hp ha hb
  rw [codeK_start]
  simp only [go_sem, d_ref2_Cmp, Nat.reduceBEq, Nat.reduceBNe, Nat.reduceLT, Nat.reduceLeDiff, Nat.reduceAdd, Nat.reduceSub, Nat.reduceMul, Nat.reduceEqDiff, Int.reduceNeg, Int.reduceAdd, Int.reduceLT, Int.reduceLE, Int.reduceToNat, ↓reduceIte]
  unfold highR
  refine ⟨⟨by omega, by omega⟩, ?_⟩
  split
  · exact ⟨rfl, rfl, rfl⟩
  · exact ⟨rfl, rfl, rfl⟩

def intV4 (s : Bool) (n : Nat) : AV := .one (.agg [.bool s, .lim none (limbs n)])
structure II where
  s : Bool
  n : List Nat
def iiV (x : II) : AV := .one (.agg [.bool x.s, .lim none x.n])
def paII : AV → Option II
  | .one (.agg [.bool s, x]) => match x.lims with
    | some n => some ⟨s, n⟩
    | none => none
  | _ => none
def aII : Arg II where
  pa := paII
  un := iiV
  va := fun x => limOk x.n
  ok := by
    intro v x h X w u hu
    unfold paII at h
    split at h
    · rename_i s y
      split at h
      · rename_i n hn
        cases h
        obtain ⟨vs, rfl, hl⟩ := hu
        obtain ⟨u1, u2, rfl, g1, g2⟩ := hl.two
        exact ⟨_, rfl, .cons g1 (.cons (by simpa only [CV.P] using CV.lims_P hn g2) .nil)⟩
      · cases h
    · cases h
  st := fun _ => rfl
  vd := fun x X w u hu => by
    obtain ⟨vs, rfl, hl⟩ := hu
    obtain ⟨u1, u2, rfl, g1, g2⟩ := hl.two
    exact limV_ok (X := X) (w := w) (v := u2) g2
attribute [go_sem] aII iiV paII intV4
def II.z (x : II) : Int := if x.s = true then -(val x.n : Int) else (val x.n : Int)

def d_ref4_Rat : Den := den2 aII aInt (fun a p => a.n.length ≤ 1000000000 ∧ 0 ≤ p ∧ p ≤ 1000) fun a p => ratV (cr (qv a.s (val a.n) (2 ^ p.toNat)))
set_option maxRecDepth 100000 in
set_option maxHeartbeats 1000000 in
theorem s_ref4_Rat : Sound Try.prog 184 d_ref4_Rat := by
  refine sound2 (fz := nofz) (l := [(217, d_ref4_pow2), (106, d_ref2_Of)]) TT_ok ⟨s_ref4_pow2, s_ref2_Of, trivial⟩ mixed Try.func184 Try.ntmps184 Try.results184 Try.call184 rfl (by omega) (fun _ _ => rfl) ?_
  intro a b hp ha hb
  rw [codeK_start]
  simp only [go_sem, d_ref4_pow2, d_ref2_Of, Nat.reduceBEq, Nat.reduceBNe, Nat.reduceLT, Nat.reduceLeDiff, Nat.reduceAdd, Nat.reduceSub, Nat.reduceMul, Nat.reduceEqDiff, Int.reduceNeg, Int.reduceAdd, Int.reduceLT, Int.reduceLE, Int.reduceToNat, ↓reduceIte]
  have := pow_len (k := b.toNat) (by omega)
  exact ⟨⟨by omega, by omega⟩, ⟨by omega, by omega⟩, by kernel_rfl⟩

def d_ref4_Plus : Den := den2 aII aII (fun a b => a.n.length ≤ 1000000000 ∧ b.n.length ≤ 1000000000 ∧ a.s = false ∧ b.s = false) fun a b => intV4 false (val a.n + val b.n)
set_option maxRecDepth 100000 in
set_option maxHeartbeats 1000000 in
theorem s_ref4_Plus : Sound Try.prog 185 d_ref4_Plus := by
  refine sound2 (fz := nofz) (l := [(40, d_ref1_Add), (43, d_ref1_Cmp), (176, d_ref1_Sub)]) TT_ok ⟨s_ref1_Add, s_ref1_Cmp, s_ref1_Sub, trivial⟩ mixed Try.func185 Try.ntmps185 Try.results185 Try.call185 rfl (by omega) (fun _ _ => rfl) ?_
  intro a b hp ha hb
  rw [codeK_start]
  simp only [go_sem, d_ref1_Add, d_ref1_Cmp, d_ref1_Sub, hp.2.2.1, hp.2.2.2, Nat.reduceBEq, Nat.reduceBNe, Nat.reduceLT, Nat.reduceLeDiff, Nat.reduceAdd, Nat.reduceSub, Nat.reduceMul, Nat.reduceEqDiff, Int.reduceNeg, Int.reduceAdd, Int.reduceLT, Int.reduceLE, Int.reduceToNat, ↓reduceIte]
  rw [if_pos (by rfl)]
  exact ⟨⟨by omega, by omega⟩, by kernel_rfl⟩

theorem RVle_nil : RVle (.av (.one (.cel .nil))) (.av (limV [])) := fun _ _ _ _ _ _ _ h => ⟨h.1, h.2.1, AV.fit_G (x := .one (.cel .nil)) (y := limV []) rfl h.2.2⟩
theorem rt_lt {n b k : Nat} (h : n < 2 ^ b) (hk : b ≤ 2 * k) : rt n < 2 ^ k := by
  obtain ⟨k1, _⟩ := rt_spec n
  rcases Nat.lt_or_ge (rt n) (2 ^ k) with h1 | h1
  · exact h1
  · have h2 := Nat.mul_le_mul h1 h1
    have h3 : 2 ^ b ≤ 2 ^ (2 * k) := Nat.pow_le_pow_right (by omega) hk
    rw [Nat.two_mul, Nat.pow_add] at h3
    omega
theorem blen_le_lim {xs : List Nat} (h : limOk xs) : blen (val xs) ≤ 32 * xs.length := by
  rcases Nat.eq_zero_or_pos (val xs) with h0 | h0
  · rw [h0, blen_zero]; omega
  · have h1 := blen_le (m := val xs) (by omega)
    have h2 : val xs < 4294967296 ^ xs.length := val_lt h
    rw [show (4294967296 : Nat) = 2 ^ 32 from rfl, ← Nat.pow_mul] at h2
    have := (Nat.pow_lt_pow_iff_right (show 1 < 2 by omega)).1 (Nat.lt_of_le_of_lt h1 h2)
    omega

def d_ref4_root : Den := den1 aLim (fun a => a.length ≤ 60) fun a => natV (rt (val a))
set_option maxRecDepth 100000 in
set_option maxHeartbeats 1000000 in
theorem s_ref4_root : Sound Try.prog 188 d_ref4_root := by
  refine sound1 (fz := nofz) (l := [(218, d_ref1_Bits), (217, d_ref4_pow2), (40, d_ref1_Add), (44, d_ref1_Mul), (43, d_ref1_Cmp)]) TT_ok ⟨s_ref1_Bits, s_ref4_pow2, s_ref1_Add, s_ref1_Mul, s_ref1_Cmp, trivial⟩ mixed Try.func188 Try.ntmps188 Try.results188 Try.call188 rfl (by omega) (fun _ => rfl) ?_
  intro a hp ha
  rw [codeK_start]
  simp only [go_sem, d_ref1_Bits, d_ref4_pow2, d_ref1_Add, d_ref1_Mul, d_ref1_Cmp, Nat.reduceBEq, Nat.reduceBNe, Nat.reduceLT, Nat.reduceLeDiff, Nat.reduceAdd, Nat.reduceSub, Nat.reduceMul, Nat.reduceEqDiff, Int.reduceNeg, Int.reduceAdd, Int.reduceLT, Int.reduceLE, Int.reduceToNat, ↓reduceIte]
  have hb := blen_le_lim ha
  have hlen := limbs_len_val (xs := a) ha
  generalize hn : val a = n at *
  have e1 : (((blen n : Nat) : Int) + 1).tdiv 2 = (((blen n + 1) / 2 : Nat) : Int) := by rw [Int.tdiv_eq_ediv_of_nonneg (by omega)]; omega
  rw [e1]
  have hst : rt n < 0 + 2 ^ ((blen n + 1) / 2 + 1) := by rw [Nat.zero_add]; exact rt_lt (blen_lt n) (by omega)
  refine ⟨by omega, ⟨by omega, by omega⟩, ⟨by omega, by omega, by omega⟩, ?_⟩
  refine codeK_loop (fun x : { x : Nat × Nat // x.1 ≤ 962 ∧ x.2 ≤ rt n ∧ rt n < x.2 + 2 ^ x.1 } => [(4, 0, .av (intV ((x.1.1 : Nat) - 1 : Int))), (3, 0, .av (limV (limbs x.1.2))), (0, 0, .av (limV a))]) (fun x => x.1.1) ⟨((blen n + 1) / 2 + 1, 0), by omega, by omega, hst⟩ (le_ofW ?_) ?_
  · simp only [go_sem, leW, Nat.reduceBEq, Nat.reduceBNe, Nat.reduceLT, Nat.reduceLeDiff, Nat.reduceAdd, Nat.reduceSub, Nat.reduceMul, Nat.reduceEqDiff, Int.reduceNeg, Int.reduceAdd, Int.reduceLT, Int.reduceLE, Int.reduceToNat, ↓reduceIte]
    refine ⟨⟨_, rfl, RVle.of_eq ?_⟩, ⟨_, rfl, RVle_nil⟩, _, rfl, RVle.refl _⟩
    rw [show (((blen n + 1) / 2 + 1 : Nat) : Int) - 1 = (((blen n + 1) / 2 : Nat) : Int) by omega]
  · rintro ⟨⟨j, r⟩, h1, h2, h3⟩
    have hr := limbs_len_mono (Nat.le_trans h2 (rt_le n))
    simp only at h1 h2 h3
    have hp1 : ∀ k : Nat, k = j - 1 → (limbs (2 ^ k)).length ≤ 33 := fun k hk => pow_len (by omega)
    have hp := hp1 _ rfl
    have l1 := limbs_len_add r (2 ^ (j - 1))
    have l2 := limbs_len_mul (r + 2 ^ (j - 1)) (r + 2 ^ (j - 1))
    have ej : (((j : Nat) : Int) - 1).toNat = j - 1 := by omega
    simp only at hr
    simp only [go_sem, d_ref1_Bits, d_ref4_pow2, d_ref1_Add, d_ref1_Mul, d_ref1_Cmp, hn, ej, Nat.reduceBEq, Nat.reduceBNe, Nat.reduceLT, Nat.reduceLeDiff, Nat.reduceAdd, Nat.reduceSub, Nat.reduceMul, Nat.reduceEqDiff, Int.reduceNeg, Int.reduceAdd, Int.reduceLT, Int.reduceLE, Int.reduceToNat, ↓reduceIte]
    split
    · rename_i hj
      have hj : 0 < j := by omega
      have hpw : 2 ^ j = 2 ^ (j - 1) + 2 ^ (j - 1) := by
        obtain ⟨i, rfl⟩ : ∃ i, j = i + 1 := ⟨j - 1, by omega⟩
        rw [Nat.add_sub_cancel, Nat.pow_succ]; omega
      have hspec := rt_spec n
      refine ⟨⟨by omega, by omega⟩, ⟨by omega, by omega⟩, by omega, ⟨by omega, by omega⟩, ?_⟩
      have hcast : ((j : Nat) : Int) - 1 - 1 = (((j - 1 : Nat) : Int)) - 1 := by omega
      split
      · rename_i hle
        have hle2 : r + 2 ^ (j - 1) ≤ rt n := by
          rcases Nat.lt_or_ge (rt n) (r + 2 ^ (j - 1)) with h | h
          · have := Nat.mul_le_mul (show rt n + 1 ≤ r + 2 ^ (j - 1) from h) (show rt n + 1 ≤ r + 2 ^ (j - 1) from h); omega
          · exact h
        refine ⟨⟨by omega, by omega⟩, ⟨(j - 1, r + 2 ^ (j - 1)), by show j - 1 ≤ 962; omega, hle2, by show rt n < r + 2 ^ (j - 1) + 2 ^ (j - 1); omega⟩, by show j - 1 < j; omega, le_of ?_⟩
        simp only [go_sem, leL, hcast, Nat.reduceBEq, Nat.reduceBNe, Nat.reduceLT, Nat.reduceLeDiff, Nat.reduceAdd, Nat.reduceSub, Nat.reduceMul, Nat.reduceEqDiff, Int.reduceNeg, Int.reduceAdd, Int.reduceLT, Int.reduceLE, Int.reduceToNat, ↓reduceIte]
      · rename_i hle
        have hlt : rt n < r + 2 ^ (j - 1) := by
          rcases Nat.lt_or_ge (rt n) (r + 2 ^ (j - 1)) with h | h
          · exact h
          · have := Nat.mul_le_mul h h; omega
        refine ⟨⟨by omega, by omega⟩, ⟨(j - 1, r), by show j - 1 ≤ 962; omega, h2, hlt⟩, by show j - 1 < j; omega, le_of ?_⟩
        simp only [go_sem, leL, hcast, Nat.reduceBEq, Nat.reduceBNe, Nat.reduceLT, Nat.reduceLeDiff, Nat.reduceAdd, Nat.reduceSub, Nat.reduceMul, Nat.reduceEqDiff, Int.reduceNeg, Int.reduceAdd, Int.reduceLT, Int.reduceLE, Int.reduceToNat, ↓reduceIte]
    · rename_i hj
      have hj : j = 0 := by omega
      subst hj
      rw [show r = rt n by omega]

def d_ref4_Root : Den := den1 aLim (fun a => a.length ≤ 60) fun a => natV (rt (val a))
set_option maxRecDepth 100000 in
set_option maxHeartbeats 1000000 in
theorem s_ref4_Root : Sound Try.prog 80 d_ref4_Root := by
  refine sound1 (fz := nofz) (l := [(188, d_ref4_root)]) TT_ok ⟨s_ref4_root, trivial⟩ mixed Try.func80 Try.ntmps80 Try.results80 Try.call80 rfl (by omega) (fun _ => rfl) ?_
  intro a hp ha
  rw [codeK_start]
  simp only [go_sem, d_ref4_root, Nat.reduceBEq, Nat.reduceBNe, Nat.reduceLT, Nat.reduceLeDiff, Nat.reduceAdd, Nat.reduceSub, Nat.reduceMul, Nat.reduceEqDiff, Int.reduceNeg, Int.reduceAdd, Int.reduceLT, Int.reduceLE, Int.reduceToNat, ↓reduceIte]
  exact hp


end Go.Proofs.Ytmfoihjkhoinaaa

namespace Go.Proofs.Ytmfoihjkhoinaaa
open Go.RowKit
set_option linter.unusedSimpArgs false
set_option linter.unusedVariables false

theorem shiftN_hc (m : Nat) (p : Int) : shiftN m (2 * ((hold p : Nat) : Int)) = m * 2 ^ (2 * hold p) := by
  rw [hold_cast]; exact shiftN_hold2 m p
theorem nabs1 : Int.natAbs 1 = 1 := rfl

def d_ref5_zero : Den := den0 (ballV (bb 0 0))
set_option maxRecDepth 100000 in
set_option maxHeartbeats 1000000 in
theorem s_ref5_zero : Sound Try.prog 183 d_ref5_zero := by
  refine sound0 (fz := nofz) (l := [(72, d_ref2_Int), (86, d_ref4_Of)]) TT_ok ⟨s_ref2_Int, s_ref4_Of, trivial⟩ mixed Try.func183 Try.ntmps183 Try.results183 Try.call183 rfl rfl ?_
  rw [codeK_start]
  simp only [go_sem, d_ref2_Int, d_ref4_Of, Nat.reduceBEq, Nat.reduceBNe, Nat.reduceLT, Nat.reduceLeDiff, Nat.reduceAdd, Nat.reduceSub, Nat.reduceMul, Nat.reduceEqDiff, Int.reduceNeg, Int.reduceAdd, Int.reduceLT, Int.reduceLE, Int.reduceToNat, ↓reduceIte]
  exact ⟨(by decide : (1 : Nat) ≤ 100000000000), rfl, rfl, rfl, rfl, rfl, rfl⟩

def d_ref5_Square : Den := den1 aRat (fun a => a.sz ≤ 15) fun a => ratOkV (cr (sqR a.q)) (sqB a.q)
set_option maxRecDepth 100000 in
set_option maxHeartbeats 1000000 in
theorem s_ref5_Square : Sound Try.prog 79 d_ref5_Square := by
  refine sound1 (fz := nofz) (l := [(38, d_ref2_Norm), (80, d_ref4_Root), (44, d_ref1_Mul), (43, d_ref1_Cmp), (72, d_ref2_Int), (106, d_ref2_Of)]) TT_ok ⟨s_ref2_Norm, s_ref4_Root, s_ref1_Mul, s_ref1_Cmp, s_ref2_Int, s_ref2_Of, trivial⟩ mixed Try.func79 Try.ntmps79 Try.results79 Try.call79 rfl (by omega) (fun _ => rfl) ?_
  intro a hp ha
  rw [codeK_start]
  simp only [go_sem, d_ref2_Norm, d_ref4_Root, d_ref1_Mul, d_ref1_Cmp, d_ref2_Int, d_ref2_Of, Nat.reduceBEq, Nat.reduceBNe, Nat.reduceLT, Nat.reduceLeDiff, Nat.reduceAdd, Nat.reduceSub, Nat.reduceMul, Nat.reduceEqDiff, Int.reduceNeg, Int.reduceAdd, Int.reduceLT, Int.reduceLE, Int.reduceToNat, ↓reduceIte]
  have hr := rs_parts (rs_ok ha hp (by omega))
  have l1 := limbs_len_mono (rt_le (nm a.q))
  have l2 := limbs_len_mono (rt_le a.q.den)
  have l3 := limbs_len_mono (rt_spec (nm a.q)).1
  have l4 := limbs_len_mono (rt_spec a.q.den).1
  simp only [cr_s, cr_n, cr_d, val_limbs, cr0]
  refine ⟨by omega, by omega, by omega, by kernel_rfl, ?_⟩
  cases h1 : ng a.q
  · simp only [if_true]
    refine ⟨by omega, ⟨by omega, by omega⟩, ?_⟩
    cases h2 : decide (rt (nm a.q) * rt (nm a.q) = nm a.q)
    · have e := sqB_num (q := a.q) h2
      rw [e, sqR_zero e]
      simp only [Bool.not_false, Bool.true_eq_false, if_false]
      and_intros <;> first | (show okDraw _ _ = true; kernel_rfl) | trivial
    · simp only [Bool.not_true, if_true]
      refine ⟨by omega, ⟨by omega, by omega⟩, by kernel_rfl, ?_⟩
      cases h3 : decide (rt a.q.den * rt a.q.den = a.q.den)
      · have e := sqB_den (q := a.q) h3
        rw [e, sqR_zero e]
        simp only [Bool.not_false, if_true, and_self]
      · have e := sqB_all h1 h2 h3
        rw [e, sqR_some e]
        simp only [Bool.not_true, Bool.false_eq_true, if_false, and_self, and_true]
        exact ⟨by omega, by omega⟩
  · have e := sqB_neg h1
    rw [e, sqR_zero e]
    simp only [Bool.true_eq_false, if_false]
    and_intros <;> first | (show okDraw _ _ = true; kernel_rfl) | trivial

def d_ref5_Sqrt : Den := den2 aRat aInt (fun a _ => a.sz ≤ 15) fun a p => ballOkV (bb (sqLo a.q p) (sqHi a.q p)) (!ng a.q)
set_option maxRecDepth 100000 in
set_option maxHeartbeats 1000000 in
theorem s_ref5_Sqrt : Sound Try.prog 75 d_ref5_Sqrt := by
  refine sound2 (fz := nofz) (l := [(182, d_ref4_Hold), (38, d_ref2_Norm), (183, d_ref5_zero), (79, d_ref5_Square), (86, d_ref4_Of), (169, d_ref1_Shift), (160, d_ref1_DivMod), (80, d_ref4_Root), (184, d_ref4_Rat), (186, d_ref4_Whole), (185, d_ref4_Plus)]) TT_ok ⟨s_ref4_Hold, s_ref2_Norm, s_ref5_zero, s_ref5_Square, s_ref4_Of, s_ref1_Shift, s_ref1_DivMod, s_ref4_Root, s_ref4_Rat, s_ref4_Whole, s_ref4_Plus, trivial⟩ mixed Try.func75 Try.ntmps75 Try.results75 Try.call75 rfl (by omega) (fun _ _ => rfl) ?_
  intro a b hp ha hb
  rw [codeK_start]
  simp only [go_sem, d_ref4_Hold, d_ref2_Norm, d_ref5_zero, d_ref5_Square, d_ref4_Of, d_ref1_Shift, d_ref1_DivMod, d_ref4_Root, d_ref4_Rat, d_ref4_Whole, d_ref4_Plus, Nat.reduceBEq, Nat.reduceBNe, Nat.reduceLT, Nat.reduceLeDiff, Nat.reduceAdd, Nat.reduceSub, Nat.reduceMul, Nat.reduceEqDiff, Int.reduceNeg, Int.reduceAdd, Int.reduceLT, Int.reduceLE, Int.reduceToNat, ↓reduceIte]
  have hr := rs_parts (rs_ok ha hp (by omega))
  have hrs : rs a.q ≤ 15 := rs_ok ha hp (by omega)
  have l1 := limbs_len_mono (rt_le (nm a.q))
  have l2 := limbs_len_mono (rt_le a.q.den)
  have h1l : (limbs 1).length = 1 := rfl
  have hh := hold_le b
  simp only [cr_s, cr_n, cr_d, val_limbs, shiftN_hc, nabs1]
  refine ⟨by omega, ?_⟩
  cases h1 : ng a.q
  · simp only [Bool.false_eq_true, if_false]
    refine ⟨hrs, ?_⟩
    cases h2 : sqB a.q
    · have e1 : sqLo a.q b = qv false (sqI a.q b) (2 ^ hold b) := by unfold sqLo; rw [h1, h2]; rfl
      have e2 : sqHi a.q b = qv false (sqI a.q b + 1) (2 ^ hold b) := by unfold sqHi; rw [h1, h2]; rfl
      have p1 := pow_len (k := 2 * hold b) (by omega)
      have p2 := pow_len (k := hold b) (by omega)
      have l3 := limbs_len_mul (nm a.q) (2 ^ (2 * hold b))
      have l4 := limbs_len_mono (Nat.div_le_self (nm a.q * 2 ^ (2 * hold b)) a.q.den)
      have l5 := limbs_len_mono (rt_le (nm a.q * 2 ^ (2 * hold b) / a.q.den))
      have l6 := limbs_len_add (rt (nm a.q * 2 ^ (2 * hold b) / a.q.den)) 1
      simp only [Bool.false_eq_true, if_false, e1, e2, sqI, and_self, and_true, Bool.not_false]
      and_intros
      all_goals first
        | omega
        | trivial
        | (exact decide_eq_false (fun h => h))
        | (show okDraw _ _ = true; kernel_rfl)
    · have e1 : sqLo a.q b = sqR a.q := by unfold sqLo; rw [h1, h2]; rfl
      have e2 : sqHi a.q b = sqR a.q := by unfold sqHi; rw [h1, h2]; rfl
      have l3 : rs (sqR a.q) ≤ 100000000000 := by
        rw [sqR_some h2]
        exact rs_qv _ _ _ _ (by omega) (by omega) (by omega)
      simp only [if_true, e1, e2, and_self, and_true, Bool.not_false]
      exact l3
  · have e1 : sqLo a.q b = 0 := by unfold sqLo; rw [h1]; rfl
    have e2 : sqHi a.q b = 0 := by unfold sqHi; rw [h1]; rfl
    simp only [if_true, e1, e2, and_self, Bool.not_true]

def d_ref5_Of : Den := den2 aBall aInt (fun a _ => a.sz ≤ 15) fun a p => ballOkV (bb (if ng a.lo.q = true ∨ ng a.hi.q = true then 0 else sqLo a.lo.q p) (if ng a.lo.q = true ∨ ng a.hi.q = true then 0 else sqHi a.hi.q p)) (!ng a.lo.q && !ng a.hi.q)
set_option maxRecDepth 100000 in
set_option maxHeartbeats 1000000 in
theorem s_ref5_Of : Sound Try.prog 77 d_ref5_Of := by
  refine sound2 (fz := nofz) (l := [(75, d_ref5_Sqrt), (183, d_ref5_zero)]) TT_ok ⟨s_ref5_Sqrt, s_ref5_zero, trivial⟩ mixed Try.func77 Try.ntmps77 Try.results77 Try.call77 rfl (by omega) (fun _ _ => rfl) ?_
  intro a b hp ha hb
  rw [codeK_start]
  simp only [go_sem, d_ref5_Sqrt, d_ref5_zero, Nat.reduceBEq, Nat.reduceBNe, Nat.reduceLT, Nat.reduceLeDiff, Nat.reduceAdd, Nat.reduceSub, Nat.reduceMul, Nat.reduceEqDiff, Int.reduceNeg, Int.reduceAdd, Int.reduceLT, Int.reduceLE, Int.reduceToNat, ↓reduceIte]
  have l := BB.lens hp
  refine ⟨by omega, by omega, ?_⟩
  cases h1 : ng a.lo.q <;> cases h2 : ng a.hi.q <;> simp

def bigR (r : RR) : Bool := decide (3 < r.n.length) || decide (3 < r.d.length)

def d_law5_big : Den := den1 aRats (fun l => l.length ≤ 1000 ∧ ∀ r ∈ l, r.sz ≤ 100000000000000) fun l => boolV (l.any bigR)
set_option maxRecDepth 100000 in
set_option maxHeartbeats 1000000 in
theorem s_law5_big : Sound Try.prog 37 d_law5_big := by
  refine sound1 (fz := nofz) (l := []) TT_ok trivial mixed Try.func37 Try.ntmps37 Try.results37 Try.call37 rfl (by omega) (fun _ => rfl) ?_
  intro a hp ha
  rw [codeK_start]
  simp only [go_sem, Nat.reduceBEq, Nat.reduceBNe, Nat.reduceLT, Nat.reduceLeDiff, Nat.reduceAdd, Nat.reduceSub, Nat.reduceMul, Nat.reduceEqDiff, Int.reduceNeg, Int.reduceAdd, Int.reduceLT, Int.reduceLE, Int.reduceToNat, ↓reduceIte]
  refine codeK_loop (fun i : { i : Nat // i ≤ a.length ∧ (a.take i).any bigR = false } => [(3, 0, .av (intV (i.1 : Nat))), (2, 0, .av (boolV false)), (0, 0, .av (ratsV a))]) (fun i => a.length - i.1) ⟨0, by omega, by simp⟩ (le_of ?_) ?_
  · simp only [go_sem, leL, Nat.reduceBEq, Nat.reduceBNe, Nat.reduceLT, Nat.reduceLeDiff, Nat.reduceAdd, Nat.reduceSub, Nat.reduceMul, Nat.reduceEqDiff, Int.reduceNeg, Int.reduceAdd, Int.reduceLT, Int.reduceLE, Int.reduceToNat, ↓reduceIte, Int.ofNat_zero, Int.natCast_zero, Int.cast_ofNat_Int]
  · rintro ⟨i, hi0, hs0⟩
    by_cases hi : i < a.length
    · have hm := hp.2 _ (getD_mem (d := rr0) hi)
      have hst : (a.take (i + 1)).any bigR = bigR (a.getD i rr0) := by
        rw [List.take_succ_eq_append_getElem hi, List.any_append, hs0, List.getD_eq_getElem?_getD, List.getElem?_eq_getElem hi]
        simp
      simp only [go_sem, getD_rats hi, Int.ofNat_lt, hi, Nat.reduceBEq, Nat.reduceBNe, Nat.reduceLT, Nat.reduceLeDiff, Nat.reduceAdd, Nat.reduceSub, Nat.reduceMul, Nat.reduceEqDiff, Int.reduceNeg, Int.reduceAdd, Int.reduceLT, Int.reduceLE, Int.reduceToNat, ↓reduceIte]
      have hall : bigR (a.getD i rr0) = true → a.any bigR = true := fun h => List.any_eq_true.2 ⟨_, getD_mem hi, h⟩
      split
      · rename_i h1
        have h1 : ¬ (3 < ((a.getD i rr0).n.length : Int)) := of_decide_eq_false h1
        split
        · rename_i h2
          refine (hall ?_).symm
          unfold bigR
          rw [Bool.or_eq_true]
          exact .inr (decide_eq_true (by omega))
        · rename_i h2
          have hb : bigR (a.getD i rr0) = false := by
            unfold bigR
            rw [Bool.or_eq_false_iff]
            exact ⟨decide_eq_false (by omega), decide_eq_false (by omega)⟩
          refine ⟨⟨by omega, by omega⟩, ⟨⟨i + 1, by omega, by rw [hst]; exact hb⟩, by show _ < _; simp only []; omega, le_of ?_⟩⟩
          simp only [go_sem, leL, Nat.reduceBEq, Nat.reduceBNe, Nat.reduceLT, Nat.reduceLeDiff, Nat.reduceAdd, Nat.reduceSub, Nat.reduceMul, Nat.reduceEqDiff, Int.reduceNeg, Int.reduceAdd, Int.reduceLT, Int.reduceLE, Int.reduceToNat, ↓reduceIte]
          omega
      · rename_i h1
        have h1 : 3 < ((a.getD i rr0).n.length : Int) := by
          rcases Classical.em (3 < ((a.getD i rr0).n.length : Int)) with h | h
          · exact h
          · exact absurd (decide_eq_false h) h1
        refine (hall ?_).symm
        unfold bigR
        rw [Bool.or_eq_true]
        exact .inl (decide_eq_true (by omega))
    · simp only [go_sem, Int.ofNat_lt, hi, Nat.reduceBEq, Nat.reduceBNe, Nat.reduceLT, Nat.reduceLeDiff, Nat.reduceAdd, Nat.reduceSub, Nat.reduceMul, Nat.reduceEqDiff, Int.reduceNeg, Int.reduceAdd, Int.reduceLT, Int.reduceLE, Int.reduceToNat, ↓reduceIte]
      have e : i = a.length := by omega
      subst e
      rw [List.take_length] at hs0
      exact hs0.symm

def d_law5_known : Den := den0 (boolV true)
set_option maxRecDepth 100000 in
set_option maxHeartbeats 1000000 in
theorem s_law5_known : Sound Try.prog 48 d_law5_known := by
  refine sound0 (fz := nofz) (l := [(72, d_ref2_Int), (41, d_root_Sqrt), (106, d_ref2_Of), (81, d_ref4_Same)]) TT_ok ⟨s_ref2_Int, s_root_Sqrt, s_ref2_Of, s_ref4_Same, trivial⟩ mixed Try.func48 Try.ntmps48 Try.results48 Try.call48 rfl rfl ?_
  rw [codeK_start]
  simp only [go_sem, d_ref2_Int, d_root_Sqrt, d_ref2_Of, d_ref4_Same, Nat.reduceBEq, Nat.reduceBNe, Nat.reduceLT, Nat.reduceLeDiff, Nat.reduceAdd, Nat.reduceSub, Nat.reduceMul, Nat.reduceEqDiff, Int.reduceNeg, Int.reduceAdd, Int.reduceLT, Int.reduceLE, Int.reduceToNat, ↓reduceIte]
  have e0 : ng ((2 : Int) : Rat) = false := by decide +kernel
  have e1 : sqLo ((2 : Int) : Rat) 3 = qv false (val [11]) (val [8]) := by decide +kernel
  have e2 : sqHi ((2 : Int) : Rat) 3 = qv false (val [3]) (val [2]) := by decide +kernel
  rw [e0, e1, e2]
  refine ⟨by decide +kernel, ?_⟩
  rw [if_pos (show (!false) = true from rfl)]
  refine ⟨⟨by decide +kernel, by decide +kernel⟩, by kernel_rfl, ?_⟩
  unfold sameB
  simp


end Go.Proofs.Ytmfoihjkhoinaaa
