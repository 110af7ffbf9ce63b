/- ball.Of, root.whole, Square, Sqrt, Of by the abstract walk. Conditions: numbers of at most 10^8 limbs. -/
import Derived.Test.YtdojdghhbjjoeaaAq
namespace Go.Proofs.Ytdojdghhbjjoeaa
open Go.RowKit
set_option linter.unusedSimpArgs false
set_option linter.unusedVariables false

def bb (lo hi : Rat) : BB := ⟨cr lo, cr hi⟩
def ballOkV (b : BB) (ok : Bool) : AV := .tup [.agg (ballCells b), .cel (.bool ok)]
attribute [go_sem] bb ballOkV

/-- is n a square? -/
def sqn (n : Nat) : Bool := decide (rt n * rt n = n)
def sqB (q : Rat) : Bool := !ng q && (sqn (nm q) && sqn q.den)
def sqR (q : Rat) : Rat := if sqB q = true then qv false (rt (nm q)) (rt q.den) else 0
def hold (p : Int) : Nat := (min (max p 0) 512).toNat
def sqI (q : Rat) (p : Int) : Nat := rt (nm q * 2 ^ (2 * hold p) / q.den)
def sqLo (q : Rat) (p : Int) : Rat := if ng q = true then 0 else if sqB q = true then sqR q else qv false (sqI q p) (2 ^ hold p)
def sqHi (q : Rat) (p : Int) : Rat := if ng q = true then 0 else if sqB q = true then sqR q else qv false (sqI q p + 1) (2 ^ hold p)

theorem rt_le (n : Nat) : rt n ≤ n := by
  obtain ⟨h, _⟩ := rt_spec n
  rcases Nat.eq_zero_or_pos (rt n) with h0 | h0
  · omega
  · have := Nat.le_mul_of_pos_right (rt n) h0; omega
theorem hold_le (p : Int) : hold p ≤ 512 := by unfold hold; omega
theorem hold_cast (p : Int) : ((hold p : Nat) : Int) = min (max p 0) 512 := by unfold hold; omega
theorem shiftN_hold (m : Nat) (p : Int) : shiftN m (min (max p 0) 512) = m * 2 ^ hold p := by
  unfold shiftN
  rw [if_pos (by omega)]; rfl
theorem shiftN_hold2 (m : Nat) (p : Int) : shiftN m (2 * min (max p 0) 512) = m * 2 ^ (2 * hold p) := by
  unfold shiftN
  rw [if_pos (by omega), show (2 * min (max p 0) 512).toNat = 2 * hold p by unfold hold; omega]
theorem pow_lim {k m : Nat} (h : k < 32 * m) : 2 ^ k < 4294967296 ^ m := by
  rw [show (4294967296 : Nat) = 2 ^ 32 from rfl, ← Nat.pow_mul]
  exact Nat.pow_lt_pow_right (by omega) h
theorem pow_len {k : Nat} (h : k < 1056) : (limbs (2 ^ k)).length ≤ 33 := limbs_len_le (pow_lim h)
theorem sqR_zero {q : Rat} (h : sqB q = false) : sqR q = 0 := by unfold sqR; rw [h]; rfl
theorem sqR_some {q : Rat} (h : sqB q = true) : sqR q = qv false (rt (nm q)) (rt q.den) := by unfold sqR; rw [if_pos h]
theorem sqB_neg {q : Rat} (h : ng q = true) : sqB q = false := by unfold sqB; rw [h]; rfl
theorem sqB_num {q : Rat} (h : sqn (nm q) = false) : sqB q = false := by unfold sqB; rw [h]; simp
theorem sqB_den {q : Rat} (h : sqn q.den = false) : sqB q = false := by unfold sqB; rw [h]; simp
theorem sqB_all {q : Rat} (h1 : ng q = false) (h2 : sqn (nm q) = true) (h3 : sqn q.den = true) : sqB q = true := by unfold sqB; rw [h1, h2, h3]; rfl
theorem rs_parts {q : Rat} {K : Nat} (h : rs q ≤ K) : (limbs (nm q)).length ≤ K ∧ (limbs q.den).length ≤ K := ⟨Nat.le_trans (Nat.le_max_left _ _) h, Nat.le_trans (Nat.le_max_right _ _) h⟩
theorem cr0 : cr ((0 : Int) : Rat) = cr 0 := rfl

def d_ball_Of : Den := den1 aRat (fun a => a.sz ≤ 1000000000000) fun a => ballV (bb a.q a.q)
set_option maxRecDepth 100000 in
set_option maxHeartbeats 1000000 in
theorem s_ball_Of : Sound Try.prog 83 d_ball_Of := by
  refine sound1 (fz := nofz) (l := [(48, d_rat_Norm)]) TT_ok ⟨s_rat_Norm, trivial⟩ mixed Try.func83 Try.ntmps83 Try.results83 Try.call83 rfl (by omega) (fun _ => rfl) ?_
  intro a hp ha
  rw [codeK_start]
  simp only [go_sem, d_rat_Norm, Nat.reduceBEq, Nat.reduceBNe, Nat.reduceLT, Nat.reduceLeDiff, Nat.reduceAdd, Nat.reduceSub, Nat.reduceMul, Nat.reduceEqDiff, Int.reduceNeg, Int.reduceAdd, Int.reduceLT, Int.reduceLE, Int.reduceToNat, ↓reduceIte]
  exact ⟨hp, hp, by kernel_rfl⟩

def d_root_whole : Den := den1 aLim (fun a => a.length ≤ 1000000000) fun a => natOkV (rt (val a)) (sqn (val a))
set_option maxRecDepth 100000 in
set_option maxHeartbeats 1000000 in
theorem s_root_whole : Sound Try.prog 86 d_root_whole := by
  refine sound1 (fz := nofz) (l := [(30, d_root_Int), (69, d_nat_Mul), (80, d_nat_Cmp)]) TT_ok ⟨s_root_Int, s_nat_Mul, s_nat_Cmp, trivial⟩ mixed Try.func86 Try.ntmps86 Try.results86 Try.call86 rfl (by omega) (fun _ => rfl) ?_
  intro a hp ha
  rw [codeK_start]
  simp only [go_sem, d_root_Int, d_nat_Mul, d_nat_Cmp, Nat.reduceBEq, Nat.reduceBNe, Nat.reduceLT, Nat.reduceLeDiff, Nat.reduceAdd, Nat.reduceSub, Nat.reduceMul, Nat.reduceEqDiff, Int.reduceNeg, Int.reduceAdd, Int.reduceLT, Int.reduceLE, Int.reduceToNat, ↓reduceIte]
  have l0 := limbs_len_val (xs := a) ha
  have l1 := limbs_len_mono (rt_le (val a))
  have l2 := limbs_len_mono (rt_spec (val a)).1
  exact ⟨hp, by omega, ⟨by omega, by omega⟩, rfl⟩

def d_root_Square : Den := den1 aRat (fun a => a.sz ≤ 100000000) fun a => ratOkV (cr (sqR a.q)) (sqB a.q)
set_option maxRecDepth 100000 in
set_option maxHeartbeats 1000000 in
theorem s_root_Square : Sound Try.prog 40 d_root_Square := by
  refine sound1 (fz := nofz) (l := [(48, d_rat_Norm), (86, d_root_whole), (27, d_rat_Int), (59, d_rat_Of)]) TT_ok ⟨s_rat_Norm, s_root_whole, s_rat_Int, s_rat_Of, trivial⟩ mixed Try.func40 Try.ntmps40 Try.results40 Try.call40 rfl (by omega) (fun _ => rfl) ?_
  intro a hp ha
  rw [codeK_start]
  simp only [go_sem, d_rat_Norm, d_root_whole, d_rat_Int, d_rat_Of, Nat.reduceBEq, Nat.reduceBNe, Nat.reduceLT, Nat.reduceLeDiff, Nat.reduceAdd, Nat.reduceSub, Nat.reduceMul, Nat.reduceEqDiff, Int.reduceNeg, Int.reduceAdd, Int.reduceLT, Int.reduceLE, Int.reduceToNat, ↓reduceIte]
  have hr := rs_parts (rs_ok ha hp (by omega))
  have l1 := limbs_len_mono (rt_le (nm a.q))
  have l2 := limbs_len_mono (rt_le a.q.den)
  simp only [cr_s, cr_n, cr_d, val_limbs, cr0]
  refine ⟨by omega, by omega, by omega, ?_⟩
  cases h1 : ng a.q
  · cases h2 : sqn (nm a.q)
    · rw [sqB_num h2, sqR_zero (sqB_num h2)]; simp [parts_zero]
    · cases h3 : sqn a.q.den
      · rw [sqB_den h3, sqR_zero (sqB_den h3)]; simp [parts_zero]
      · rw [sqB_all h1 h2 h3, sqR_some (sqB_all h1 h2 h3)]
        simp only [Bool.not_true, if_true, if_false, Bool.false_eq_true, and_self, and_true]
        exact ⟨by omega, by omega⟩
  · rw [sqB_neg h1, sqR_zero (sqB_neg h1)]; simp [parts_zero]

def d_root_Sqrt : Den := den2 aRat aInt (fun a _ => a.sz ≤ 100000000) fun a p => ballOkV (bb (sqLo a.q p) (sqHi a.q p)) (!ng a.q)
set_option maxRecDepth 100000 in
set_option maxHeartbeats 1000000 in
theorem s_root_Sqrt : Sound Try.prog 32 d_root_Sqrt := by
  refine sound2 (fz := nofz) (l := [(48, d_rat_Norm), (27, d_rat_Int), (83, d_ball_Of), (40, d_root_Square), (79, d_nat_Shift), (78, d_nat_DivMod), (30, d_root_Int), (76, d_nat_Of), (59, d_rat_Of), (70, d_nat_Add)]) TT_ok ⟨s_rat_Norm, s_rat_Int, s_ball_Of, s_root_Square, s_nat_Shift, s_nat_DivMod, s_root_Int, s_nat_Of, s_rat_Of, s_nat_Add, trivial⟩ mixed Try.func32 Try.ntmps32 Try.results32 Try.call32 rfl (by omega) (fun _ _ => rfl) ?_
  intro a b hp ha hb
  rw [codeK_start]
  simp only [go_sem, d_rat_Norm, d_rat_Int, d_ball_Of, d_root_Square, d_nat_Shift, d_nat_DivMod, d_root_Int, d_nat_Of, d_rat_Of, d_nat_Add, Nat.reduceBEq, Nat.reduceBNe, Nat.reduceLT, Nat.reduceLeDiff, Nat.reduceAdd, Nat.reduceSub, Nat.reduceMul, Nat.reduceEqDiff, Int.reduceNeg, Int.reduceAdd, Int.reduceLT, Int.reduceLE, Int.reduceToNat, ↓reduceIte]
  have hr := rs_parts (rs_ok ha hp (by omega))
  have hrs : rs a.q ≤ 100000000 := rs_ok ha hp (by omega)
  have l1 := limbs_len_mono (rt_le (nm a.q))
  have l2 := limbs_len_mono (rt_le a.q.den)
  have h1l : (limbs 1).length = 1 := rfl
  simp only [cr_s, cr_n, cr_d, val_limbs, cr0, shiftN_hold, shiftN_hold2, Nat.one_mul]
  refine ⟨by omega, ?_⟩
  cases h1 : ng a.q
  · simp only [Bool.false_eq_true, if_false]
    refine ⟨hrs, ?_⟩
    cases h2 : sqB a.q
    · have e1 : sqLo a.q b = qv false (sqI a.q b) (2 ^ hold b) := by unfold sqLo; rw [h1, h2]; rfl
      have e2 : sqHi a.q b = qv false (sqI a.q b + 1) (2 ^ hold b) := by unfold sqHi; rw [h1, h2]; rfl
      have p1 := pow_len (k := 2 * hold b) (by have := hold_le b; omega)
      have p2 := pow_len (k := hold b) (by have := hold_le b; omega)
      have l3 := limbs_len_mul (nm a.q) (2 ^ (2 * hold b))
      have l4 := limbs_len_mono (Nat.div_le_self (nm a.q * 2 ^ (2 * hold b)) a.q.den)
      have l5 := limbs_len_mono (rt_le (nm a.q * 2 ^ (2 * hold b) / a.q.den))
      have l6 := limbs_len_add (rt (nm a.q * 2 ^ (2 * hold b) / a.q.den)) 1
      simp only [Bool.false_eq_true, if_false, e1, e2, sqI, and_self, and_true, Bool.not_false]
      and_intros
      all_goals first
        | omega
        | trivial
        | (show okDraw _ _ = true; kernel_rfl)
    · have e1 : sqLo a.q b = sqR a.q := by unfold sqLo; rw [h1, h2]; rfl
      have e2 : sqHi a.q b = sqR a.q := by unfold sqHi; rw [h1, h2]; rfl
      have l3 : rs (sqR a.q) ≤ 1000000000000 := by
        rw [sqR_some h2]
        exact rs_qv _ _ _ _ (by omega) (by omega) (by omega)
      simp only [if_true, e1, e2, and_self, and_true, Bool.not_false]
      exact l3
  · have e1 : sqLo a.q b = 0 := by unfold sqLo; rw [h1]; rfl
    have e2 : sqHi a.q b = 0 := by unfold sqHi; rw [h1]; rfl
    simp only [if_true, e1, e2, and_self, and_true, Bool.not_true]
    exact (by decide : (1 : Nat) ≤ 1000000000000)

def d_root_Of : Den := den2 aBall aInt (fun a _ => a.sz ≤ 100000000) fun a p => ballOkV (bb (if ng a.lo.q = true ∨ ng a.hi.q = true then 0 else sqLo a.lo.q p) (if ng a.lo.q = true ∨ ng a.hi.q = true then 0 else sqHi a.hi.q p)) (!ng a.lo.q && !ng a.hi.q)
set_option maxRecDepth 100000 in
set_option maxHeartbeats 1000000 in
theorem s_root_Of : Sound Try.prog 62 d_root_Of := by
  refine sound2 (fz := nofz) (l := [(32, d_root_Sqrt), (27, d_rat_Int), (83, d_ball_Of)]) TT_ok ⟨s_root_Sqrt, s_rat_Int, s_ball_Of, trivial⟩ mixed Try.func62 Try.ntmps62 Try.results62 Try.call62 rfl (by omega) (fun _ _ => rfl) ?_
  intro a b hp ha hb
  rw [codeK_start]
  simp only [go_sem, d_root_Sqrt, d_rat_Int, d_ball_Of, Nat.reduceBEq, Nat.reduceBNe, Nat.reduceLT, Nat.reduceLeDiff, Nat.reduceAdd, Nat.reduceSub, Nat.reduceMul, Nat.reduceEqDiff, Int.reduceNeg, Int.reduceAdd, Int.reduceLT, Int.reduceLE, Int.reduceToNat, ↓reduceIte]
  have hlo : a.lo.sz ≤ 100000000 := Nat.le_trans (Nat.le_max_left _ _) hp
  have hhi : a.hi.sz ≤ 100000000 := Nat.le_trans (Nat.le_max_right _ _) hp
  have hz : rs (0 : Rat) ≤ 1000000000000 := (by decide : (1 : Nat) ≤ 1000000000000)
  refine ⟨hlo, hhi, ?_⟩
  cases h1 : ng a.lo.q <;> cases h2 : ng a.hi.q <;> simp [cr0, hz]


end Go.Proofs.Ytdojdghhbjjoeaa
