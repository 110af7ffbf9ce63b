/- ball: Is, Add, Sub, around, Mul, zero, Div, Neg, Abs, power, Pow, held, Down, Up, Trim, Width, Has, Within, Side, Meet, by the abstract walk. Conditions: numbers of at most 10^8 limbs. -/
import Derived.Test.YtjfaefgabaimaaaGreatBb
namespace Go.Proofs.YtjfaefgabaimaaaGreat
open Go.RowKit
set_option linter.unusedSimpArgs false
set_option linter.unusedVariables false

def aroundLo (q : Rat) (l : List RR) : Rat := l.foldl (fun m r => mn m r.q) q
def aroundHi (q : Rat) (l : List RR) : Rat := l.foldl (fun m r => mx m r.q) q
theorem arLo_next (q : Rat) {l : List RR} {i : Nat} (h : i < l.length) : aroundLo q (l.take (i + 1)) = mn (aroundLo q (l.take i)) (l.getD i rr0).q := by
  unfold aroundLo
  rw [List.take_succ_eq_append_getElem h, List.foldl_append, List.getD_eq_getElem?_getD, List.getElem?_eq_getElem h]
  rfl
theorem arHi_next (q : Rat) {l : List RR} {i : Nat} (h : i < l.length) : aroundHi q (l.take (i + 1)) = mx (aroundHi q (l.take i)) (l.getD i rr0).q := by
  unfold aroundHi
  rw [List.take_succ_eq_append_getElem h, List.foldl_append, List.getD_eq_getElem?_getD, List.getElem?_eq_getElem h]
  rfl
theorem rs_arLo {K : Nat} : ∀ {l : List RR} {q : Rat}, rs q ≤ K → (∀ r ∈ l, rs r.q ≤ K) → rs (aroundLo q l) ≤ K
  | [], _, h, _ => h
  | x :: l, q, h, hl => rs_arLo (l := l) (q := mn q x.q) (rsb_mn h (hl x (by simp))) (fun r hr => hl r (by simp [hr]))
theorem rs_arHi {K : Nat} : ∀ {l : List RR} {q : Rat}, rs q ≤ K → (∀ r ∈ l, rs r.q ≤ K) → rs (aroundHi q l) ≤ K
  | [], _, h, _ => h
  | x :: l, q, h, hl => rs_arHi (l := l) (q := mx q x.q) (rsb_mx h (hl x (by simp))) (fun r hr => hl r (by simp [hr]))
theorem rs_twoP {h : Nat} (hh : h ≤ 512) : rs (twoP h) ≤ 33 := rs_qv _ _ _ _ (pow_len (by omega)) (by decide) (by omega)
theorem rs_unitP {h : Nat} (hh : h ≤ 1000) : rs (unitP h) ≤ 33 := rs_qv _ _ _ _ (by decide) (pow_len (by omega)) (by omega)

def d_ball_Is : Den := den1 aBall (fun a => a.sz ≤ 1000000000) fun a => boolV (isB a)
def d_ball_Add : Den := den2 aBall aBall (fun a b => a.sz ≤ 100000000 ∧ b.sz ≤ 100000000) fun a b => ballV (bb (a.lo.q + b.lo.q) (a.hi.q + b.hi.q))
def d_ball_Sub : Den := den2 aBall aBall (fun a b => a.sz ≤ 100000000 ∧ b.sz ≤ 100000000) fun a b => ballV (bb (a.lo.q - b.hi.q) (a.hi.q - b.lo.q))
def d_ball_around : Den := den2 aRat aRats (fun a l => a.sz ≤ 1000000000 ∧ l.length ≤ 1000 ∧ ∀ r ∈ l, r.sz ≤ 1000000000) fun a l => ballV (bb (aroundLo a.q l) (aroundHi a.q l))
theorem all1 {x : RR} {K : Nat} (h1 : x.sz ≤ K) : ∀ r ∈ [x], r.sz ≤ K := by intro r hr; simp only [List.mem_cons, List.not_mem_nil, or_false] at hr; subst hr; exact h1
theorem around_mul_lo (a b : BB) : aroundLo (a.lo.q * b.lo.q) [cr (a.lo.q * b.hi.q), cr (a.hi.q * b.lo.q), cr (a.hi.q * b.hi.q)] = mulLo a b := by
  simp only [aroundLo, List.foldl_cons, List.foldl_nil, cr_q]; rfl
theorem around_mul_hi (a b : BB) : aroundHi (a.lo.q * b.lo.q) [cr (a.lo.q * b.hi.q), cr (a.hi.q * b.lo.q), cr (a.hi.q * b.hi.q)] = mulHi a b := by
  simp only [aroundHi, List.foldl_cons, List.foldl_nil, cr_q]; rfl
theorem rs_mulLo {a b : BB} {K : Nat} (h1 : rs a.lo.q ≤ K) (h2 : rs a.hi.q ≤ K) (h3 : rs b.lo.q ≤ K) (h4 : rs b.hi.q ≤ K) : rs (mulLo a b) ≤ 2 * K :=
  rs_accLo (K := 2 * K) (fun i => by unfold prods; split <;> (refine rsb_mul ‹_› ‹_› ?_; omega)) 3
theorem rs_mulHi {a b : BB} {K : Nat} (h1 : rs a.lo.q ≤ K) (h2 : rs a.hi.q ≤ K) (h3 : rs b.lo.q ≤ K) (h4 : rs b.hi.q ≤ K) : rs (mulHi a b) ≤ 2 * K :=
  rs_accHi (K := 2 * K) (fun i => by unfold prods; split <;> (refine rsb_mul ‹_› ‹_› ?_; omega)) 3
theorem rs_one_by {q : Rat} {K : Nat} (h : rs q ≤ K) : rs (1 / q) ≤ 1 + K := rsb_div (rs1 (Nat.le_refl _)) h (Nat.le_refl _)
theorem rs_absLo {l h : Rat} {K : Nat} (h1 : rs l ≤ K) (h2 : rs h ≤ K) (hK : 1 ≤ K) : rs (absLo l h) ≤ K := by
  unfold absLo
  split
  · exact h1
  · split
    · exact rsb_neg h2
    · exact rs0 hK
theorem rs_absHi {l h : Rat} {K : Nat} (h1 : rs l ≤ K) (h2 : rs h ≤ K) : rs (absHi l h) ≤ K := by
  unfold absHi
  split
  · exact h2
  · split
    · exact rsb_neg h1
    · exact rsb_mx (rsb_neg h1) h2
theorem rs_dn {q : Rat} {K h : Nat} (h1 : rs q ≤ K) (hh : h ≤ 512) : rs (dn q h) ≤ K + 67 :=
  rsb_mul (rsb_floor (rsb_mul h1 (rs_twoP hh) (Nat.le_refl _)) (Nat.le_refl _)) (rs_unitP (by omega)) (by omega)
theorem rs_up {q : Rat} {K h : Nat} (h1 : rs q ≤ K) (hh : h ≤ 512) : rs (up q h) ≤ K + 67 := rsb_neg (rs_dn (rsb_neg h1) hh)
theorem and_1 {n : Int} (h0 : 0 ≤ n) (h1 : n ≤ 64) : bitsI .and .i64 n 1 = n % 2 := by
  obtain ⟨m, rfl⟩ := Int.eq_ofNat_of_zero_le h0
  have : ∀ m : Fin 65, bitsI .and .i64 (m.val : Int) 1 = (m.val : Int) % 2 := by decide +kernel
  exact this ⟨m, by omega⟩
theorem qv_over {q : Rat} (h : q.den = 1) (m : Nat) : qv (ng q) (nm q) m = q * qv false 1 m := by
  conv => rhs; rw [← qv_self q]
  rw [qv_mul, h, Nat.mul_one, Nat.one_mul, Bool.bne_false]
theorem shift_hold (b : Int) : shiftN 1 ((hold b : Nat) : Int) = 2 ^ hold b := by
  unfold shiftN
  rw [if_pos (by omega), Nat.one_mul, Int.toNat_natCast]
theorem two_mul_qv (x : Rat) (h : Nat) : x * qv false (2 ^ h) 1 = x * twoP h := rfl

def d_ball_Mul : Den := den2 aBall aBall (fun a b => a.sz ≤ 100000000 ∧ b.sz ≤ 100000000) fun a b => ballV (bb (mulLo a b) (mulHi a b))
def d_ball_zero : Den := den0 (ratV (cr 0))
def d_ball_Has : Den := den2 aBall aRat (fun a b => a.sz ≤ 1000000000 ∧ b.sz ≤ 1000000000) fun a b => boolV (hasB a.lo.q a.hi.q b.q)
def d_ball_Neg : Den := den1 aBall (fun a => a.sz ≤ 100000000) fun a => ballV (bb (-a.hi.q) (-a.lo.q))
set_option maxRecDepth 100000 in
set_option maxHeartbeats 1000000 in
theorem s_ball_Neg : Sound Tryz.prog 53 d_ball_Neg := by
  refine sound1 (fz := nofz) (l := [(95, d_rat_Neg)]) TT_ok ⟨s_rat_Neg, trivial⟩ mixed Tryz.func53 Tryz.ntmps53 Tryz.results53 Tryz.call53 rfl (by omega) (fun _ => rfl) ?_
  intro a hp ha
  rw [codeK_start]
  simp only [go_sem, d_rat_Neg, Nat.reduceBEq, Nat.reduceBNe, Nat.reduceLT, Nat.reduceLeDiff, Nat.reduceAdd, Nat.reduceSub, Nat.reduceMul, Nat.reduceEqDiff, Int.reduceNeg, Int.reduceAdd, Int.reduceLT, Int.reduceLE, Int.reduceToNat, ↓reduceIte]
  have l := BB.lens hp
  have q1 : rs a.lo.q ≤ 100000000 := rs_ok ha.1 l.1 (by omega)
  have q2 : rs a.hi.q ≤ 100000000 := rs_ok ha.2 l.2 (by omega)
  and_intros
  all_goals first
    | exact trivial
    | assumption
    | omega
    | (show okDraw _ _ = true; kernel_rfl)
    | rfl
    | ((repeat' first | assumption | exact Nat.le_refl _ | apply rsb_add | apply rsb_sub | apply rsb_div | apply rsb_mul | apply rsb_neg) <;> omega)

def d_ball_Abs : Den := den1 aBall (fun a => a.sz ≤ 100000000 ∧ a.lo.q ≤ a.hi.q) fun a => ballV (bb (absLo a.lo.q a.hi.q) (absHi a.lo.q a.hi.q))
def d_ball_power : Den := den2 aRat aInt (fun a n => a.sz ≤ 100000000 ∧ 0 ≤ n ∧ n ≤ 64) fun a n => ratV (cr (qpow a.q n.toNat))
def d_ball_Pow : Den := den2 aBall aInt (fun a _ => a.sz ≤ 100000000 ∧ a.lo.q ≤ a.hi.q) fun a n => ballV (bb (powLo a.lo.q a.hi.q (pn n)) (powHi a.lo.q a.hi.q (pn n)))
def d_ball_held : Den := den1 aInt (fun _ => True) fun p => intV ((hold p : Nat) : Int)
def d_ball_Down : Den := den2 aRat aInt (fun a _ => a.sz ≤ 100000000) fun a p => ratV (cr (dn a.q (hold p)))
def d_ball_Up : Den := den2 aRat aInt (fun a _ => a.sz ≤ 10000000) fun a p => ratV (cr (up a.q (hold p)))
def d_ball_Trim : Den := den2 aBall aInt (fun a _ => a.sz ≤ 10000000) fun a p => ballV (bb (dn a.lo.q (hold p)) (up a.hi.q (hold p)))
def d_ball_Width : Den := den1 aBall (fun a => a.sz ≤ 100000000) fun a => ratV (cr (a.hi.q - a.lo.q))
def d_ball_Within : Den := den2 aBall aBall (fun a b => a.sz ≤ 1000000000 ∧ b.sz ≤ 1000000000) fun a b => boolV (hasB b.lo.q b.hi.q a.lo.q && hasB b.lo.q b.hi.q a.hi.q)
def d_ball_Side : Den := den2 aBall aBall (fun a b => a.sz ≤ 1000000000 ∧ b.sz ≤ 1000000000) fun a b => intV (sideI a b)
def d_ball_Meet : Den := den2 aBall aBall (fun a b => a.sz ≤ 100000000 ∧ b.sz ≤ 100000000) fun a b => ballOkV (bb (meetLo a b) (meetHi a b)) (decide (sideI a b = 0))
end Go.Proofs.YtjfaefgabaimaaaGreat
