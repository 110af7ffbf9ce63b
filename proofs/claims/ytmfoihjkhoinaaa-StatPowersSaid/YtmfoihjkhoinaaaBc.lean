/- ball: Is, Add, Sub, around, Mul, zero, Div, Neg, Abs, power, Pow, held, Down, Up, Trim, Width, Has, Within, Side, Meet, by the abstract walk. Conditions: numbers of at most 10^8 limbs. -/
import Derived.Test.YtmfoihjkhoinaaaBb
namespace Go.Proofs.Ytmfoihjkhoinaaa
open Go.RowKit
set_option linter.unusedSimpArgs false
set_option linter.unusedVariables false

theorem rs_qpow {x : Rat} {K : Nat} (h : rs x ≤ K) : ∀ n : Nat, rs (qpow x n) ≤ n * K + 1
  | 0 => by rw [Nat.zero_mul]; exact (by decide : (1 : Nat) ≤ 1)
  | n + 1 => by
    have h1 := rs_qpow h n
    have h2 := rs_mul (qpow x n) x
    rw [Nat.add_mul, Nat.one_mul]
    show rs (qpow x n * x) ≤ _
    omega
theorem mul_64 {n K : Nat} (h : n ≤ 64) : n * K ≤ 64 * K := Nat.mul_le_mul_right K h
def aroundLo (q : Rat) (l : List RR) : Rat := l.foldl (fun m r => mn m r.q) q
def aroundHi (q : Rat) (l : List RR) : Rat := l.foldl (fun m r => mx m r.q) q
theorem arLo_next (q : Rat) {l : List RR} {i : Nat} (h : i < l.length) : aroundLo q (l.take (i + 1)) = mn (aroundLo q (l.take i)) (l.getD i rr0).q := by
  unfold aroundLo
  rw [List.take_succ_eq_append_getElem h, List.foldl_append, List.getD_eq_getElem?_getD, List.getElem?_eq_getElem h]
  rfl
theorem arHi_next (q : Rat) {l : List RR} {i : Nat} (h : i < l.length) : aroundHi q (l.take (i + 1)) = mx (aroundHi q (l.take i)) (l.getD i rr0).q := by
  unfold aroundHi
  rw [List.take_succ_eq_append_getElem h, List.foldl_append, List.getD_eq_getElem?_getD, List.getElem?_eq_getElem h]
  rfl
theorem rs_arLo {K : Nat} : ∀ {l : List RR} {q : Rat}, rs q ≤ K → (∀ r ∈ l, rs r.q ≤ K) → rs (aroundLo q l) ≤ K
  | [], _, h, _ => h
  | x :: l, q, h, hl => rs_arLo (l := l) (q := mn q x.q) (rsb_mn h (hl x (by simp))) (fun r hr => hl r (by simp [hr]))
theorem rs_arHi {K : Nat} : ∀ {l : List RR} {q : Rat}, rs q ≤ K → (∀ r ∈ l, rs r.q ≤ K) → rs (aroundHi q l) ≤ K
  | [], _, h, _ => h
  | x :: l, q, h, hl => rs_arHi (l := l) (q := mx q x.q) (rsb_mx h (hl x (by simp))) (fun r hr => hl r (by simp [hr]))
theorem rs_twoP {h : Nat} (hh : h ≤ 512) : rs (twoP h) ≤ 33 := rs_qv _ _ _ _ (pow_len (by omega)) (by decide) (by omega)
theorem rs_unitP {h : Nat} (hh : h ≤ 1000) : rs (unitP h) ≤ 33 := rs_qv _ _ _ _ (by decide) (pow_len (by omega)) (by omega)

def d_ball_Is : Den := den1 aBall (fun a => a.sz ≤ 1000000000) fun a => boolV (isB a)
set_option maxRecDepth 100000 in
set_option maxHeartbeats 1000000 in
theorem s_ball_Is : Sound Try.prog 121 d_ball_Is := by
  refine sound1 (fz := nofz) (l := [(62, d_rat_Is), (96, d_rat_Cmp)]) TT_ok ⟨s_rat_Is, s_rat_Cmp, trivial⟩ mixed Try.func121 Try.ntmps121 Try.results121 Try.call121 rfl (by omega) (fun _ => rfl) ?_
  intro a hp ha
  rw [codeK_start]
  simp only [go_sem, d_rat_Is, d_rat_Cmp, Nat.reduceBEq, Nat.reduceBNe, Nat.reduceLT, Nat.reduceLeDiff, Nat.reduceAdd, Nat.reduceSub, Nat.reduceMul, Nat.reduceEqDiff, Int.reduceNeg, Int.reduceAdd, Int.reduceLT, Int.reduceLE, Int.reduceToNat, ↓reduceIte]
  have l := BB.lens hp
  refine ⟨⟨by omega, ha.1⟩, ?_⟩
  unfold isB
  split
  · rename_i h1
    refine ⟨⟨by omega, ha.2⟩, ?_⟩
    split
    · rename_i h2
      exact ⟨⟨by omega, by omega⟩, by rw [h1, h2]; rfl⟩
    · rename_i h2; rw [Bool.not_eq_true] at h2; rw [h2]; simp
  · rename_i h1; rw [Bool.not_eq_true] at h1; rw [h1]; rfl

def d_ball_Add : Den := den2 aBall aBall (fun a b => a.sz ≤ 100000000 ∧ b.sz ≤ 100000000) fun a b => ballV (bb (a.lo.q + b.lo.q) (a.hi.q + b.hi.q))
set_option maxRecDepth 100000 in
set_option maxHeartbeats 1000000 in
theorem s_ball_Add : Sound Try.prog 91 d_ball_Add := by
  refine sound2 (fz := nofz) (l := [(54, d_rat_Add)]) TT_ok ⟨s_rat_Add, trivial⟩ mixed Try.func91 Try.ntmps91 Try.results91 Try.call91 rfl (by omega) (fun _ _ => rfl) ?_
  intro a b hp ha hb
  rw [codeK_start]
  simp only [go_sem, d_rat_Add, Nat.reduceBEq, Nat.reduceBNe, Nat.reduceLT, Nat.reduceLeDiff, Nat.reduceAdd, Nat.reduceSub, Nat.reduceMul, Nat.reduceEqDiff, Int.reduceNeg, Int.reduceAdd, Int.reduceLT, Int.reduceLE, Int.reduceToNat, ↓reduceIte]
  have l := BB.lens hp.1
  have m := BB.lens hp.2
  have q1 : rs a.lo.q ≤ 100000000 := rs_ok ha.1 l.1 (by omega)
  have q2 : rs a.hi.q ≤ 100000000 := rs_ok ha.2 l.2 (by omega)
  have q3 : rs b.lo.q ≤ 100000000 := rs_ok hb.1 m.1 (by omega)
  have q4 : rs b.hi.q ≤ 100000000 := rs_ok hb.2 m.2 (by omega)
  and_intros
  all_goals first
    | exact trivial
    | assumption
    | omega
    | (show okDraw _ _ = true; kernel_rfl)
    | rfl
    | ((repeat' first | assumption | exact Nat.le_refl _ | apply rsb_add | apply rsb_sub | apply rsb_div | apply rsb_mul | apply rsb_neg) <;> omega)

def d_ball_Sub : Den := den2 aBall aBall (fun a b => a.sz ≤ 100000000 ∧ b.sz ≤ 100000000) fun a b => ballV (bb (a.lo.q - b.hi.q) (a.hi.q - b.lo.q))
set_option maxRecDepth 100000 in
set_option maxHeartbeats 1000000 in
theorem s_ball_Sub : Sound Try.prog 92 d_ball_Sub := by
  refine sound2 (fz := nofz) (l := [(94, d_rat_Sub)]) TT_ok ⟨s_rat_Sub, trivial⟩ mixed Try.func92 Try.ntmps92 Try.results92 Try.call92 rfl (by omega) (fun _ _ => rfl) ?_
  intro a b hp ha hb
  rw [codeK_start]
  simp only [go_sem, d_rat_Sub, Nat.reduceBEq, Nat.reduceBNe, Nat.reduceLT, Nat.reduceLeDiff, Nat.reduceAdd, Nat.reduceSub, Nat.reduceMul, Nat.reduceEqDiff, Int.reduceNeg, Int.reduceAdd, Int.reduceLT, Int.reduceLE, Int.reduceToNat, ↓reduceIte]
  have l := BB.lens hp.1
  have m := BB.lens hp.2
  have q1 : rs a.lo.q ≤ 100000000 := rs_ok ha.1 l.1 (by omega)
  have q2 : rs a.hi.q ≤ 100000000 := rs_ok ha.2 l.2 (by omega)
  have q3 : rs b.lo.q ≤ 100000000 := rs_ok hb.1 m.1 (by omega)
  have q4 : rs b.hi.q ≤ 100000000 := rs_ok hb.2 m.2 (by omega)
  and_intros
  all_goals first
    | exact trivial
    | assumption
    | omega
    | (show okDraw _ _ = true; kernel_rfl)
    | rfl
    | ((repeat' first | assumption | exact Nat.le_refl _ | apply rsb_add | apply rsb_sub | apply rsb_div | apply rsb_mul | apply rsb_neg) <;> omega)

def d_ball_around : Den := den2 aRat aRats (fun a l => a.sz ≤ 1000000000 ∧ l.length ≤ 1000 ∧ ∀ r ∈ l, r.sz ≤ 1000000000) fun a l => ballV (bb (aroundLo a.q l) (aroundHi a.q l))
set_option maxRecDepth 100000 in
set_option maxHeartbeats 1000000 in
theorem s_ball_around : Sound Try.prog 189 d_ball_around := by
  refine sound2 (fz := nofz) (l := [(84, d_ball_Of), (96, d_rat_Cmp), (53, d_rat_Norm)]) TT_ok ⟨s_ball_Of, s_rat_Cmp, s_rat_Norm, trivial⟩ mixed Try.func189 Try.ntmps189 Try.results189 Try.call189 rfl (by omega) (fun _ _ => rfl) ?_
  intro a b hp ha hb
  rw [codeK_start]
  simp only [go_sem, d_ball_Of, d_rat_Cmp, d_rat_Norm, Nat.reduceBEq, Nat.reduceBNe, Nat.reduceLT, Nat.reduceLeDiff, Nat.reduceAdd, Nat.reduceSub, Nat.reduceMul, Nat.reduceEqDiff, Int.reduceNeg, Int.reduceAdd, Int.reduceLT, Int.reduceLE, Int.reduceToNat, ↓reduceIte]
  have qa : rs a.q ≤ 1000000000 := rs_ok ha hp.1 (by omega)
  have hr : ∀ r ∈ b, rs r.q ≤ 1000000000 := fun r hr => rs_ok (hb r hr) (hp.2.2 r hr) (by omega)
  have hlo := fun i => rs_arLo qa (fun r h => hr r (List.mem_of_mem_take (i := i) h))
  have hhi := fun i => rs_arHi qa (fun r h => hr r (List.mem_of_mem_take (i := i) h))
  refine ⟨by omega, ?_⟩
  refine codeK_loop (fun i : { i : Nat // i ≤ b.length } => [(12, 0, .av (intV (i.1 : Nat))), (11, 0, .av (intV (b.length : Nat))), (10, 0, .av (ratsV b)), (5, 0, .av (.one (.cel (.ptr 5 0)))), (5, 1, .cv (.bool (cr (aroundLo a.q (b.take i.1))).s)), (5, 2, .cv (.lim none (cr (aroundLo a.q (b.take i.1))).n)), (5, 3, .cv (.lim none (cr (aroundLo a.q (b.take i.1))).d)), (5, 4, .cv (.bool (cr (aroundHi a.q (b.take i.1))).s)), (5, 5, .cv (.lim none (cr (aroundHi a.q (b.take i.1))).n)), (5, 6, .cv (.lim none (cr (aroundHi a.q (b.take i.1))).d)),
    (4, 0, .av (.one (.cel (.ptr 4 0)))), (4, 1, .cv (.bool false)), (4, 2, .cv .nil), (4, 3, .cv .nil), (4, 4, .cv (.bool false)), (4, 5, .cv .nil), (4, 6, .cv .nil)]) (fun i => b.length - i.1) ⟨0, by omega⟩ (le_of ?_) ?_
  · simp only [go_sem, leL, Nat.reduceBEq, Nat.reduceBNe, Nat.reduceLT, Nat.reduceLeDiff, Nat.reduceAdd, Nat.reduceSub, Nat.reduceMul, Nat.reduceEqDiff, Int.reduceNeg, Int.reduceAdd, Int.reduceLT, Int.reduceLE, Int.reduceToNat, ↓reduceIte, List.take_zero, aroundLo, aroundHi, List.foldl_nil, Int.ofNat_zero, Int.natCast_zero, Int.cast_ofNat_Int]
  · rintro ⟨i, hi0⟩
    by_cases hi : i < b.length
    · have hm := hp.2.2 _ (getD_mem (d := rr0) hi)
      have hq := hr _ (getD_mem (d := rr0) hi)
      have k1 := hlo i
      have k2 := hhi i
      have e1 := arLo_next a.q hi
      have e2 := arHi_next a.q hi
      simp only [go_sem, d_ball_Of, d_rat_Cmp, d_rat_Norm, getD_rats hi, getD_ratsI hi, Int.ofNat_lt, hi, Nat.reduceBEq, Nat.reduceBNe, Nat.reduceLT, Nat.reduceLeDiff, Nat.reduceAdd, Nat.reduceSub, Nat.reduceMul, Nat.reduceEqDiff, Int.reduceNeg, Int.reduceAdd, Int.reduceLT, Int.reduceLE, Int.reduceToNat, ↓reduceIte]
      refine ⟨⟨by omega, by omega⟩, ?_⟩
      split
      · rename_i c1
        have f1 : aroundLo a.q (b.take (i + 1)) = (b.getD i rr0).q := by rw [e1, ← mn_if, if_pos c1]
        refine ⟨by omega, ⟨by omega, by omega⟩, ?_⟩
        split
        · rename_i c2
          have f2 : aroundHi a.q (b.take (i + 1)) = (b.getD i rr0).q := by rw [e2, ← mx_if, if_pos c2]
          exact ⟨by omega, ⟨by omega, by omega⟩, ⟨i + 1, by omega⟩, by show b.length - (i + 1) < b.length - i; omega, le_of (by simp only [go_sem, leL, f1, f2, Nat.reduceBEq, Nat.reduceBNe, Nat.reduceLT, Nat.reduceLeDiff, Nat.reduceAdd, Nat.reduceSub, Nat.reduceMul, Nat.reduceEqDiff, Int.reduceNeg, Int.reduceAdd, Int.reduceLT, Int.reduceLE, Int.reduceToNat, ↓reduceIte]; omega)⟩
        · rename_i c2
          have f2 : aroundHi a.q (b.take (i + 1)) = aroundHi a.q (b.take i) := by rw [e2, ← mx_if, if_neg c2]
          exact ⟨⟨by omega, by omega⟩, ⟨i + 1, by omega⟩, by show b.length - (i + 1) < b.length - i; omega, le_of (by simp only [go_sem, leL, f1, f2, Nat.reduceBEq, Nat.reduceBNe, Nat.reduceLT, Nat.reduceLeDiff, Nat.reduceAdd, Nat.reduceSub, Nat.reduceMul, Nat.reduceEqDiff, Int.reduceNeg, Int.reduceAdd, Int.reduceLT, Int.reduceLE, Int.reduceToNat, ↓reduceIte]; omega)⟩
      · rename_i c1
        have f1 : aroundLo a.q (b.take (i + 1)) = aroundLo a.q (b.take i) := by rw [e1, ← mn_if, if_neg c1]
        refine ⟨⟨by omega, by omega⟩, ?_⟩
        split
        · rename_i c2
          have f2 : aroundHi a.q (b.take (i + 1)) = (b.getD i rr0).q := by rw [e2, ← mx_if, if_pos c2]
          exact ⟨by omega, ⟨by omega, by omega⟩, ⟨i + 1, by omega⟩, by show b.length - (i + 1) < b.length - i; omega, le_of (by simp only [go_sem, leL, f1, f2, Nat.reduceBEq, Nat.reduceBNe, Nat.reduceLT, Nat.reduceLeDiff, Nat.reduceAdd, Nat.reduceSub, Nat.reduceMul, Nat.reduceEqDiff, Int.reduceNeg, Int.reduceAdd, Int.reduceLT, Int.reduceLE, Int.reduceToNat, ↓reduceIte]; omega)⟩
        · rename_i c2
          have f2 : aroundHi a.q (b.take (i + 1)) = aroundHi a.q (b.take i) := by rw [e2, ← mx_if, if_neg c2]
          exact ⟨⟨by omega, by omega⟩, ⟨i + 1, by omega⟩, by show b.length - (i + 1) < b.length - i; omega, le_of (by simp only [go_sem, leL, f1, f2, Nat.reduceBEq, Nat.reduceBNe, Nat.reduceLT, Nat.reduceLeDiff, Nat.reduceAdd, Nat.reduceSub, Nat.reduceMul, Nat.reduceEqDiff, Int.reduceNeg, Int.reduceAdd, Int.reduceLT, Int.reduceLE, Int.reduceToNat, ↓reduceIte]; omega)⟩
    · simp only [go_sem, d_ball_Of, d_rat_Cmp, d_rat_Norm, Int.ofNat_lt, hi, Nat.reduceBEq, Nat.reduceBNe, Nat.reduceLT, Nat.reduceLeDiff, Nat.reduceAdd, Nat.reduceSub, Nat.reduceMul, Nat.reduceEqDiff, Int.reduceNeg, Int.reduceAdd, Int.reduceLT, Int.reduceLE, Int.reduceToNat, ↓reduceIte]
      have e : i = b.length := by omega
      subst e
      rw [List.take_length]
      exact ⟨rfl, rfl, rfl, rfl, rfl, rfl⟩

theorem int1 : ((1 : Int) : Rat) = 1 := rfl
theorem int0 : ((0 : Int) : Rat) = 0 := rfl
theorem rs1 {K : Nat} (h : 1 ≤ K) : rs (1 : Rat) ≤ K := h
theorem rs0 {K : Nat} (h : 1 ≤ K) : rs (0 : Rat) ≤ K := h
theorem all1 {x : RR} {K : Nat} (h1 : x.sz ≤ K) : ∀ r ∈ [x], r.sz ≤ K := by intro r hr; simp only [List.mem_cons, List.not_mem_nil, or_false] at hr; subst hr; exact h1
theorem all2 {x y : RR} {K : Nat} (h1 : x.sz ≤ K) (h2 : y.sz ≤ K) : ∀ r ∈ [x, y], r.sz ≤ K := by intro r hr; simp only [List.mem_cons, List.not_mem_nil, or_false] at hr; rcases hr with rfl | rfl <;> assumption
theorem all3 {x y z : RR} {K : Nat} (h1 : x.sz ≤ K) (h2 : y.sz ≤ K) (h3 : z.sz ≤ K) : ∀ r ∈ [x, y, z], r.sz ≤ K := by intro r hr; simp only [List.mem_cons, List.not_mem_nil, or_false] at hr; rcases hr with rfl | rfl | rfl <;> assumption
theorem around_mul_lo (a b : BB) : aroundLo (a.lo.q * b.lo.q) [cr (a.lo.q * b.hi.q), cr (a.hi.q * b.lo.q), cr (a.hi.q * b.hi.q)] = mulLo a b := by
  simp only [aroundLo, List.foldl_cons, List.foldl_nil, cr_q]; rfl
theorem around_mul_hi (a b : BB) : aroundHi (a.lo.q * b.lo.q) [cr (a.lo.q * b.hi.q), cr (a.hi.q * b.lo.q), cr (a.hi.q * b.hi.q)] = mulHi a b := by
  simp only [aroundHi, List.foldl_cons, List.foldl_nil, cr_q]; rfl
theorem rs_mulLo {a b : BB} {K : Nat} (h1 : rs a.lo.q ≤ K) (h2 : rs a.hi.q ≤ K) (h3 : rs b.lo.q ≤ K) (h4 : rs b.hi.q ≤ K) : rs (mulLo a b) ≤ 2 * K :=
  rs_accLo (K := 2 * K) (fun i => by unfold prods; split <;> (refine rsb_mul ‹_› ‹_› ?_; omega)) 3
theorem rs_mulHi {a b : BB} {K : Nat} (h1 : rs a.lo.q ≤ K) (h2 : rs a.hi.q ≤ K) (h3 : rs b.lo.q ≤ K) (h4 : rs b.hi.q ≤ K) : rs (mulHi a b) ≤ 2 * K :=
  rs_accHi (K := 2 * K) (fun i => by unfold prods; split <;> (refine rsb_mul ‹_› ‹_› ?_; omega)) 3
theorem rs_one_by {q : Rat} {K : Nat} (h : rs q ≤ K) : rs (1 / q) ≤ 1 + K := rsb_div (rs1 (Nat.le_refl _)) h (Nat.le_refl _)
theorem rs_absLo {l h : Rat} {K : Nat} (h1 : rs l ≤ K) (h2 : rs h ≤ K) (hK : 1 ≤ K) : rs (absLo l h) ≤ K := by
  unfold absLo
  split
  · exact h1
  · split
    · exact rsb_neg h2
    · exact rs0 hK
theorem rs_absHi {l h : Rat} {K : Nat} (h1 : rs l ≤ K) (h2 : rs h ≤ K) : rs (absHi l h) ≤ K := by
  unfold absHi
  split
  · exact h2
  · split
    · exact rsb_neg h1
    · exact rsb_mx (rsb_neg h1) h2
theorem rs_dn {q : Rat} {K h : Nat} (h1 : rs q ≤ K) (hh : h ≤ 512) : rs (dn q h) ≤ K + 67 :=
  rsb_mul (rsb_floor (rsb_mul h1 (rs_twoP hh) (Nat.le_refl _)) (Nat.le_refl _)) (rs_unitP (by omega)) (by omega)
theorem rs_up {q : Rat} {K h : Nat} (h1 : rs q ≤ K) (hh : h ≤ 512) : rs (up q h) ≤ K + 67 := rsb_neg (rs_dn (rsb_neg h1) hh)
theorem and_1 {n : Int} (h0 : 0 ≤ n) (h1 : n ≤ 64) : bitsI .and .i64 n 1 = n % 2 := by
  obtain ⟨m, rfl⟩ := Int.eq_ofNat_of_zero_le h0
  have : ∀ m : Fin 65, bitsI .and .i64 (m.val : Int) 1 = (m.val : Int) % 2 := by decide +kernel
  exact this ⟨m, by omega⟩
theorem qv_over {q : Rat} (h : q.den = 1) (m : Nat) : qv (ng q) (nm q) m = q * qv false 1 m := by
  conv => rhs; rw [← qv_self q]
  rw [qv_mul, h, Nat.mul_one, Nat.one_mul, Bool.bne_false]
theorem shift_hold (b : Int) : shiftN 1 ((hold b : Nat) : Int) = 2 ^ hold b := by
  unfold shiftN
  rw [if_pos (by omega), Nat.one_mul, Int.toNat_natCast]
theorem two_mul_qv (x : Rat) (h : Nat) : x * qv false (2 ^ h) 1 = x * twoP h := rfl

def d_ball_Mul : Den := den2 aBall aBall (fun a b => a.sz ≤ 100000000 ∧ b.sz ≤ 100000000) fun a b => ballV (bb (mulLo a b) (mulHi a b))
set_option maxRecDepth 100000 in
set_option maxHeartbeats 1000000 in
theorem s_ball_Mul : Sound Try.prog 89 d_ball_Mul := by
  refine sound2 (fz := nofz) (l := [(55, d_rat_Mul), (189, d_ball_around)]) TT_ok ⟨s_rat_Mul, s_ball_around, trivial⟩ mixed Try.func89 Try.ntmps89 Try.results89 Try.call89 rfl (by omega) (fun _ _ => rfl) ?_
  intro a b hp ha hb
  rw [codeK_start]
  simp only [go_sem, d_rat_Mul, d_ball_around, around_mul_lo, around_mul_hi, Nat.reduceBEq, Nat.reduceBNe, Nat.reduceLT, Nat.reduceLeDiff, Nat.reduceAdd, Nat.reduceSub, Nat.reduceMul, Nat.reduceEqDiff, Int.reduceNeg, Int.reduceAdd, Int.reduceLT, Int.reduceLE, Int.reduceToNat, ↓reduceIte]
  have l := BB.lens hp.1
  have m := BB.lens hp.2
  have q1 : rs a.lo.q ≤ 100000000 := rs_ok ha.1 l.1 (by omega)
  have q2 : rs a.hi.q ≤ 100000000 := rs_ok ha.2 l.2 (by omega)
  have q3 : rs b.lo.q ≤ 100000000 := rs_ok hb.1 m.1 (by omega)
  have q4 : rs b.hi.q ≤ 100000000 := rs_ok hb.2 m.2 (by omega)
  have r1 : rs (a.lo.q * b.lo.q) ≤ 1000000000 := rsb_mul q1 q3 (by omega)
  have r2 : rs (a.lo.q * b.hi.q) ≤ 1000000000 := rsb_mul q1 q4 (by omega)
  have r3 : rs (a.hi.q * b.lo.q) ≤ 1000000000 := rsb_mul q2 q3 (by omega)
  have r4 : rs (a.hi.q * b.hi.q) ≤ 1000000000 := rsb_mul q2 q4 (by omega)
  exact ⟨⟨by omega, by omega⟩, ⟨by omega, by omega⟩, ⟨by omega, by omega⟩, ⟨by omega, by omega⟩, ⟨r1, all3 r2 r3 r4⟩, by kernel_rfl⟩

def d_ball_zero : Den := den0 (ratV (cr 0))
set_option maxRecDepth 100000 in
set_option maxHeartbeats 1000000 in
theorem s_ball_zero : Sound Try.prog 194 d_ball_zero := by
  refine sound0 (fz := nofz) (l := [(71, d_rat_Int)]) TT_ok ⟨s_rat_Int, trivial⟩ mixed Try.func194 Try.ntmps194 Try.results194 Try.call194 rfl rfl ?_
  rw [codeK_start]
  simp only [go_sem, d_rat_Int, Nat.reduceBEq, Nat.reduceBNe, Nat.reduceLT, Nat.reduceLeDiff, Nat.reduceAdd, Nat.reduceSub, Nat.reduceMul, Nat.reduceEqDiff, Int.reduceNeg, Int.reduceAdd, Int.reduceLT, Int.reduceLE, Int.reduceToNat, ↓reduceIte]
  exact ⟨rfl, rfl, rfl⟩

def d_ball_Has : Den := den2 aBall aRat (fun a b => a.sz ≤ 1000000000 ∧ b.sz ≤ 1000000000) fun a b => boolV (hasB a.lo.q a.hi.q b.q)
set_option maxRecDepth 100000 in
set_option maxHeartbeats 1000000 in
theorem s_ball_Has : Sound Try.prog 123 d_ball_Has := by
  refine sound2 (fz := nofz) (l := [(96, d_rat_Cmp)]) TT_ok ⟨s_rat_Cmp, trivial⟩ mixed Try.func123 Try.ntmps123 Try.results123 Try.call123 rfl (by omega) (fun _ _ => rfl) ?_
  intro a b hp ha hb
  rw [codeK_start]
  simp only [go_sem, d_rat_Cmp, Nat.reduceBEq, Nat.reduceBNe, Nat.reduceLT, Nat.reduceLeDiff, Nat.reduceAdd, Nat.reduceSub, Nat.reduceMul, Nat.reduceEqDiff, Int.reduceNeg, Int.reduceAdd, Int.reduceLT, Int.reduceLE, Int.reduceToNat, ↓reduceIte]
  have l := BB.lens hp.1
  refine ⟨⟨by omega, by omega⟩, ?_⟩
  unfold hasB
  split
  · rename_i h1; exact ⟨⟨by omega, by omega⟩, by simp [h1]⟩
  · rename_i h1; simp [h1]

def d_ball_Neg : Den := den1 aBall (fun a => a.sz ≤ 100000000) fun a => ballV (bb (-a.hi.q) (-a.lo.q))
set_option maxRecDepth 100000 in
set_option maxHeartbeats 1000000 in
theorem s_ball_Neg : Sound Try.prog 85 d_ball_Neg := by
  refine sound1 (fz := nofz) (l := [(68, d_rat_Neg)]) TT_ok ⟨s_rat_Neg, trivial⟩ mixed Try.func85 Try.ntmps85 Try.results85 Try.call85 rfl (by omega) (fun _ => rfl) ?_
  intro a hp ha
  rw [codeK_start]
  simp only [go_sem, d_rat_Neg, Nat.reduceBEq, Nat.reduceBNe, Nat.reduceLT, Nat.reduceLeDiff, Nat.reduceAdd, Nat.reduceSub, Nat.reduceMul, Nat.reduceEqDiff, Int.reduceNeg, Int.reduceAdd, Int.reduceLT, Int.reduceLE, Int.reduceToNat, ↓reduceIte]
  have l := BB.lens hp
  have q1 : rs a.lo.q ≤ 100000000 := rs_ok ha.1 l.1 (by omega)
  have q2 : rs a.hi.q ≤ 100000000 := rs_ok ha.2 l.2 (by omega)
  and_intros
  all_goals first
    | exact trivial
    | assumption
    | omega
    | (show okDraw _ _ = true; kernel_rfl)
    | rfl
    | ((repeat' first | assumption | exact Nat.le_refl _ | apply rsb_add | apply rsb_sub | apply rsb_div | apply rsb_mul | apply rsb_neg) <;> omega)

def d_ball_Abs : Den := den1 aBall (fun a => a.sz ≤ 100000000 ∧ a.lo.q ≤ a.hi.q) fun a => ballV (bb (absLo a.lo.q a.hi.q) (absHi a.lo.q a.hi.q))
set_option maxRecDepth 100000 in
set_option maxHeartbeats 1000000 in
theorem s_ball_Abs : Sound Try.prog 138 d_ball_Abs := by
  refine sound1 (fz := nofz) (l := [(194, d_ball_zero), (96, d_rat_Cmp), (189, d_ball_around), (85, d_ball_Neg), (68, d_rat_Neg)]) TT_ok ⟨s_ball_zero, s_rat_Cmp, s_ball_around, s_ball_Neg, s_rat_Neg, trivial⟩ mixed Try.func138 Try.ntmps138 Try.results138 Try.call138 rfl (by omega) (fun _ => rfl) ?_
  intro a hp ha
  rw [codeK_start]
  simp only [go_sem, d_ball_zero, d_rat_Cmp, d_ball_around, d_ball_Neg, d_rat_Neg, Nat.reduceBEq, Nat.reduceBNe, Nat.reduceLT, Nat.reduceLeDiff, Nat.reduceAdd, Nat.reduceSub, Nat.reduceMul, Nat.reduceEqDiff, Int.reduceNeg, Int.reduceAdd, Int.reduceLT, Int.reduceLE, Int.reduceToNat, ↓reduceIte]
  have l := BB.lens hp.1
  have q1 : rs a.lo.q ≤ 100000000 := rs_ok ha.1 l.1 (by omega)
  have q2 : rs a.hi.q ≤ 100000000 := rs_ok ha.2 l.2 (by omega)
  refine ⟨⟨by omega, rs0 (by omega)⟩, by kernel_rfl, ?_⟩
  split
  · rename_i c1
    have e1 : aroundLo a.lo.q [a.hi] = absLo a.lo.q a.hi.q := by unfold absLo; rw [if_pos c1]; exact mn_left hp.2
    have e2 : aroundHi a.lo.q [a.hi] = absHi a.lo.q a.hi.q := by unfold absHi; rw [if_pos c1]; exact mx_right hp.2
    rw [e1, e2]
    exact ⟨⟨by omega, all1 (by omega)⟩, rfl, rfl, rfl, rfl, rfl, rfl⟩
  · rename_i c1
    refine ⟨⟨by omega, rs0 (by omega)⟩, by kernel_rfl, ?_⟩
    split
    · rename_i c2
      have e1 : absLo a.lo.q a.hi.q = -a.hi.q := by unfold absLo; rw [if_neg c1, if_pos c2]
      have e2 : absHi a.lo.q a.hi.q = -a.lo.q := by unfold absHi; rw [if_neg c1, if_pos c2]
      rw [e1, e2]
      exact ⟨hp.1, rfl, rfl, rfl, rfl, rfl, rfl⟩
    · rename_i c2
      have n1 : (0 : Rat) ≤ -a.lo.q := by grind
      have n2 : (0 : Rat) ≤ a.hi.q := by grind
      have e1 : aroundLo 0 [cr (-a.lo.q), a.hi] = absLo a.lo.q a.hi.q := by
        unfold absLo; rw [if_neg c1, if_neg c2]
        show mn (mn 0 (cr (-a.lo.q)).q) a.hi.q = 0
        rw [cr_q, mn_left n1, mn_left n2]
      have e2 : aroundHi 0 [cr (-a.lo.q), a.hi] = absHi a.lo.q a.hi.q := by
        unfold absHi; rw [if_neg c1, if_neg c2]
        show mx (mx 0 (cr (-a.lo.q)).q) a.hi.q = _
        rw [cr_q, mx_right n1]
      rw [e1, e2]
      exact ⟨by omega, ⟨rs0 (by omega), all2 (by rw [cr_sz]; exact rsb_neg (Nat.le_trans q1 (by omega))) (by omega)⟩, by kernel_rfl, rfl, rfl, rfl, rfl, rfl, rfl⟩

def d_ball_power : Den := den2 aRat aInt (fun a n => a.sz ≤ 100000000 ∧ 0 ≤ n ∧ n ≤ 64) fun a n => ratV (cr (qpow a.q n.toNat))
set_option maxRecDepth 100000 in
set_option maxHeartbeats 1000000 in
theorem s_ball_power : Sound Try.prog 202 d_ball_power := by
  refine sound2 (fz := nofz) (l := [(71, d_rat_Int), (55, d_rat_Mul)]) TT_ok ⟨s_rat_Int, s_rat_Mul, trivial⟩ mixed Try.func202 Try.ntmps202 Try.results202 Try.call202 rfl (by omega) (fun _ _ => rfl) ?_
  intro a b hp ha hb
  rw [codeK_start]
  simp only [go_sem, d_rat_Int, d_rat_Mul, int1, Nat.reduceBEq, Nat.reduceBNe, Nat.reduceLT, Nat.reduceLeDiff, Nat.reduceAdd, Nat.reduceSub, Nat.reduceMul, Nat.reduceEqDiff, Int.reduceNeg, Int.reduceAdd, Int.reduceLT, Int.reduceLE, Int.reduceToNat, ↓reduceIte]
  have q1 : rs a.q ≤ 100000000 := rs_ok ha hp.1 (by omega)
  have hz : ∀ n : Nat, n ≤ 64 → rs (qpow a.q n) ≤ 6400000001 := fun n hn => by have h1 := rs_qpow q1 n; have h2 := mul_64 (K := 100000000) hn; omega
  refine codeK_loop (fun i : { i : Nat // (i : Int) ≤ b } => [(8, 0, .av (intV (i.1 : Nat))), (7, 0, .av (intV b)), (5, 0, .av (.one (.cel (.ptr 5 0)))), (5, 1, .cv (.bool (cr (qpow a.q i.1)).s)), (5, 2, .cv (.lim none (cr (qpow a.q i.1)).n)), (5, 3, .cv (.lim none (cr (qpow a.q i.1)).d)), (4, 0, .av (.one (.cel (.ptr 4 0)))), (4, 1, .cv (.bool false)), (4, 2, .cv .nil), (4, 3, .cv .nil), (2, 0, .av (.one (.cel (.ptr 2 0)))), (2, 1, .cv (.bool a.s)), (2, 2, .cv (.lim none a.n)), (2, 3, .cv (.lim none a.d))]) (fun i => b.toNat - i.1) ⟨0, by have := hp.2.1; omega⟩ (le_of ?_) ?_
  · simp only [go_sem, leL, Nat.reduceBEq, Nat.reduceBNe, Nat.reduceLT, Nat.reduceLeDiff, Nat.reduceAdd, Nat.reduceSub, Nat.reduceMul, Nat.reduceEqDiff, Int.reduceNeg, Int.reduceAdd, Int.reduceLT, Int.reduceLE, Int.reduceToNat, ↓reduceIte, qpow, int1, Int.ofNat_zero, Int.natCast_zero, Int.cast_ofNat_Int]
  · rintro ⟨i, hi0⟩
    have hi0 : (i : Int) ≤ b := hi0
    have k1 := hz i (by omega)
    by_cases hi : (i : Int) < b
    · simp only [go_sem, d_rat_Int, d_rat_Mul, hi, Nat.reduceBEq, Nat.reduceBNe, Nat.reduceLT, Nat.reduceLeDiff, Nat.reduceAdd, Nat.reduceSub, Nat.reduceMul, Nat.reduceEqDiff, Int.reduceNeg, Int.reduceAdd, Int.reduceLT, Int.reduceLE, Int.reduceToNat, ↓reduceIte]
      exact ⟨⟨by omega, by omega⟩, ⟨by omega, by omega⟩, ⟨i + 1, by omega⟩, by show b.toNat - (i + 1) < b.toNat - i; omega, le_of (by simp only [go_sem, leL, qpow, Nat.reduceBEq, Nat.reduceBNe, Nat.reduceLT, Nat.reduceLeDiff, Nat.reduceAdd, Nat.reduceSub, Nat.reduceMul, Nat.reduceEqDiff, Int.reduceNeg, Int.reduceAdd, Int.reduceLT, Int.reduceLE, Int.reduceToNat, ↓reduceIte]; omega)⟩
    · simp only [go_sem, d_rat_Int, d_rat_Mul, hi, Nat.reduceBEq, Nat.reduceBNe, Nat.reduceLT, Nat.reduceLeDiff, Nat.reduceAdd, Nat.reduceSub, Nat.reduceMul, Nat.reduceEqDiff, Int.reduceNeg, Int.reduceAdd, Int.reduceLT, Int.reduceLE, Int.reduceToNat, ↓reduceIte]
      have e : i = b.toNat := by omega
      subst e
      exact ⟨rfl, rfl, rfl⟩

def d_ball_Pow : Den := den2 aBall aInt (fun a _ => a.sz ≤ 100000000 ∧ a.lo.q ≤ a.hi.q) fun a n => ballV (bb (powLo a.lo.q a.hi.q (pn n)) (powHi a.lo.q a.hi.q (pn n)))
set_option maxRecDepth 100000 in
set_option maxHeartbeats 1000000 in
theorem s_ball_Pow : Sound Try.prog 140 d_ball_Pow := by
  refine sound2 (fz := nofz) (l := [(71, d_rat_Int), (84, d_ball_Of), (138, d_ball_Abs), (202, d_ball_power)]) TT_ok ⟨s_rat_Int, s_ball_Of, s_ball_Abs, s_ball_power, trivial⟩ mixed Try.func140 Try.ntmps140 Try.results140 Try.call140 rfl (by omega) (fun _ _ => rfl) ?_
  intro a b hp ha hb
  rw [codeK_start]
  simp only [go_sem, d_rat_Int, d_ball_Of, d_ball_Abs, d_ball_power, int1, Nat.reduceBEq, Nat.reduceBNe, Nat.reduceLT, Nat.reduceLeDiff, Nat.reduceAdd, Nat.reduceSub, Nat.reduceMul, Nat.reduceEqDiff, Int.reduceNeg, Int.reduceAdd, Int.reduceLT, Int.reduceLE, Int.reduceToNat, ↓reduceIte]
  have l := BB.lens hp.1
  have q1 : rs a.lo.q ≤ 100000000 := rs_ok ha.1 l.1 (by omega)
  have q2 : rs a.hi.q ≤ 100000000 := rs_ok ha.2 l.2 (by omega)
  have hpn : ((pn b : Nat) : Int) = min (max b 0) 64 := by unfold pn; omega
  have hp6 : pn b ≤ 64 := by unfold pn; omega
  rw [← hpn, Int.toNat_natCast]
  have z1 := rs_absLo q1 q2 (by omega)
  have z2 := rs_absHi q1 q2
  have hand := and_1 (n := (pn b : Int)) (by omega) (by omega)
  rw [hand]
  generalize pn b = n at *
  split
  · rename_i c
    have c : n = 0 := by omega
    subst c
    unfold powLo powHi
    rw [if_pos rfl, if_pos rfl]
    exact ⟨rs1 (by omega), rfl, rfl, rfl, rfl, rfl, rfl⟩
  · rename_i c
    have c : ¬ n = 0 := by omega
    unfold powLo powHi
    rw [if_neg c, if_neg c]
    split
    · rename_i c2
      have c2 : n % 2 = 0 := by omega
      rw [if_pos c2, if_pos c2]
      exact ⟨hp, ⟨z1, by omega, by omega⟩, ⟨z2, by omega, by omega⟩, by kernel_rfl, rfl, rfl, rfl, rfl, rfl, rfl⟩
    · rename_i c2
      have c2 : ¬ n % 2 = 0 := by omega
      rw [if_neg c2, if_neg c2]
      exact ⟨⟨by omega, by omega, by omega⟩, ⟨by omega, by omega, by omega⟩, by kernel_rfl, rfl, rfl, rfl, rfl, rfl, rfl⟩

def d_ball_held : Den := den1 aInt (fun _ => True) fun p => intV ((hold p : Nat) : Int)
set_option maxRecDepth 100000 in
set_option maxHeartbeats 1000000 in
theorem s_ball_held : Sound Try.prog 190 d_ball_held := by
  refine sound1 (fz := nofz) (l := []) TT_ok trivial mixed Try.func190 Try.ntmps190 Try.results190 Try.call190 rfl (by omega) (fun _ => rfl) ?_
  intro a hp ha
  rw [codeK_start]
  simp only [go_sem, Nat.reduceBEq, Nat.reduceBNe, Nat.reduceLT, Nat.reduceLeDiff, Nat.reduceAdd, Nat.reduceSub, Nat.reduceMul, Nat.reduceEqDiff, Int.reduceNeg, Int.reduceAdd, Int.reduceLT, Int.reduceLE, Int.reduceToNat, ↓reduceIte]
  exact (hold_cast a).symm

def d_ball_Down : Den := den2 aRat aInt (fun a _ => a.sz ≤ 100000000) fun a p => ratV (cr (dn a.q (hold p)))
set_option maxRecDepth 100000 in
set_option maxHeartbeats 1000000 in
theorem s_ball_Down : Sound Try.prog 97 d_ball_Down := by
  refine sound2 (fz := nofz) (l := [(168, d_nat_Of), (190, d_ball_held), (163, d_nat_Shift), (73, d_rat_Of), (55, d_rat_Mul), (57, d_rat_Floor)]) TT_ok ⟨s_nat_Of, s_ball_held, s_nat_Shift, s_rat_Of, s_rat_Mul, s_rat_Floor, trivial⟩ mixed Try.func97 Try.ntmps97 Try.results97 Try.call97 rfl (by omega) (fun _ _ => rfl) ?_
  intro a b hp ha hb
  rw [codeK_start]
  simp only [go_sem, d_nat_Of, d_ball_held, d_nat_Shift, d_rat_Of, d_rat_Mul, d_rat_Floor, shift_hold, two_mul_qv, Nat.reduceBEq, Nat.reduceBNe, Nat.reduceLT, Nat.reduceLeDiff, Nat.reduceAdd, Nat.reduceSub, Nat.reduceMul, Nat.reduceEqDiff, Int.reduceNeg, Int.reduceAdd, Int.reduceLT, Int.reduceLE, Int.reduceToNat, ↓reduceIte]
  have hh := hold_le b
  have q1 : rs a.q ≤ 100000000 := rs_ok ha hp (by omega)
  have r1 := rs_twoP hh
  have r2 : rs (a.q * twoP (hold b)) ≤ 100000033 := rsb_mul q1 r1 (by omega)
  have r3 := (rs_parts (rsb_floor r2 (Nat.le_refl _))).1
  have r4 := pow_len (k := hold b) (by omega)
  have r5 : (limbs 1).length = 1 := rfl
  have e := qv_over (int_parts (a.q * twoP (hold b)).floor).2.1 (2 ^ hold b)
  rw [show (cr (((a.q * twoP (hold b)).floor : Int) : Rat)).s = ng (((a.q * twoP (hold b)).floor : Int) : Rat) from rfl, show (cr (((a.q * twoP (hold b)).floor : Int) : Rat)).n = limbs (nm (((a.q * twoP (hold b)).floor : Int) : Rat)) from rfl, val_limbs, e]
  exact ⟨⟨by omega, by omega, by omega⟩, ⟨by omega, by omega⟩, ⟨by omega, by show rs (twoP (hold b)) ≤ _; omega⟩, by omega, by kernel_rfl, ⟨by omega, by omega⟩, rfl, rfl, rfl⟩

def d_ball_Up : Den := den2 aRat aInt (fun a _ => a.sz ≤ 10000000) fun a p => ratV (cr (up a.q (hold p)))
set_option maxRecDepth 100000 in
set_option maxHeartbeats 1000000 in
theorem s_ball_Up : Sound Try.prog 98 d_ball_Up := by
  refine sound2 (fz := nofz) (l := [(68, d_rat_Neg), (97, d_ball_Down)]) TT_ok ⟨s_rat_Neg, s_ball_Down, trivial⟩ mixed Try.func98 Try.ntmps98 Try.results98 Try.call98 rfl (by omega) (fun _ _ => rfl) ?_
  intro a b hp ha hb
  rw [codeK_start]
  simp only [go_sem, d_rat_Neg, d_ball_Down, Nat.reduceBEq, Nat.reduceBNe, Nat.reduceLT, Nat.reduceLeDiff, Nat.reduceAdd, Nat.reduceSub, Nat.reduceMul, Nat.reduceEqDiff, Int.reduceNeg, Int.reduceAdd, Int.reduceLT, Int.reduceLE, Int.reduceToNat, ↓reduceIte]
  have q1 : rs a.q ≤ 10000000 := rs_ok ha hp (by omega)
  have q2 := rs_dn (rsb_neg q1) (hold_le b)
  exact ⟨by omega, by have := rsb_neg q1; omega, by omega, rfl, rfl, rfl⟩

def d_ball_Trim : Den := den2 aBall aInt (fun a _ => a.sz ≤ 10000000) fun a p => ballV (bb (dn a.lo.q (hold p)) (up a.hi.q (hold p)))
set_option maxRecDepth 100000 in
set_option maxHeartbeats 1000000 in
theorem s_ball_Trim : Sound Try.prog 101 d_ball_Trim := by
  refine sound2 (fz := nofz) (l := [(97, d_ball_Down), (98, d_ball_Up)]) TT_ok ⟨s_ball_Down, s_ball_Up, trivial⟩ mixed Try.func101 Try.ntmps101 Try.results101 Try.call101 rfl (by omega) (fun _ _ => rfl) ?_
  intro a b hp ha hb
  rw [codeK_start]
  simp only [go_sem, d_ball_Down, d_ball_Up, Nat.reduceBEq, Nat.reduceBNe, Nat.reduceLT, Nat.reduceLeDiff, Nat.reduceAdd, Nat.reduceSub, Nat.reduceMul, Nat.reduceEqDiff, Int.reduceNeg, Int.reduceAdd, Int.reduceLT, Int.reduceLE, Int.reduceToNat, ↓reduceIte]
  have l := BB.lens hp
  exact ⟨by omega, by omega, by kernel_rfl⟩

def d_ball_Width : Den := den1 aBall (fun a => a.sz ≤ 100000000) fun a => ratV (cr (a.hi.q - a.lo.q))
set_option maxRecDepth 100000 in
set_option maxHeartbeats 1000000 in
theorem s_ball_Width : Sound Try.prog 90 d_ball_Width := by
  refine sound1 (fz := nofz) (l := [(94, d_rat_Sub)]) TT_ok ⟨s_rat_Sub, trivial⟩ mixed Try.func90 Try.ntmps90 Try.results90 Try.call90 rfl (by omega) (fun _ => rfl) ?_
  intro a hp ha
  rw [codeK_start]
  simp only [go_sem, d_rat_Sub, Nat.reduceBEq, Nat.reduceBNe, Nat.reduceLT, Nat.reduceLeDiff, Nat.reduceAdd, Nat.reduceSub, Nat.reduceMul, Nat.reduceEqDiff, Int.reduceNeg, Int.reduceAdd, Int.reduceLT, Int.reduceLE, Int.reduceToNat, ↓reduceIte]
  have l := BB.lens hp
  have q1 : rs a.lo.q ≤ 100000000 := rs_ok ha.1 l.1 (by omega)
  have q2 : rs a.hi.q ≤ 100000000 := rs_ok ha.2 l.2 (by omega)
  and_intros
  all_goals first
    | exact trivial
    | assumption
    | omega
    | (show okDraw _ _ = true; kernel_rfl)
    | rfl
    | ((repeat' first | assumption | exact Nat.le_refl _ | apply rsb_add | apply rsb_sub | apply rsb_div | apply rsb_mul | apply rsb_neg) <;> omega)

def d_ball_Within : Den := den2 aBall aBall (fun a b => a.sz ≤ 1000000000 ∧ b.sz ≤ 1000000000) fun a b => boolV (hasB b.lo.q b.hi.q a.lo.q && hasB b.lo.q b.hi.q a.hi.q)
set_option maxRecDepth 100000 in
set_option maxHeartbeats 1000000 in
theorem s_ball_Within : Sound Try.prog 116 d_ball_Within := by
  refine sound2 (fz := nofz) (l := [(123, d_ball_Has)]) TT_ok ⟨s_ball_Has, trivial⟩ mixed Try.func116 Try.ntmps116 Try.results116 Try.call116 rfl (by omega) (fun _ _ => rfl) ?_
  intro a b hp ha hb
  rw [codeK_start]
  simp only [go_sem, d_ball_Has, Nat.reduceBEq, Nat.reduceBNe, Nat.reduceLT, Nat.reduceLeDiff, Nat.reduceAdd, Nat.reduceSub, Nat.reduceMul, Nat.reduceEqDiff, Int.reduceNeg, Int.reduceAdd, Int.reduceLT, Int.reduceLE, Int.reduceToNat, ↓reduceIte]
  have l := BB.lens hp.1
  have m := BB.lens hp.2
  refine ⟨⟨by omega, by omega⟩, ?_⟩
  split
  · rename_i h1; exact ⟨⟨by omega, by omega⟩, by rw [h1]; rfl⟩
  · rename_i h1; rw [Bool.not_eq_true] at h1; rw [h1]; rfl

def d_ball_Side : Den := den2 aBall aBall (fun a b => a.sz ≤ 1000000000 ∧ b.sz ≤ 1000000000) fun a b => intV (sideI a b)
set_option maxRecDepth 100000 in
set_option maxHeartbeats 1000000 in
theorem s_ball_Side : Sound Try.prog 113 d_ball_Side := by
  refine sound2 (fz := nofz) (l := [(96, d_rat_Cmp)]) TT_ok ⟨s_rat_Cmp, trivial⟩ mixed Try.func113 Try.ntmps113 Try.results113 Try.call113 rfl (by omega) (fun _ _ => rfl) ?_
  intro a b hp ha hb
  rw [codeK_start]
  simp only [go_sem, d_rat_Cmp, Nat.reduceBEq, Nat.reduceBNe, Nat.reduceLT, Nat.reduceLeDiff, Nat.reduceAdd, Nat.reduceSub, Nat.reduceMul, Nat.reduceEqDiff, Int.reduceNeg, Int.reduceAdd, Int.reduceLT, Int.reduceLE, Int.reduceToNat, ↓reduceIte]
  have l := BB.lens hp.1
  have m := BB.lens hp.2
  refine ⟨⟨by omega, by omega⟩, ?_⟩
  unfold sideI
  split
  · rfl
  · refine ⟨⟨by omega, by omega⟩, ?_⟩
    split <;> rfl

def d_ball_Meet : Den := den2 aBall aBall (fun a b => a.sz ≤ 100000000 ∧ b.sz ≤ 100000000) fun a b => ballOkV (bb (meetLo a b) (meetHi a b)) (decide (sideI a b = 0))
set_option maxRecDepth 100000 in
set_option maxHeartbeats 1000000 in
theorem s_ball_Meet : Sound Try.prog 114 d_ball_Meet := by
  refine sound2 (fz := nofz) (l := [(113, d_ball_Side), (194, d_ball_zero), (84, d_ball_Of), (53, d_rat_Norm), (96, d_rat_Cmp)]) TT_ok ⟨s_ball_Side, s_ball_zero, s_ball_Of, s_rat_Norm, s_rat_Cmp, trivial⟩ mixed Try.func114 Try.ntmps114 Try.results114 Try.call114 rfl (by omega) (fun _ _ => rfl) ?_
  intro a b hp ha hb
  rw [codeK_start]
  simp only [go_sem, d_ball_Side, d_ball_zero, d_ball_Of, d_rat_Norm, d_rat_Cmp, Nat.reduceBEq, Nat.reduceBNe, Nat.reduceLT, Nat.reduceLeDiff, Nat.reduceAdd, Nat.reduceSub, Nat.reduceMul, Nat.reduceEqDiff, Int.reduceNeg, Int.reduceAdd, Int.reduceLT, Int.reduceLE, Int.reduceToNat, ↓reduceIte]
  have l := BB.lens hp.1
  have m := BB.lens hp.2
  have q1 : rs a.lo.q ≤ 100000000 := rs_ok ha.1 l.1 (by omega)
  have q2 : rs a.hi.q ≤ 100000000 := rs_ok ha.2 l.2 (by omega)
  have q3 : rs b.lo.q ≤ 100000000 := rs_ok hb.1 m.1 (by omega)
  have q4 : rs b.hi.q ≤ 100000000 := rs_ok hb.2 m.2 (by omega)
  refine ⟨⟨by omega, by omega⟩, ?_⟩
  split
  · rename_i c
    have c : ¬ sideI a b = 0 := by simpa using c
    have e1 : meetLo a b = 0 := by unfold meetLo; rw [if_neg c]
    have e2 : meetHi a b = 0 := by unfold meetHi; rw [if_neg c]
    rw [e1, e2, decide_eq_false c]
    exact ⟨rs0 (by omega), ⟨rfl, rfl, rfl, rfl, rfl, rfl⟩, rfl⟩
  · rename_i c
    have c : sideI a b = 0 := by simpa using c
    have e1 : meetLo a b = mx a.lo.q b.lo.q := by unfold meetLo; rw [if_pos c]
    have e2 : meetHi a b = mn a.hi.q b.hi.q := by unfold meetHi; rw [if_pos c]
    rw [e1, e2, decide_eq_true c]
    refine ⟨by omega, by omega, by kernel_rfl, ⟨by omega, by omega⟩, ?_⟩
    rw [← mx_if, ← mn_if]
    split
    · refine ⟨by omega, ⟨by omega, by omega⟩, ?_⟩
      split
      · exact ⟨by omega, ⟨rfl, rfl, rfl, rfl, rfl, rfl⟩, rfl⟩
      · exact ⟨⟨rfl, rfl, rfl, rfl, rfl, rfl⟩, rfl⟩
    · refine ⟨⟨by omega, by omega⟩, ?_⟩
      split
      · exact ⟨by omega, ⟨rfl, rfl, rfl, rfl, rfl, rfl⟩, rfl⟩
      · exact ⟨⟨rfl, rfl, rfl, rfl, rfl, rfl⟩, rfl⟩


end Go.Proofs.Ytmfoihjkhoinaaa
