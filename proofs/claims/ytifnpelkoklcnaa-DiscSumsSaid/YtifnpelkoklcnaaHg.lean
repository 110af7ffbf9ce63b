/- vernierref13: Binom, BinomCdf, BinomTwo; vernierlaw13: long, known, by the abstract walk. Conditions: numbers of at most 1000 limbs. What the laws of chapter 13 ask of chances. No condition. -/
import Derived.Test.YtifnpelkoklcnaaHe
namespace Go.Proofs.Ytifnpelkoklcnaa
open Go.RowKit
set_option linter.unusedSimpArgs false
set_option linter.unusedVariables false

def d_ref13_Binom : Den := den3 aInt aInt aRat (fun _ _ x => x.sz ≤ 1000) fun n k x => ratOkV (cr (bQ n k x.q)) (tryB n x.q)
def d_ref13_BinomCdf : Den := den3 aInt aInt aRat (fun _ _ x => x.sz ≤ 1000) fun n k x => ratOkV (cr (cQ n k x.q)) (tryB n x.q)
def d_ref13_BinomTwo : Den := den3 aInt aInt aRat (fun _ _ x => x.sz ≤ 1000) fun n k x => ratOkV (cr (tQ n k x.q)) (twoB n k x.q)
def longR (x : RR) : Bool := decide (1 < x.n.length) || decide (1 < x.d.length)
theorem not_long {x : RR} (h : longR x = false) : x.sz ≤ 1 := by
  unfold longR at h
  rw [Bool.or_eq_false_iff] at h
  have h1 := of_decide_eq_false h.1
  have h2 := of_decide_eq_false h.2
  exact RR.sz_le (by omega) (by omega)

def d_law13_long : Den := den1 aRat (fun x => x.sz ≤ 100000000000000) fun x => boolV (longR x)
set_option maxRecDepth 100000 in
set_option maxHeartbeats 1000000 in
theorem s_law13_long : Sound Try.prog 45 d_law13_long := by
  refine sound1 (fz := nofz) (l := []) TT_ok trivial mixed Try.func45 Try.ntmps45 Try.results45 Try.call45 rfl (by omega) (fun _ => rfl) ?_
  intro a hp ha
  rw [codeK_start]
  have lx := RR.lens hp
  unfold longR
  by_cases c1 : 1 < a.n.length
  · have c1' : ((1 : Int) < (a.n.length : Nat)) = True := eq_true (by omega)
    have c1t := eq_true c1
    simp only [go_sem, decide_true, decide_false, c1', c1t, Nat.reduceBEq, Nat.reduceBNe, Nat.reduceLT, Nat.reduceLeDiff, Nat.reduceAdd, Nat.reduceSub, Nat.reduceMul, Nat.reduceEqDiff, Int.reduceNeg, Int.reduceAdd, Int.reduceLT, Int.reduceLE, Int.reduceToNat, ↓reduceIte]
    try ((try and_intros) <;> first | exact trivial | omega | (show okDraw _ _ = true; kernel_rfl) | assumption)
  have c1' : ((1 : Int) < (a.n.length : Nat)) = False := eq_false (by omega)
  have c1t := eq_false c1
  by_cases c2 : 1 < a.d.length
  · have c2' : ((1 : Int) < (a.d.length : Nat)) = True := eq_true (by omega)
    have c2t := eq_true c2
    simp only [go_sem, decide_true, decide_false, c1', c1t, c2', c2t, Nat.reduceBEq, Nat.reduceBNe, Nat.reduceLT, Nat.reduceLeDiff, Nat.reduceAdd, Nat.reduceSub, Nat.reduceMul, Nat.reduceEqDiff, Int.reduceNeg, Int.reduceAdd, Int.reduceLT, Int.reduceLE, Int.reduceToNat, ↓reduceIte]
    try ((try and_intros) <;> first | exact trivial | omega | (show okDraw _ _ = true; kernel_rfl) | assumption)
  have c2' : ((1 : Int) < (a.d.length : Nat)) = False := eq_false (by omega)
  have c2t := eq_false c2
  simp only [go_sem, decide_true, decide_false, c1', c1t, c2', c2t, Nat.reduceBEq, Nat.reduceBNe, Nat.reduceLT, Nat.reduceLeDiff, Nat.reduceAdd, Nat.reduceSub, Nat.reduceMul, Nat.reduceEqDiff, Int.reduceNeg, Int.reduceAdd, Int.reduceLT, Int.reduceLE, Int.reduceToNat, ↓reduceIte]
  try ((try and_intros) <;> first | exact trivial | omega | (show okDraw _ _ = true; kernel_rfl) | assumption)

def d_law13_known : Den := den0 (boolV true)
set_option maxRecDepth 100000 in
set_option maxHeartbeats 1000000 in
theorem s_law13_known : Sound Try.prog 52 d_law13_known := by
  refine sound0 (fz := nofz) (l := [(28, d_ref2_Of), (47, d_disc_Binom), (48, d_ref2_Same)]) TT_ok ⟨s_ref2_Of, s_disc_Binom, s_ref2_Same, trivial⟩ mixed Try.func52 Try.ntmps52 Try.results52 Try.call52 rfl rfl ?_
  rw [codeK_start]
  have e1 : tryB 2 (qv false 1 (val [2])) = true := by decide +kernel
  have e2 : bQ 2 1 (qv false 1 (val [2])) = qv false 1 (val [2]) := by decide +kernel
  have hz : rs (qv false 1 (val [2])) ≤ 1 := by
    show rs (qv false 1 2) ≤ 1
    exact rs_qv _ _ _ _ (by decide) (by decide) (by omega)
  simp only [go_sem, d_ref2_Of, d_disc_Binom, d_ref2_Same, decide_true, decide_false, e1, e2, eq_self, Nat.reduceBEq, Nat.reduceBNe, Nat.reduceLT, Nat.reduceLeDiff, Nat.reduceAdd, Nat.reduceSub, Nat.reduceMul, Nat.reduceEqDiff, Int.reduceNeg, Int.reduceAdd, Int.reduceLT, Int.reduceLE, Int.reduceToNat, ↓reduceIte]
  ((try and_intros) <;> first | exact trivial | omega | (show okDraw _ _ = true; kernel_rfl) | assumption)


end Go.Proofs.Ytifnpelkoklcnaa

namespace Go.Proofs.Ytifnpelkoklcnaa
open Go.RowKit
set_option linter.unusedSimpArgs false
set_option linter.unusedVariables false

theorem try_yes {n : Int} {q : Rat} (h1 : 0 ≤ n) (h2 : n ≤ 256) (h3 : 0 ≤ q) (h4 : q ≤ 1) : tryB n q = true := by unfold tryB; simp [h1, h2, h3, h4]
theorem rs_part {x : RR} (h : x.ok) (h2 : x.sz ≤ 1000) {n m : Nat} (hn : n ≤ 256) (hm : m ≤ x.q.den ^ n) : rs (qv false m (x.q.den ^ n)) ≤ 256001 := by
  have h3 := ll_pow_le (ll_den h h2).2 hn
  exact rs_qv _ _ _ _ (Nat.le_trans (ll_mono hm) h3) h3 (by omega)
theorem rs_binQ {x : RR} (h : x.ok) (h2 : x.sz ≤ 1000) (h0 : 0 ≤ x.q) (h1 : x.q ≤ 1) {n : Nat} (hn : n ≤ 256) (k : Nat) : rs (binQ x.q n k) ≤ 256001 := rs_part h h2 hn (binN_le h0 h1 n k)
theorem rs_twoQ {x : RR} (h : x.ok) (h2 : x.sz ≤ 1000) (h0 : 0 ≤ x.q) (h1 : x.q ≤ 1) {n : Nat} (hn : n ≤ 256) (k : Nat) : rs (twoQ x.q n k) ≤ 256001 := rs_part h h2 hn (twoN_le h0 h1 n k (Nat.le_refl _))
theorem rs_bQ {x : RR} (h : x.ok) (h2 : x.sz ≤ 1000) (n k : Int) : rs (bQ n k x.q) ≤ 256001 := by
  unfold bQ
  split
  · rename_i c
    obtain ⟨c1, c2, c3, c4⟩ := try_of c.1
    exact rs_binQ h h2 c3 c4 (by omega) _
  · exact rs0 (by omega)
theorem rs_cQ {x : RR} (h : x.ok) (h2 : x.sz ≤ 1000) (n k : Int) : rs (cQ n k x.q) ≤ 256001 := by
  unfold cQ
  split
  · rename_i c
    obtain ⟨c1, c2, c3, c4⟩ := try_of c.1
    split
    · exact rs1 (by omega)
    · exact rs_part h h2 (by omega) (cdfN_le c3 c4 (by omega))
  · exact rs0 (by omega)
theorem rs_tQ {x : RR} (h : x.ok) (h2 : x.sz ≤ 1000) (n k : Int) : rs (tQ n k x.q) ≤ 256001 := by
  unfold tQ
  split
  · rename_i c
    obtain ⟨c1, c2, c3, c4⟩ := try_of c.1
    exact rs_twoQ h h2 c3 c4 (by omega) _
  · exact rs0 (by omega)
theorem bQ_in {n k : Nat} {q : Rat} (h3 : 0 ≤ q) (h4 : q ≤ 1) (hn : n ≤ 256) (hk : k ≤ n) : bQ n k q = binQ q n k := by
  unfold bQ
  rw [if_pos ⟨try_yes (by omega) (by omega) h3 h4, by omega, by omega⟩]
  rfl
theorem tQ_in {n k : Nat} {q : Rat} (h3 : 0 ≤ q) (h4 : q ≤ 1) (hn : n ≤ 256) (hk : k ≤ n) : tQ n k q = twoQ q n k ∧ twoB n k q = true := by
  have ht : tryB n q = true := try_yes (by omega) (by omega) h3 h4
  unfold tQ twoB
  rw [if_pos ⟨ht, by omega, by omega⟩, ht, decide_eq_true (show (0 : Int) ≤ (k : Nat) by omega), decide_eq_true (show ((k : Nat) : Int) ≤ (n : Nat) by omega)]
  exact ⟨rfl, rfl⟩

/-! the mean -/
def meanS (q : Rat) (n m : Nat) : Rat := sumTo (fun k => binQ q n k * (((k : Nat) : Int) : Rat)) m
theorem meanS_next (q : Rat) (n m : Nat) : meanS q n (m + 1) = meanS q n m + binQ q n m * (((m : Nat) : Int) : Rat) := rfl
theorem meanS_zero (q : Rat) (n : Nat) : meanS q n 0 = 0 := rfl
theorem rs_meanS {x : RR} (h : x.ok) (h2 : x.sz ≤ 1000) (h0 : 0 ≤ x.q) (h1 : x.q ≤ 1) {n m : Nat} (hn : n ≤ 256) (hm : m ≤ 1000) : rs (meanS x.q n m) ≤ 256006000 ∨ 256 < m := by
  rcases Nat.lt_or_ge 256 m with h3 | h3
  · exact .inr h3
  · left
    have key : ∀ m, m ≤ 256 → rs (meanS x.q n m) ≤ m * 256005 + 1 := by
      intro m
      induction m with
      | zero => intro _; rw [meanS_zero]; exact rs0 (by omega)
      | succ m ih =>
        intro hm
        have i1 := ih (by omega)
        have i2 : rs (((m : Nat) : Int) : Rat) ≤ 2 := rsb_int (by omega) (by omega) (by omega)
        have i3 : rs (binQ x.q n m * (((m : Nat) : Int) : Rat)) ≤ 256003 := rsb_mul (rs_binQ h h2 h0 h1 hn m) i2 (by omega)
        rw [meanS_next]
        exact rsb_add i1 i3 (by omega)
    have := key m h3
    omega

/-! the likeliest count -/
def mostQ (q : Rat) (n : Nat) : Nat → Rat
  | 0 => -1
  | i + 1 => if mostQ q n i < binQ q n i then binQ q n i else mostQ q n i
def bestN (q : Rat) (n : Nat) : Nat → Nat
  | 0 => 0
  | i + 1 => if mostQ q n i < binQ q n i then i else bestN q n i
theorem most_yes {q : Rat} {n i : Nat} (h : mostQ q n i < binQ q n i) : mostQ q n (i + 1) = binQ q n i ∧ bestN q n (i + 1) = i := ⟨if_pos h, if_pos h⟩
theorem most_no {q : Rat} {n i : Nat} (h : ¬ mostQ q n i < binQ q n i) : mostQ q n (i + 1) = mostQ q n i ∧ bestN q n (i + 1) = bestN q n i := ⟨if_neg h, if_neg h⟩
theorem most_ge (q : Rat) (n : Nat) : ∀ (i j : Nat), j < i → binQ q n j ≤ mostQ q n i
  | i + 1, j, h => by
    by_cases c : mostQ q n i < binQ q n i
    · rw [(most_yes c).1]
      rcases Nat.lt_or_ge j i with hj | hj
      · exact Rat.le_trans (most_ge q n i j hj) (Rat.le_of_lt c)
      · rw [show j = i by omega]; exact Rat.le_refl
    · rw [(most_no c).1]
      rcases Nat.lt_or_ge j i with hj | hj
      · exact most_ge q n i j hj
      · rw [show j = i by omega]; exact Rat.not_lt.1 c
theorem most_is (q : Rat) (n : Nat) : ∀ i : Nat, 0 < i → mostQ q n i = binQ q n (bestN q n i) ∧ bestN q n i < i
  | i + 1, _ => by
    by_cases c : mostQ q n i < binQ q n i
    · rw [(most_yes c).1, (most_yes c).2]; exact ⟨rfl, by omega⟩
    · rw [(most_no c).1, (most_no c).2]
      have hi : 0 < i := by
        rcases Nat.eq_zero_or_pos i with h0 | h0
        · subst h0
          exfalso
          apply c
          have h1 := binQ_nonneg q n 0
          have h2 : (-1 : Rat) < 0 := by decide +kernel
          show (-1 : Rat) < _
          exact (show (-1 : Rat) < binQ q n 0 by grind)
        · exact h0
      have := most_is q n i hi
      exact ⟨this.1, by omega⟩
theorem rs_mostQ {x : RR} (h : x.ok) (h2 : x.sz ≤ 1000) (h0 : 0 ≤ x.q) (h1 : x.q ≤ 1) {n : Nat} (hn : n ≤ 256) (i : Nat) : rs (mostQ x.q n i) ≤ 256001 := by
  rcases Nat.eq_zero_or_pos i with h3 | h3
  · subst h3; show rs (-1 : Rat) ≤ _; rw [rs_neg]; exact rs1 (by omega)
  · rw [(most_is x.q n i h3).1]; exact rs_binQ h h2 h0 h1 hn _
theorem two_most {q : Rat} (h : 0 ≤ q) (h1 : q ≤ 1) (n : Nat) : twoQ q n (bestN q n (n + 1)) = 1 :=
  two_best h h1 fun j hj => by rw [← (most_is q n (n + 1) (by omega)).1]; exact most_ge q n (n + 1) j hj
theorem best_le (q : Rat) (n : Nat) : bestN q n (n + 1) ≤ n := by have := (most_is q n (n + 1) (by omega)).2; omega

end Go.Proofs.Ytifnpelkoklcnaa
