/- vernierlaw2's helpers: two numbers limb by limb, a half and a third, whether numbers are more than is looked at. Conditions: rows shorter than 10^14. -/
import Derived.Test.YtdojdghhbjjoeaaAn
import Derived.Test.YtdojdghhbjjoeaaGH
namespace Go.Proofs.Ytdojdghhbjjoeaa
open Go.RowKit
set_option linter.unusedSimpArgs false
set_option linter.unusedVariables false

def oneB (a b : RR) : Bool := a.s == b.s && (decide (a.n = b.n) && decide (a.d = b.d))
theorem oneB_cr (p q : Rat) : oneB (cr p) (cr q) = decide (p = q) := by
  unfold oneB
  rw [Bool.eq_iff_iff]
  simp only [Bool.and_eq_true, beq_iff_eq, decide_eq_true_eq, cr_s, cr_n, cr_d]
  constructor
  · rintro ⟨h1, h2, h3⟩
    rw [← cr_q p, ← cr_q q]
    have h2 := of_decide_eq_true h2
    have h3 := of_decide_eq_true h3
    simp only [RR.q, cr, h1, h2, h3]
  · rintro rfl; exact ⟨rfl, decide_eq_true rfl, decide_eq_true rfl⟩
theorem oneB_self (a : RR) : oneB a a = true := by simp [oneB]
attribute [go_sem] oneB_cr oneB_self

def d_law2_one : Den := den2 aRat aRat (fun a b => a.sz ≤ 8000000000000) fun a b => boolV (oneB a b)
theorem s_law2_one : Sound Try.prog 18 d_law2_one :=
  told2 Try.call18 (fun _ _ => rfl) fun a b X w u v h hX hu hv => by
    obtain ⟨us, rfl, hl⟩ := hu
    obtain ⟨x, x1, x2, rfl, e1, g1, g2⟩ := hl.three
    obtain ⟨vs, rfl, hl2⟩ := hv
    obtain ⟨y, y1, y2, rfl, e2, f1, f2⟩ := hl2.three
    have e1 : x = .bool a.s := e1
    have e2 : y = .bool b.s := e2
    subst e1 e2
    exact retFlat (fun _ => rfl) (lawOneRaw w a.s b.s x1 x2 y1 y2 a.n a.d b.n b.d 0 0 0 0 (lim_nt g1) (lim_nt g2) (lim_nt f1) (lim_nt f2) (Nat.le_trans (Nat.le_max_left _ _) h) (Nat.le_trans (Nat.le_max_right _ _) h))

def d_law2_known : Den := den0 (boolV true)
theorem s_law2_known : Sound Try.prog 21 d_law2_known := by
  refine ⟨Try.call21, fun avs X w vs hd hX hvs => ?_, fun avs hd => ?_⟩
  · unfold d_law2_known den0 at hd ⊢
    split at hd
    · cases hvs
      exact retFlat (fun _ => rfl) (lawKnown w)
    · exact hd.elim
  · unfold d_law2_known den0 at hd ⊢
    split at hd
    · rfl
    · exact hd.elim

def lensOf (r : RR) : Nat := r.n.length + r.d.length
def sumLens (l : List RR) : Nat := (l.map lensOf).sum
theorem sumLens_take {l : List RR} {i : Nat} (h : i < l.length) : sumLens (l.take (i + 1)) = sumLens (l.take i) + lensOf (l.getD i rr0) := by
  unfold sumLens
  rw [List.take_succ_eq_append_getElem h, List.map_append, List.sum_append, List.getD_eq_getElem?_getD, List.getElem?_eq_getElem h]
  simp only [List.map_cons, List.map_nil, List.sum_cons, List.sum_nil, Option.getD_some, Nat.add_zero]
theorem sumLens_le {l : List RR} (i : Nat) : sumLens (l.take i) ≤ sumLens l := by
  unfold sumLens
  have : (l.map lensOf).sum = ((l.take i).map lensOf).sum + ((l.drop i).map lensOf).sum := by
    rw [← List.sum_append, ← List.map_append, List.take_append_drop]
  omega

def d_law2_big : Den := den1 aRats (fun l => l.length ≤ 1000 ∧ ∀ r ∈ l, r.sz ≤ 100000000000000) fun l => boolV (decide (16 < sumLens l))
set_option maxRecDepth 100000 in
set_option maxHeartbeats 1000000 in
theorem s_law2_big : Sound Try.prog 17 d_law2_big := by
  refine sound1 (fz := nofz) (l := []) TT_ok trivial mixed Try.func17 Try.ntmps17 Try.results17 Try.call17 rfl (by omega) (fun _ => rfl) ?_
  intro a hp ha
  rw [codeK_start]
  simp only [go_sem, Nat.reduceBEq, Nat.reduceBNe, Nat.reduceLT, Nat.reduceLeDiff, Nat.reduceAdd, Nat.reduceSub, Nat.reduceMul, Nat.reduceEqDiff, Int.reduceNeg, Int.reduceAdd, Int.reduceLT, Int.reduceLE, ↓reduceIte]
  refine codeK_loop (fun i : { i : Nat // i ≤ a.length ∧ sumLens (a.take i) ≤ 16 } => [(4, 0, .av (intV (i.1 : Nat))), (3, 0, .av (intV (sumLens (a.take i.1) : Nat))), (2, 0, .av (boolV false)), (0, 0, .av (ratsV a))]) (fun i => a.length - i.1) ⟨0, by omega, by simp [sumLens]⟩ (le_of ?_) ?_
  · simp only [go_sem, leL, Nat.reduceBEq, Nat.reduceBNe, Nat.reduceLT, Nat.reduceLeDiff, Nat.reduceAdd, Nat.reduceSub, Nat.reduceMul, Nat.reduceEqDiff, Int.reduceNeg, Int.reduceAdd, Int.reduceLT, Int.reduceLE, ↓reduceIte, List.take_zero, sumLens, List.map_nil, List.sum_nil, Int.ofNat_zero, Int.natCast_zero, Int.cast_ofNat_Int]
  · rintro ⟨i, hi0, hs0⟩
    by_cases hi : i < a.length
    · have hm := hp.2 _ (getD_mem (d := rr0) hi)
      have hst := sumLens_take hi
      have h1 : (a.getD i rr0).n.length ≤ 100000000000000 := Nat.le_trans (Nat.le_max_left _ _) hm
      have h2 : (a.getD i rr0).d.length ≤ 100000000000000 := Nat.le_trans (Nat.le_max_right _ _) hm
      have hle := sumLens_le (l := a) (i + 1)
      unfold lensOf at hst
      simp only [go_sem, getD_rats hi, Int.ofNat_lt, hi, Nat.reduceBEq, Nat.reduceBNe, Nat.reduceLT, Nat.reduceLeDiff, Nat.reduceAdd, Nat.reduceSub, Nat.reduceMul, Nat.reduceEqDiff, Int.reduceNeg, Int.reduceAdd, Int.reduceLT, Int.reduceLE, ↓reduceIte]
      refine ⟨⟨by omega, by omega⟩, ⟨by omega, by omega⟩, by kernel_rfl, ?_⟩
      split
      · exact (decide_eq_true (by omega)).symm
      · refine ⟨⟨by omega, by omega⟩, ⟨⟨i + 1, by omega, by omega⟩, by show _ < _; simp only []; omega, le_of ?_⟩⟩
        simp only [go_sem, Nat.reduceBEq, Nat.reduceBNe, Nat.reduceLT, Nat.reduceLeDiff, Nat.reduceAdd, Nat.reduceSub, Nat.reduceMul, Nat.reduceEqDiff, Int.reduceNeg, Int.reduceAdd, Int.reduceLT, Int.reduceLE, ↓reduceIte, leL]
        refine ⟨by omega, by omega⟩
    · simp only [go_sem, Int.ofNat_lt, hi, Nat.reduceBEq, Nat.reduceBNe, Nat.reduceLT, Nat.reduceLeDiff, Nat.reduceAdd, Nat.reduceSub, Nat.reduceMul, Nat.reduceEqDiff, Int.reduceNeg, Int.reduceAdd, Int.reduceLT, Int.reduceLE, ↓reduceIte]
      have e : i = a.length := by omega
      subst e
      rw [List.take_length] at hs0
      exact (decide_eq_false (by omega)).symm

end Go.Proofs.Ytdojdghhbjjoeaa
