/- vernierref17: Sorted, Quantile, by the abstract walk. Condition: rows of fewer than 20 numbers of at most 1000 limbs. -/
import Derived.Test.YtifnpelkoklcnaaLh
namespace Go.Proofs.Ytifnpelkoklcnaa
open Go.RowKit
set_option linter.unusedSimpArgs false
set_option linter.unusedVariables false

/-- behind how many of the first k ones a number comes -/
def kp (S : List RR) (x : Rat) : Nat → Nat
  | 0 => 0
  | k + 1 => if x < (S.getD k rr0).q then kp S x k else k + 1
theorem kp_le (S : List RR) (x : Rat) : ∀ k, kp S x k ≤ k
  | 0 => Nat.le_refl _
  | k + 1 => by
    have := kp_le S x k
    unfold kp
    split <;> omega
theorem kp_above (S : List RR) (x : Rat) : ∀ k j, kp S x k ≤ j → j < k → x < (S.getD j rr0).q
  | 0, j, _, h => by omega
  | k + 1, j, h1, h2 => by
    unfold kp at h1
    split at h1
    · rename_i h3
      by_cases e : j = k
      · rw [e]; exact h3
      · exact kp_above S x k j h1 (by omega)
    · omega
theorem kp_below (S : List RR) (x : Rat) : ∀ k, kp S x k = 0 ∨ (S.getD (kp S x k - 1) rr0).q ≤ x
  | 0 => .inl rfl
  | k + 1 => by
    unfold kp
    split
    · exact kp_below S x k
    · rename_i h
      exact .inr (Rat.not_lt.1 h)
def ins1 (S : List RR) (x : Rat) : List RR := S.take (kp S x S.length) ++ [cr x] ++ S.drop (kp S x S.length)
/-- the first i numbers in order -/
def oS (l : List RR) : Nat → List RR
  | 0 => []
  | i + 1 => ins1 (oS l i) (atQ l i)
theorem ins1_len (S : List RR) (x : Rat) : (ins1 S x).length = S.length + 1 := by
  have := kp_le S x S.length
  unfold ins1
  simp only [List.length_append, List.length_take, List.length_drop, List.length_cons, List.length_nil]
  omega
theorem oS_len (l : List RR) : ∀ i, (oS l i).length = i
  | 0 => rfl
  | i + 1 => by
    show (ins1 (oS l i) (atQ l i)).length = _
    rw [ins1_len, oS_len l i]
theorem ins1_perm (S : List RR) (x : Rat) : (ins1 S x).Perm (S ++ [cr x]) := by
  unfold ins1
  rw [List.append_assoc]
  have h : ([cr x] ++ S.drop (kp S x S.length)).Perm (S.drop (kp S x S.length) ++ [cr x]) := List.perm_append_comm
  have h2 := (List.Perm.refl (S.take (kp S x S.length))).append h
  rw [← List.append_assoc (S.take _) (S.drop _), List.take_append_drop] at h2
  exact h2
theorem oS_perm (l : List RR) : ∀ i, (oS l i).Perm (mkL (atQ l) i)
  | 0 => List.Perm.refl _
  | i + 1 => by
    have h := (ins1_perm (oS l i) (atQ l i)).trans ((oS_perm l i).append (List.Perm.refl [cr (atQ l i)]))
    have e : mkL (atQ l) (i + 1) = mkL (atQ l) i ++ [cr (atQ l i)] := by unfold mkL; rw [List.range_succ, List.map_append]; rfl
    rw [e]
    exact h
theorem ins1_pw {S : List RR} {x : Rat} (h : S.Pairwise fun a b => a.q ≤ b.q) : (ins1 S x).Pairwise fun a b => a.q ≤ b.q := by
  have ha := kp_above S x S.length
  have hb := kp_below S x S.length
  have hk := kp_le S x S.length
  unfold ins1
  generalize kp S x S.length = k at *
  have hs := h
  rw [← List.take_append_drop k S, List.pairwise_append] at hs
  obtain ⟨h1, h2, h3⟩ := hs
  have drop_gt : ∀ b ∈ S.drop k, x ≤ b.q := by
    intro b hb
    obtain ⟨j, hj, rfl⟩ := List.mem_iff_getElem.1 hb
    rw [List.getElem_drop]
    rw [List.length_drop] at hj
    have := ha (k + j) (by omega) (by omega)
    rw [List.getD_eq_getElem?_getD, List.getElem?_eq_getElem (by omega)] at this
    exact Rat.le_of_lt this
  have take_le : ∀ a ∈ S.take k, a.q ≤ x := by
    intro a ha'
    rcases hb with e | e
    · rw [e] at ha'; simp at ha'
    · obtain ⟨j, hj, rfl⟩ := List.mem_iff_getElem.1 ha'
      rw [List.length_take] at hj
      rw [List.getElem_take]
      refine Rat.le_trans ?_ e
      rw [List.getD_eq_getElem?_getD, List.getElem?_eq_getElem (by omega)]
      by_cases ej : j = k - 1
      · subst ej; exact Rat.le_refl
      · exact (List.pairwise_iff_getElem.1 h) j (k - 1) (by omega) (by omega) (by omega)
  rw [List.append_assoc, List.pairwise_append]
  refine ⟨h1, ?_, ?_⟩
  · rw [List.singleton_append, List.pairwise_cons]
    exact ⟨fun b hb => by rw [cr_q]; exact drop_gt b hb, h2⟩
  · intro a ha' b hb'
    rw [List.singleton_append, List.mem_cons] at hb'
    rcases hb' with rfl | hb'
    · rw [cr_q]; exact take_le a ha'
    · exact h3 a ha' b hb'
theorem oS_pw (l : List RR) : ∀ i, (oS l i).Pairwise fun a b => a.q ≤ b.q
  | 0 => List.Pairwise.nil
  | i + 1 => ins1_pw (oS_pw l i)
/-- it is the row in order -/
theorem oS_is (l : List RR) : oS l l.length = sortR l := (isort_is (fun r hr => mkL_cr r hr) (oS_perm l l.length) (oS_pw l l.length)).symm
theorem oS_cr (l : List RR) (i : Nat) : ∀ r ∈ oS l i, r = cr r.q := fun r hr => mkL_cr r ((oS_perm l i).mem_iff.1 hr)
theorem oS_sz {l : List RR} {K : Nat} (h : ∀ j, rs (atQ l j) ≤ K) (i : Nat) : ∀ r ∈ oS l i, r.sz ≤ K := fun r hr => mkL_sz (fun j _ => h j) r ((oS_perm l i).mem_iff.1 hr)
theorem kp_stop {S : List RR} {x : Rat} {k : Nat} (h : ¬ x < (S.getD k rr0).q) : kp S x (k + 1) = k + 1 := if_neg h
theorem kp_go {S : List RR} {x : Rat} {k : Nat} (h : x < (S.getD k rr0).q) : kp S x (k + 1) = kp S x k := if_pos h
theorem oS_cells (l : List RR) (i : Nat) : (((oS l i).map ratCells).take (kp (oS l i) (atQ l i) i) ++ [ratCells (cr (atQ l i))]) ++ ((oS l i).map ratCells).drop (kp (oS l i) (atQ l i) i) = (oS l (i + 1)).map ratCells := by
  show _ = (ins1 (oS l i) (atQ l i)).map ratCells
  unfold ins1
  rw [oS_len, List.map_append, List.map_append, List.map_take, List.map_drop]
  rfl
theorem RVle_nilR : RVle (.av (.one (.cel .nil))) (.av (ratsV [])) := fun _ _ _ _ _ _ _ h => ⟨h.1, h.2.1, AV.fit_G (x := .one (.cel .nil)) (y := ratsV []) rfl h.2.2⟩
def fz_ref17_Sorted : Nat → List Nat
  | 19 => [48]
  | _ => []

def d_ref17_Sorted : Den := den1 aRats (fun l => l.length < 20 ∧ ∀ r ∈ l, r.sz ≤ 1000) fun l => ratsV (sortR l)
set_option maxRecDepth 100000 in
set_option maxHeartbeats 1000000 in
theorem s_ref17_Sorted : Sound Try.prog 59 d_ref17_Sorted := by
  refine sound1 (fz := fz_ref17_Sorted) (l := [(34, d_ref2_Cmp), (22, d_ref2_Norm)]) TT_ok ⟨s_ref2_Cmp, s_ref2_Norm, trivial⟩ mixed Try.func59 Try.ntmps59 Try.results59 Try.call59 rfl (by omega) (fun _ => rfl) ?_
  intro l hp hl
  rw [codeK_start]
  simp only [go_sem, d_ref2_Cmp, d_ref2_Norm, fz_ref17_Sorted, beq_self_eq_true, Nat.reduceBEq, Nat.reduceBNe, Nat.reduceLT, Nat.reduceLeDiff, Nat.reduceAdd, Nat.reduceSub, Nat.reduceMul, Nat.reduceEqDiff, Int.reduceNeg, Int.reduceAdd, Int.reduceLT, Int.reduceLE, Int.reduceToNat, ↓reduceIte]
  have hq := rs_atQ hl hp.2 (by omega)
  refine codeK_loop (fun i : { i : Nat // i ≤ l.length } => [(4, 0, .av (intV ((i.1 : Nat) : Int))), (3, 0, .av (ratsV (oS l (i.1)))), (0, 0, .av (ratsV l))]) (fun i => l.length - i.1) ⟨0, by omega⟩ ?_ ?_
  · refine Le.trans (b := [(4, 0, .av (intV ((0 : Nat) : Int))), (3, 0, .av (ratsV [])), (0, 0, .av (ratsV l))]) (le_ofW ?_) (le_of ?_)
    · simp only [go_sem, leW, Nat.reduceBEq, Nat.reduceBNe, Nat.reduceLT, Nat.reduceLeDiff, Nat.reduceAdd, Nat.reduceSub, Nat.reduceMul, Nat.reduceEqDiff, Int.reduceNeg, Int.reduceAdd, Int.reduceLT, Int.reduceLE, Int.reduceToNat, ↓reduceIte, Option.some.injEq, exists_eq_left', and_true]
      and_intros
      all_goals first | exact RVle.refl _ | exact RVle_nilR | exact ⟨_, rfl, RVle.refl _⟩ | exact ⟨_, rfl, RVle_nilR⟩
    · simp only [go_sem, leL, oS, Nat.reduceBEq, Nat.reduceBNe, Nat.reduceLT, Nat.reduceLeDiff, Nat.reduceAdd, Nat.reduceSub, Nat.reduceMul, Nat.reduceEqDiff, Int.reduceNeg, Int.reduceAdd, Int.reduceLT, Int.reduceLE, Int.reduceToNat, ↓reduceIte, Int.ofNat_zero, Int.natCast_zero, Int.cast_ofNat_Int]
  · rintro ⟨i, hi0⟩
    have hi0 : i ≤ l.length := hi0
    have hS := oS_len l i
    have hml : ((oS l i).map ratCells).length = i := by rw [List.length_map, hS]
    have hti : List.take i ((oS l i).map ratCells) = (oS l i).map ratCells := List.take_of_length_le (by omega)
    have hcl := oS_cells l i
    have hn1 : ((oS l (i + 1)).map ratCells).length = i + 1 := by rw [List.length_map, oS_len]
    by_cases hi : i < l.length
    · have hit : (((i : Nat) : Int) < ((l.length : Nat) : Int)) = True := eq_true (by omega)
      simp only [go_sem, fz_ref17_Sorted, d_ref2_Cmp, d_ref2_Norm, beq_self_eq_true, eq_self, decide_true, decide_false, Bool.not_true, Bool.not_false, hS, hit, Nat.reduceBEq, Nat.reduceBNe, Nat.reduceLT, Nat.reduceLeDiff, Nat.reduceAdd, Nat.reduceSub, Nat.reduceMul, Nat.reduceEqDiff, Int.reduceNeg, Int.reduceAdd, Int.reduceLT, Int.reduceLE, Int.reduceToNat, ↓reduceIte]
      refine codeK_loop (fun m : { m : Nat // m ≤ i ∧ kp (oS l i) (atQ l i) m = kp (oS l i) (atQ l i) i } => [(5, 0, .av (intV ((m.1 : Nat) : Int))), (4, 0, .av (intV ((i : Nat) : Int))), (3, 0, .av (ratsV (oS l (i)))), (0, 0, .av (ratsV l))]) (fun m => m.1) ⟨i, by omega, rfl⟩ (le_of ?_) ?_
      · simp only [go_sem, leL, Nat.reduceBEq, Nat.reduceBNe, Nat.reduceLT, Nat.reduceLeDiff, Nat.reduceAdd, Nat.reduceSub, Nat.reduceMul, Nat.reduceEqDiff, Int.reduceNeg, Int.reduceAdd, Int.reduceLT, Int.reduceLE, Int.reduceToNat, ↓reduceIte]
      · rintro ⟨m, hm0⟩
        have hm0 : m ≤ i ∧ kp (oS l i) (atQ l i) m = kp (oS l i) (atQ l i) i := hm0
        have hm1 := hm0.1
        have hm2 := hm0.2
        have hat : ∀ j, (oS l i).getD j rr0 = rr0 ∨ True := fun _ => .inr trivial
        by_cases hm : m = 0
        · subst hm
          have hk0 : kp (oS l i) (atQ l i) i = 0 := by rw [← hm2]; rfl
          have hsy := hp.2 _ (getD_mem (d := rr0) hi)
          have hrow : [.bool (cr (l.getD i rr0).q).s, .lim none (cr (l.getD i rr0).q).n, .lim none (cr (l.getD i rr0).q).d] :: (oS l i).map ratCells = (oS l (i + 1)).map ratCells := by
            rw [hk0] at hcl; exact hcl
          simp only [go_sem, fz_ref17_Sorted, d_ref2_Cmp, d_ref2_Norm, beq_self_eq_true, eq_self, decide_true, decide_false, Bool.not_true, Bool.not_false, hS, hit, hrow, hti, hml, Int.natCast_zero, Int.ofNat_zero, Int.cast_ofNat_Int, Nat.lt_irrefl, Int.lt_irrefl, Option.toList_none, Option.toList_some, List.nil_append, List.replicate_zero, List.append_nil, List.take_zero, List.length_nil, List.length_append, List.length_cons, getD_rats hi, getD_ratsI hi, Nat.reduceBEq, Nat.reduceBNe, Nat.reduceLT, Nat.reduceLeDiff, Nat.reduceAdd, Nat.reduceSub, Nat.reduceMul, Nat.reduceEqDiff, Int.reduceNeg, Int.reduceAdd, Int.reduceLT, Int.reduceLE, Int.reduceToNat, ↓reduceIte]
          and_intros
          all_goals try (first | exact trivial | omega | (show okDraw _ _ = true; kernel_rfl))
          refine ⟨⟨i + 1, by omega⟩, by show l.length - (i + 1) < l.length - i; omega, le_of ?_⟩
          simp only [go_sem, leL, Nat.reduceBEq, Nat.reduceBNe, Nat.reduceLT, Nat.reduceLeDiff, Nat.reduceAdd, Nat.reduceSub, Nat.reduceMul, Nat.reduceEqDiff, Int.reduceNeg, Int.reduceAdd, Int.reduceLT, Int.reduceLE, Int.reduceToNat, ↓reduceIte]
          exact ⟨by omega, by rw [List.take_of_length_le (Nat.le_of_eq (List.length_map ..))]⟩
        · obtain ⟨t, rfl⟩ : ∃ t, m = t + 1 := ⟨m - 1, by omega⟩
          have ht : t < (oS l i).length := by omega
          have hc1 : (((t + 1 : Nat) : Int) - 1) = ((t : Nat) : Int) := by omega
          have hc2 : (((t + 1 : Nat) : Int) > 0) = True := eq_true (by omega)
          have hc3 : ((0 : Int) < ((t + 1 : Nat) : Int)) = True := eq_true (by omega)
          have hsx := oS_sz hq i _ (getD_mem (d := rr0) ht)
          have hcx := oS_cr l i _ (getD_mem (d := rr0) ht)
          have hsy := hp.2 _ (getD_mem (d := rr0) hi)
          have hty : t < i := by omega
          by_cases hx : atQ l i < ((oS l i).getD t rr0).q
          · have hx' : ((l.getD i rr0).q < ((oS l i).getD t rr0).q) = True := eq_true hx
            simp only [go_sem, fz_ref17_Sorted, d_ref2_Cmp, d_ref2_Norm, beq_self_eq_true, eq_self, decide_true, decide_false, Bool.not_true, Bool.not_false, hS, hit, getD_rats ht, getD_ratsI ht, getD_rats hi, getD_ratsI hi, Int.ofNat_lt, ht, hty, hi, hx', Int.toNat_natCast, hc1, hc2, hc3, Nat.reduceBEq, Nat.reduceBNe, Nat.reduceLT, Nat.reduceLeDiff, Nat.reduceAdd, Nat.reduceSub, Nat.reduceMul, Nat.reduceEqDiff, Int.reduceNeg, Int.reduceAdd, Int.reduceLT, Int.reduceLE, Int.reduceToNat, ↓reduceIte]
            and_intros
            all_goals try (first | exact trivial | omega | (show okDraw _ _ = true; kernel_rfl))
            refine ⟨⟨t, by omega, (kp_go hx).symm.trans hm2⟩, by show t < t + 1; omega, le_of ?_⟩
            simp only [go_sem, leL, Nat.reduceBEq, Nat.reduceBNe, Nat.reduceLT, Nat.reduceLeDiff, Nat.reduceAdd, Nat.reduceSub, Nat.reduceMul, Nat.reduceEqDiff, Int.reduceNeg, Int.reduceAdd, Int.reduceLT, Int.reduceLE, Int.reduceToNat, ↓reduceIte]
          · have hx' : ((l.getD i rr0).q < ((oS l i).getD t rr0).q) = False := eq_false hx
            have hkt : kp (oS l i) (atQ l i) i = t + 1 := hm2.symm.trans (kp_stop hx)
            have hrow : List.take (t + 1) ((oS l i).map ratCells) ++ [[.bool (cr (l.getD i rr0).q).s, .lim none (cr (l.getD i rr0).q).n, .lim none (cr (l.getD i rr0).q).d]] ++ List.drop (t + 1) ((oS l i).map ratCells) = (oS l (i + 1)).map ratCells := by
              rw [hkt] at hcl; exact hcl
            have hlt : (List.take (t + 1) ((oS l i).map ratCells)).length = t + 1 := by rw [List.length_take, hml]; omega
            have hld : (List.drop (t + 1) ((oS l i).map ratCells)).length = i - (t + 1) := by rw [List.length_drop, hml]
            have hfin : List.take (t + 1 + 1 + (i - (t + 1))) ((oS l (i + 1)).map ratCells) = (oS l (i + 1)).map ratCells := List.take_of_length_le (by omega)
            simp only [go_sem, fz_ref17_Sorted, d_ref2_Cmp, d_ref2_Norm, beq_self_eq_true, eq_self, decide_true, decide_false, Bool.not_true, Bool.not_false, hS, hit, getD_rats ht, getD_ratsI ht, getD_rats hi, getD_ratsI hi, Int.ofNat_lt, ht, hty, hi, hx', Int.toNat_natCast, hc1, hc2, hc3, hrow, hti, hlt, hld, hfin, Option.toList_none, Option.toList_some, List.nil_append, List.replicate_zero, List.append_nil, List.take_zero, List.length_nil, List.length_append, List.length_cons, getD_rats hi, getD_ratsI hi, Nat.reduceBEq, Nat.reduceBNe, Nat.reduceLT, Nat.reduceLeDiff, Nat.reduceAdd, Nat.reduceSub, Nat.reduceMul, Nat.reduceEqDiff, Int.reduceNeg, Int.reduceAdd, Int.reduceLT, Int.reduceLE, Int.reduceToNat, ↓reduceIte]
            and_intros
            all_goals try (first | exact trivial | omega | (show okDraw _ _ = true; kernel_rfl))
            refine ⟨⟨i + 1, by omega⟩, by show l.length - (i + 1) < l.length - i; omega, le_of ?_⟩
            simp only [go_sem, leL, Nat.reduceBEq, Nat.reduceBNe, Nat.reduceLT, Nat.reduceLeDiff, Nat.reduceAdd, Nat.reduceSub, Nat.reduceMul, Nat.reduceEqDiff, Int.reduceNeg, Int.reduceAdd, Int.reduceLT, Int.reduceLE, Int.reduceToNat, ↓reduceIte]
            exact ⟨by omega, by rw [List.take_of_length_le (Nat.le_of_eq (List.length_map ..))]⟩
    · have hit : (((i : Nat) : Int) < ((l.length : Nat) : Int)) = False := eq_false (by omega)
      have e : i = l.length := by omega
      simp only [go_sem, fz_ref17_Sorted, d_ref2_Cmp, d_ref2_Norm, beq_self_eq_true, eq_self, decide_true, decide_false, Bool.not_true, Bool.not_false, hS, hit, Nat.reduceBEq, Nat.reduceBNe, Nat.reduceLT, Nat.reduceLeDiff, Nat.reduceAdd, Nat.reduceSub, Nat.reduceMul, Nat.reduceEqDiff, Int.reduceNeg, Int.reduceAdd, Int.reduceLT, Int.reduceLE, Int.reduceToNat, ↓reduceIte]
      subst e
      rw [oS_is]


def d_ref17_Quantile : Den := den2 aRat aRats (fun q l => q.sz ≤ 1 ∧ l.length < 20 ∧ ∀ r ∈ l, r.sz ≤ 1000) fun q l => ratIntV (cr (quantQ q.q l)) (errQ q.q l)
set_option maxRecDepth 100000 in
set_option maxHeartbeats 1000000 in
theorem s_ref17_Quantile : Sound Try.prog 55 d_ref17_Quantile := by
  refine sound2 (fz := nofz) (l := [(24, d_ref2_Int), (34, d_ref2_Cmp), (77, d_ref2_Mul), (103, d_ref2_Floor), (104, d_ref1_To), (59, d_ref17_Sorted), (81, d_ref2_Sub), (49, d_ref2_Add)]) TT_ok ⟨s_ref2_Int, s_ref2_Cmp, s_ref2_Mul, s_ref2_Floor, s_ref1_To, s_ref17_Sorted, s_ref2_Sub, s_ref2_Add, trivial⟩ mixed Try.func55 Try.ntmps55 Try.results55 Try.call55 rfl (by omega) (fun _ _ => rfl) ?_
  intro q l hp hq hl
  rw [codeK_start]
  have rq : rs q.q ≤ 1 := rs_ok hq hp.1 (by omega)
  have t0 : rs (0 : Rat) ≤ 1 := rs0 (by omega)
  have t1 : rs (1 : Rat) ≤ 1 := rs1 (by omega)
  have zq := hp.1
  have zl := hp.2.1
  have zr := hp.2.2
  have pl : ∀ r ∈ l, r.sz ≤ 1000 := fun r hr => Nat.le_trans (zr r hr) (by omega)
  unfold quantQ errQ
  by_cases c1 : q.q < 0
  · simp only [go_sem, d_ref2_Int, d_ref2_Cmp, d_ref17_Sorted, d_ref2_Mul, d_ref2_Floor, d_ref1_To, d_ref2_Sub, d_ref2_Add, beq_self_eq_true, eq_self, decide_true, decide_false, Bool.not_true, Bool.not_false, int0, int1, c1, true_or, if_true, Nat.reduceBEq, Nat.reduceBNe, Nat.reduceLT, Nat.reduceLeDiff, Nat.reduceAdd, Nat.reduceSub, Nat.reduceMul, Nat.reduceEqDiff, Int.reduceNeg, Int.reduceAdd, Int.reduceLT, Int.reduceLE, Int.reduceToNat, ↓reduceIte]
    and_intros
    all_goals try (first | exact trivial | omega | (show okDraw _ _ = true; kernel_rfl))
  · have c1f : (q.q < 0) = False := eq_false c1
    by_cases c2 : 1 < q.q
    · simp only [go_sem, d_ref2_Int, d_ref2_Cmp, d_ref17_Sorted, d_ref2_Mul, d_ref2_Floor, d_ref1_To, d_ref2_Sub, d_ref2_Add, beq_self_eq_true, eq_self, decide_true, decide_false, Bool.not_true, Bool.not_false, int0, int1, c1f, c2, false_or, if_true, Nat.reduceBEq, Nat.reduceBNe, Nat.reduceLT, Nat.reduceLeDiff, Nat.reduceAdd, Nat.reduceSub, Nat.reduceMul, Nat.reduceEqDiff, Int.reduceNeg, Int.reduceAdd, Int.reduceLT, Int.reduceLE, Int.reduceToNat, ↓reduceIte]
      and_intros
      all_goals try (first | exact trivial | omega | (show okDraw _ _ = true; kernel_rfl))
    · have c2f : (1 < q.q) = False := eq_false c2
      by_cases c3 : l.length = 0
      · have x3 : (((l.length : Nat) : Int) = 0) = True := eq_true (by omega)
        simp only [go_sem, d_ref2_Int, d_ref2_Cmp, d_ref17_Sorted, d_ref2_Mul, d_ref2_Floor, d_ref1_To, d_ref2_Sub, d_ref2_Add, beq_self_eq_true, eq_self, decide_true, decide_false, Bool.not_true, Bool.not_false, int0, int1, c1f, c2f, c3, x3, or_self, if_true, if_false, Nat.reduceBEq, Nat.reduceBNe, Nat.reduceLT, Nat.reduceLeDiff, Nat.reduceAdd, Nat.reduceSub, Nat.reduceMul, Nat.reduceEqDiff, Int.reduceNeg, Int.reduceAdd, Int.reduceLT, Int.reduceLE, Int.reduceToNat, ↓reduceIte]
        and_intros
        all_goals try (first | exact trivial | omega | (show okDraw _ _ = true; kernel_rfl))
      · have x3 : (((l.length : Nat) : Int) = 0) = False := eq_false (by omega)
        have c3f : (l.length = 0) = False := eq_false c3
        obtain ⟨f0, f1⟩ := place_facts (q := q.q) (n := l.length) (Rat.not_lt.1 c1) (Rat.not_lt.1 c2) (by omega)
        obtain ⟨k, hk⟩ : ∃ k : Nat, (placeQ q.q l.length).floor = k := ⟨_, (Int.toNat_of_nonneg f0).symm⟩
        rw [hk] at f1
        have hkl : k < l.length := by omega
        have hpq : q.q * ((((l.length : Nat) : Int) - 1 : Int) : Rat) = placeQ q.q l.length := rfl
        have hnm : val (cr (((k : Nat) : Int) : Rat)).n = k := by
          show val (limbs (nm (((k : Nat) : Int) : Rat))) = k
          rw [val_limbs]
          show (((k : Nat) : Int) : Rat).num.natAbs = k
          rw [Rat.num_intCast]; rfl
        have rql : rs ((((l.length : Nat) : Int) - 1 : Int) : Rat) ≤ 2 := rsb_int (by omega) (by omega) (by omega)
        have rp : rs (placeQ q.q l.length) ≤ 3 := rsb_mul rq rql (by omega)
        have rk : rs (((k : Nat) : Int) : Rat) ≤ 2 := rsb_int (by omega) (by omega) (by omega)
        have hkn : (cr (((k : Nat) : Int) : Rat)).n.length ≤ 2 := by
          have h : (cr (((k : Nat) : Int) : Rat)).sz ≤ 2 := by rw [cr_sz]; exact rk
          unfold RR.sz at h
          omega
        have hq2 := rs_atQ hl zr (by omega)
        have sz := sortR_sz (a := l) hq2
        have srl := sortR_len l
        have hks : k < (sortR l).length := by omega
        have hw1 : IntKind.wrap .i64 ((k : Nat) : Int) = k := by rw [IntKind.wrap_i64]; omega
        have hkb : (k < 18446744073709551616) = True := eq_true (by omega)
        have hg := sortR_cr l hkl
        have ha : ∀ i, i < l.length → rs (atQ (sortR l) i) ≤ 1000 := fun i hi => by
          have h := sz _ (getD_mem (d := rr0) (l := sortR l) (i := i) (by omega))
          rw [sortR_cr l hi, cr_sz] at h
          exact h
        have hak := ha k hkl
        unfold wayQ
        rw [hk, Int.toNat_natCast]
        by_cases c4 : k + 1 < l.length
        · have x4 : (((l.length : Nat) : Int) ≤ ((k : Nat) : Int) + 1) = False := eq_false (by omega)
          have hg1 := sortR_cr l c4
          have hks1 : k + 1 < (sortR l).length := by omega
          have hak1 := ha (k + 1) c4
          have hw2 : (((k : Nat) : Int) + 1).toNat = k + 1 := by omega
          have ra := rsb_sub rp rk (Nat.le_refl _)
          have rd := rsb_sub hak1 hak (Nat.le_refl _)
          have rm := rsb_mul ra rd (Nat.le_refl _)
          rw [if_pos c4]
          simp only [go_sem, d_ref2_Int, d_ref2_Cmp, d_ref17_Sorted, d_ref2_Mul, d_ref2_Floor, d_ref1_To, d_ref2_Sub, d_ref2_Add, beq_self_eq_true, eq_self, decide_true, decide_false, Bool.not_true, Bool.not_false, int0, int1, c1f, c2f, c3f, x3, or_self, if_true, if_false, hpq, hk, hnm, hkb, hw1, hw2, x4, srl, getD_rats (show k + 1 < (sortR l).length from hks1), getD_rats hks, getD_ratsI hks, getD_rats hks1, getD_ratsI hks1, hg, hg1, Int.ofNat_lt, Int.toNat_natCast, Nat.reduceBEq, Nat.reduceBNe, Nat.reduceLT, Nat.reduceLeDiff, Nat.reduceAdd, Nat.reduceSub, Nat.reduceMul, Nat.reduceEqDiff, Int.reduceNeg, Int.reduceAdd, Int.reduceLT, Int.reduceLE, Int.reduceToNat, ↓reduceIte]
          and_intros
          all_goals try (first | exact trivial | omega | (show okDraw _ _ = true; kernel_rfl))
        · have x4 : (((l.length : Nat) : Int) ≤ ((k : Nat) : Int) + 1) = True := eq_true (by omega)
          rw [if_neg c4]
          simp only [go_sem, d_ref2_Int, d_ref2_Cmp, d_ref17_Sorted, d_ref2_Mul, d_ref2_Floor, d_ref1_To, d_ref2_Sub, d_ref2_Add, beq_self_eq_true, eq_self, decide_true, decide_false, Bool.not_true, Bool.not_false, int0, int1, c1f, c2f, c3f, x3, or_self, if_true, if_false, hpq, hk, hnm, hkb, hw1, x4, srl, getD_rats hks, getD_ratsI hks, hg, Int.ofNat_lt, Int.toNat_natCast, Nat.reduceBEq, Nat.reduceBNe, Nat.reduceLT, Nat.reduceLeDiff, Nat.reduceAdd, Nat.reduceSub, Nat.reduceMul, Nat.reduceEqDiff, Int.reduceNeg, Int.reduceAdd, Int.reduceLT, Int.reduceLE, Int.reduceToNat, ↓reduceIte]
          and_intros
          all_goals try (first | exact trivial | omega | (show okDraw _ _ = true; kernel_rfl))

end Go.Proofs.Ytifnpelkoklcnaa
