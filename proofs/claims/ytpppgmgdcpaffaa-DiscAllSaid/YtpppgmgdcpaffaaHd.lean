/- disc: sum, Binom, BinomCdf, BinomTwo, by the abstract walk. Conditions: numbers of at most 1000 limbs. -/
import Derived.Test.YtpppgmgdcpaffaaHc
namespace Go.Proofs.Ytpppgmgdcpaffaa
open Go.RowKit
set_option linter.unusedSimpArgs false
set_option linter.unusedVariables false

def d_disc_sum : Den := den3 aInt aRat aLims (fun n x l => (0 ≤ n ∧ n ≤ 256) ∧ x.sz ≤ 1000 ∧ l.length ≤ 1000 ∧ ∀ r ∈ l, r.length ≤ 1000000) fun n x l => ratV (cr (qv false (rowSum l l.length) (x.q.den ^ n.toNat)))
set_option maxRecDepth 100000 in
set_option maxHeartbeats 1000000 in
theorem s_disc_sum : Sound Try.prog 93 d_disc_sum := by
  refine sound3 (fz := nofz) (l := [(72, d_nat_Add), (21, d_rat_Norm), (118, d_disc_power), (70, d_rat_Of)]) TT_ok ⟨s_nat_Add, s_rat_Norm, s_disc_power, s_rat_Of, trivial⟩ mixed Try.func93 Try.ntmps93 Try.results93 Try.call93 rfl (by omega) (fun _ _ _ => rfl) ?_
  intro a b c hp ha hb hc
  rw [codeK_start]
  obtain ⟨⟨hn0, hn⟩, hsz, hlen, hrl⟩ := hp
  obtain ⟨n, rfl⟩ := Int.eq_ofNat_of_zero_le hn0
  obtain ⟨lu, ld⟩ := ll_den hb hsz
  have ld' : (limbs b.q.den).length ≤ 1000 := ld
  have hsum : ∀ m, m ≤ c.length → (limbs (rowSum c m)).length ≤ 1000000 + m := fun m hm => ll_rowSum hc hrl m hm
  have hpw : (limbs (b.q.den ^ n)).length ≤ 256 * 1000 + 1 := ll_pow_le ld (by omega)
  have hz0 : limbs (rowSum c 0) = [] := by rw [rowSum_zero]; exact limbs_zero'
  simp only [go_sem, d_nat_Add, d_rat_Norm, d_disc_power, d_rat_Of, int0, int1, decide_true, decide_false, val_limbs, Int.toNat_natCast, cr_n, cr_d, Int.ofNat_lt, val, Nat.reduceBEq, Nat.reduceBNe, Nat.reduceLT, Nat.reduceLeDiff, Nat.reduceAdd, Nat.reduceSub, Nat.reduceMul, Nat.reduceEqDiff, Int.reduceNeg, Int.reduceAdd, Int.reduceLT, Int.reduceLE, Int.reduceToNat, ↓reduceIte]
  refine codeK_loop (fun i : { i : Nat // i ≤ c.length } => [(12, 0, .av (intV ((i.1 : Nat)))), (11, 0, .av (intV ((c.length : Nat)))), (10, 0, .av (rowV celLim (c))), (7, 0, .av (natV (rowSum c i.1))), (4, 0, .av (.one (.cel (.ptr 4 0)))), (4, 1, .cv (.bool (b).s)), (4, 2, .cv (.lim none (b).n)), (4, 3, .cv (.lim none (b).d)), (0, 0, .av (intV ((n : Nat)))), (6, 0, .av (.one (.cel (.ptr 6 0)))), (6, 1, .cv (.bool false)), (6, 2, .cv .nil), (6, 3, .cv .nil)]) (fun i => c.length - i.1) ⟨0, by omega⟩ ?_ ?_
  · refine Le.trans (b := [(12, 0, .av (intV ((0 : Nat)))), (11, 0, .av (intV ((c.length : Nat)))), (10, 0, .av (rowV celLim (c))), (7, 0, .av (limV [])), (4, 0, .av (.one (.cel (.ptr 4 0)))), (4, 1, .cv (.bool (b).s)), (4, 2, .cv (.lim none (b).n)), (4, 3, .cv (.lim none (b).d)), (0, 0, .av (intV ((n : Nat)))), (6, 0, .av (.one (.cel (.ptr 6 0)))), (6, 1, .cv (.bool false)), (6, 2, .cv .nil), (6, 3, .cv .nil)]) (le_ofW ?_) (le_of ?_)
    · simp only [go_sem, leW, Nat.reduceBEq, Nat.reduceBNe, Nat.reduceLT, Nat.reduceLeDiff, Nat.reduceAdd, Nat.reduceSub, Nat.reduceMul, Nat.reduceEqDiff, Int.reduceNeg, Int.reduceAdd, Int.reduceLT, Int.reduceLE, Int.reduceToNat, ↓reduceIte, Option.some.injEq, exists_eq_left', and_true]
      and_intros
      all_goals first | exact RVle.refl _ | exact RVle_nil | exact ⟨_, rfl, RVle.refl _⟩ | exact ⟨_, rfl, RVle_nil⟩
    · simp only [go_sem, leL, hz0, Nat.reduceBEq, Nat.reduceBNe, Nat.reduceLT, Nat.reduceLeDiff, Nat.reduceAdd, Nat.reduceSub, Nat.reduceMul, Nat.reduceEqDiff, Int.reduceNeg, Int.reduceAdd, Int.reduceLT, Int.reduceLE, Int.reduceToNat, ↓reduceIte, Int.ofNat_zero, Int.natCast_zero, Int.cast_ofNat_Int]
  · rintro ⟨i, hi0⟩
    have hi0 : i ≤ c.length := hi0
    have hs1 := hsum i hi0
    by_cases hi : i < c.length
    · have hm := hrl _ (getD_mem (d := ([] : List Nat)) hi)
      have hgl := getD_lims hi
      have hnx := rowSum_next c i
      simp only [go_sem, d_nat_Add, d_rat_Norm, d_disc_power, d_rat_Of, int0, int1, decide_true, decide_false, val_limbs, Int.toNat_natCast, cr_n, cr_d, Int.ofNat_lt, val, hi, hgl, Nat.reduceBEq, Nat.reduceBNe, Nat.reduceLT, Nat.reduceLeDiff, Nat.reduceAdd, Nat.reduceSub, Nat.reduceMul, Nat.reduceEqDiff, Int.reduceNeg, Int.reduceAdd, Int.reduceLT, Int.reduceLE, Int.reduceToNat, ↓reduceIte]
      ((try and_intros) <;> first | exact trivial | omega | (show okDraw _ _ = true; kernel_rfl) | (show ∃ _, _; exact ⟨⟨i + 1, by omega⟩, by show c.length - (i + 1) < c.length - i; omega, le_of (by simp only [go_sem, leL, hnx, Nat.reduceBEq, Nat.reduceBNe, Nat.reduceLT, Nat.reduceLeDiff, Nat.reduceAdd, Nat.reduceSub, Nat.reduceMul, Nat.reduceEqDiff, Int.reduceNeg, Int.reduceAdd, Int.reduceLT, Int.reduceLE, Int.reduceToNat, ↓reduceIte]; try omega)⟩) | assumption)
    · have e : i = c.length := by omega
      subst e
      simp only [go_sem, d_nat_Add, d_rat_Norm, d_disc_power, d_rat_Of, int0, int1, decide_true, decide_false, val_limbs, Int.toNat_natCast, cr_n, cr_d, Int.ofNat_lt, val, Int.lt_irrefl, Nat.lt_irrefl, Nat.reduceBEq, Nat.reduceBNe, Nat.reduceLT, Nat.reduceLeDiff, Nat.reduceAdd, Nat.reduceSub, Nat.reduceMul, Nat.reduceEqDiff, Int.reduceNeg, Int.reduceAdd, Int.reduceLT, Int.reduceLE, Int.reduceToNat, ↓reduceIte]
      ((try and_intros) <;> first | exact trivial | omega | (show okDraw _ _ = true; kernel_rfl) | assumption)

def bQ (n k : Int) (q : Rat) : Rat := if tryB n q = true ∧ 0 ≤ k ∧ k ≤ n then binQ q n.toNat k.toNat else 0
def cQ (n k : Int) (q : Rat) : Rat := if tryB n q = true ∧ 0 ≤ k then (if n ≤ k then 1 else cdfQ q n.toNat k.toNat) else 0
def tQ (n k : Int) (q : Rat) : Rat := if tryB n q = true ∧ 0 ≤ k ∧ k ≤ n then twoQ q n.toNat k.toNat else 0
def twoB (n k : Int) (q : Rat) : Bool := tryB n q && (decide (0 ≤ k) && decide (k ≤ n))
theorem ll_bin {x : RR} (h : x.ok) (h2 : x.sz ≤ 1000) (h0 : 0 ≤ x.q) (h1 : x.q ≤ 1) {n : Nat} (hn : n ≤ 256) (k : Nat) : (limbs (binN x.q n k)).length ≤ 256 * 1000 + 1 :=
  Nat.le_trans (ll_mono (binN_le h0 h1 n k)) (ll_pow_le (ll_den h h2).2 hn)
theorem rowSum_one (m : Nat) : rowSum [limbs m] 1 = m := by
  show 0 + val (limbs m) = m
  rw [val_limbs, Nat.zero_add]

def d_disc_Binom : Den := den3 aInt aInt aRat (fun _ _ x => x.sz ≤ 1000) fun n k x => ratOkV (cr (bQ n k x.q)) (tryB n x.q)
set_option maxRecDepth 100000 in
set_option maxHeartbeats 1000000 in
theorem s_disc_Binom : Sound Try.prog 49 d_disc_Binom := by
  refine sound3 (fz := nofz) (l := [(92, d_disc_isTry), (74, d_rat_Int), (94, d_disc_tries), (93, d_disc_sum)]) TT_ok ⟨s_disc_isTry, s_rat_Int, s_disc_tries, s_disc_sum, trivial⟩ mixed Try.func49 Try.ntmps49 Try.results49 Try.call49 rfl (by omega) (fun _ _ _ => rfl) ?_
  intro a b c hp ha hb hc
  rw [codeK_start]
  have hsz : c.sz ≤ 1000 := hp
  have t0 : rs (0 : Rat) ≤ 1 := rs0 (by omega)
  have t1 : rs (1 : Rat) ≤ 1 := rs1 (by omega)
  unfold bQ
  by_cases ht : tryB a c.q = true
  · by_cases h1 : b < 0
    · have e : ¬ (tryB a c.q = true ∧ 0 ≤ b ∧ b ≤ a) := fun h => by omega
      rw [if_neg e]
      simp only [go_sem, d_disc_isTry, d_rat_Int, d_disc_tries, d_disc_sum, int0, int1, decide_true, decide_false, val_limbs, Int.toNat_natCast, Bool.not_true, Bool.not_false, ht, h1, Nat.reduceBEq, Nat.reduceBNe, Nat.reduceLT, Nat.reduceLeDiff, Nat.reduceAdd, Nat.reduceSub, Nat.reduceMul, Nat.reduceEqDiff, Int.reduceNeg, Int.reduceAdd, Int.reduceLT, Int.reduceLE, Int.reduceToNat, ↓reduceIte]
      ((try and_intros) <;> first | exact trivial | omega | (show okDraw _ _ = true; kernel_rfl) | exact hall | rfl | (rw [hln]; omega) | assumption)
    by_cases h2 : a < b
    · have e : ¬ (tryB a c.q = true ∧ 0 ≤ b ∧ b ≤ a) := fun h => by omega
      rw [if_neg e]
      simp only [go_sem, d_disc_isTry, d_rat_Int, d_disc_tries, d_disc_sum, int0, int1, decide_true, decide_false, val_limbs, Int.toNat_natCast, Bool.not_true, Bool.not_false, ht, h1, h2, Nat.reduceBEq, Nat.reduceBNe, Nat.reduceLT, Nat.reduceLeDiff, Nat.reduceAdd, Nat.reduceSub, Nat.reduceMul, Nat.reduceEqDiff, Int.reduceNeg, Int.reduceAdd, Int.reduceLT, Int.reduceLE, Int.reduceToNat, ↓reduceIte]
      ((try and_intros) <;> first | exact trivial | omega | (show okDraw _ _ = true; kernel_rfl) | exact hall | rfl | (rw [hln]; omega) | assumption)
    rw [if_pos ⟨ht, by omega, by omega⟩]
    obtain ⟨hn0, hn, hq0, hq1⟩ := try_of ht
    obtain ⟨n, rfl⟩ := Int.eq_ofNat_of_zero_le hn0
    obtain ⟨k, rfl⟩ := Int.eq_ofNat_of_zero_le (show 0 ≤ b by omega)
    have hln := natRow_len (binN c.q n) (k + 1)
    have hgd : ((natRow (binN c.q n) (k + 1)).map celLim.uc).getD k [] = [.lim none (limbs (binN c.q n k))] := by rw [getD_lims (by rw [natRow_len]; omega), natRow_get _ (by omega)]; rfl
    have hso := rowSum_one (binN c.q n k)
    have hlb := ll_bin hc hsz hq0 hq1 (show n ≤ 256 by omega) k
    have hall : ∀ r ∈ [limbs (binN c.q n k)], r.length ≤ 1000000 := by intro r hr; rw [List.mem_singleton] at hr; subst hr; omega
    simp only [go_sem, d_disc_isTry, d_rat_Int, d_disc_tries, d_disc_sum, int0, int1, decide_true, decide_false, val_limbs, Int.toNat_natCast, Bool.not_true, Bool.not_false, ht, h1, h2, hgd, hso, Nat.reduceBEq, Nat.reduceBNe, Nat.reduceLT, Nat.reduceLeDiff, Nat.reduceAdd, Nat.reduceSub, Nat.reduceMul, Nat.reduceEqDiff, Int.reduceNeg, Int.reduceAdd, Int.reduceLT, Int.reduceLE, Int.reduceToNat, ↓reduceIte]
    ((try and_intros) <;> first | exact trivial | omega | (show okDraw _ _ = true; kernel_rfl) | exact hall | rfl | (rw [hln]; omega) | assumption)
  · have ht' : tryB a c.q = false := by simpa using ht
    have e : ¬ (tryB a c.q = true ∧ 0 ≤ b ∧ b ≤ a) := fun h => ht h.1
    rw [if_neg e]
    simp only [go_sem, d_disc_isTry, d_rat_Int, d_disc_tries, d_disc_sum, int0, int1, decide_true, decide_false, val_limbs, Int.toNat_natCast, Bool.not_true, Bool.not_false, ht', Nat.reduceBEq, Nat.reduceBNe, Nat.reduceLT, Nat.reduceLeDiff, Nat.reduceAdd, Nat.reduceSub, Nat.reduceMul, Nat.reduceEqDiff, Int.reduceNeg, Int.reduceAdd, Int.reduceLT, Int.reduceLE, Int.reduceToNat, ↓reduceIte]
    ((try and_intros) <;> first | exact trivial | omega | (show okDraw _ _ = true; kernel_rfl) | exact hall | rfl | (rw [hln]; omega) | assumption)

def d_disc_BinomCdf : Den := den3 aInt aInt aRat (fun _ _ x => x.sz ≤ 1000) fun n k x => ratOkV (cr (cQ n k x.q)) (tryB n x.q)
set_option maxRecDepth 100000 in
set_option maxHeartbeats 1000000 in
theorem s_disc_BinomCdf : Sound Try.prog 53 d_disc_BinomCdf := by
  refine sound3 (fz := nofz) (l := [(92, d_disc_isTry), (74, d_rat_Int), (94, d_disc_tries), (93, d_disc_sum)]) TT_ok ⟨s_disc_isTry, s_rat_Int, s_disc_tries, s_disc_sum, trivial⟩ mixed Try.func53 Try.ntmps53 Try.results53 Try.call53 rfl (by omega) (fun _ _ _ => rfl) ?_
  intro a b c hp ha hb hc
  rw [codeK_start]
  have hsz : c.sz ≤ 1000 := hp
  have t0 : rs (0 : Rat) ≤ 1 := rs0 (by omega)
  have t1 : rs (1 : Rat) ≤ 1 := rs1 (by omega)
  unfold cQ
  by_cases ht : tryB a c.q = true
  · by_cases h1 : b < 0
    · have e : ¬ (tryB a c.q = true ∧ 0 ≤ b) := fun h => by omega
      rw [if_neg e]
      simp only [go_sem, d_disc_isTry, d_rat_Int, d_disc_tries, d_disc_sum, int0, int1, decide_true, decide_false, val_limbs, Int.toNat_natCast, Bool.not_true, Bool.not_false, ht, h1, Nat.reduceBEq, Nat.reduceBNe, Nat.reduceLT, Nat.reduceLeDiff, Nat.reduceAdd, Nat.reduceSub, Nat.reduceMul, Nat.reduceEqDiff, Int.reduceNeg, Int.reduceAdd, Int.reduceLT, Int.reduceLE, Int.reduceToNat, ↓reduceIte]
      ((try and_intros) <;> first | exact trivial | omega | (show okDraw _ _ = true; kernel_rfl) | exact hall | rfl | (rw [hln]; omega) | assumption)
    rw [if_pos ⟨ht, by omega⟩]
    by_cases h2 : a ≤ b
    · have h2' := eq_true h2
      rw [if_pos h2]
      simp only [go_sem, d_disc_isTry, d_rat_Int, d_disc_tries, d_disc_sum, int0, int1, decide_true, decide_false, val_limbs, Int.toNat_natCast, Bool.not_true, Bool.not_false, ht, h1, h2', Nat.reduceBEq, Nat.reduceBNe, Nat.reduceLT, Nat.reduceLeDiff, Nat.reduceAdd, Nat.reduceSub, Nat.reduceMul, Nat.reduceEqDiff, Int.reduceNeg, Int.reduceAdd, Int.reduceLT, Int.reduceLE, Int.reduceToNat, ↓reduceIte]
      ((try and_intros) <;> first | exact trivial | omega | (show okDraw _ _ = true; kernel_rfl) | exact hall | rfl | (rw [hln]; omega) | assumption)
    have h2' := eq_false h2
    rw [if_neg h2]
    obtain ⟨hn0, hn, hq0, hq1⟩ := try_of ht
    obtain ⟨n, rfl⟩ := Int.eq_ofNat_of_zero_le hn0
    obtain ⟨k, rfl⟩ := Int.eq_ofNat_of_zero_le (show 0 ≤ b by omega)
    have hln := natRow_len (binN c.q n) (k + 1)
    have hso := rowSum_natRow (binN c.q n) (k + 1)
    have hall : ∀ r ∈ natRow (binN c.q n) (k + 1), r.length ≤ 1000000 := natRow_len_le fun i _ => Nat.le_trans (ll_bin hc hsz hq0 hq1 (show n ≤ 256 by omega) i) (by omega)
    simp only [go_sem, d_disc_isTry, d_rat_Int, d_disc_tries, d_disc_sum, int0, int1, decide_true, decide_false, val_limbs, Int.toNat_natCast, Bool.not_true, Bool.not_false, ht, h1, h2', hln, hso, Nat.reduceBEq, Nat.reduceBNe, Nat.reduceLT, Nat.reduceLeDiff, Nat.reduceAdd, Nat.reduceSub, Nat.reduceMul, Nat.reduceEqDiff, Int.reduceNeg, Int.reduceAdd, Int.reduceLT, Int.reduceLE, Int.reduceToNat, ↓reduceIte]
    ((try and_intros) <;> first | exact trivial | omega | (show okDraw _ _ = true; kernel_rfl) | exact hall | rfl | (rw [hln]; omega) | assumption)
  · have ht' : tryB a c.q = false := by simpa using ht
    have e : ¬ (tryB a c.q = true ∧ 0 ≤ b) := fun h => ht h.1
    rw [if_neg e]
    simp only [go_sem, d_disc_isTry, d_rat_Int, d_disc_tries, d_disc_sum, int0, int1, decide_true, decide_false, val_limbs, Int.toNat_natCast, Bool.not_true, Bool.not_false, ht', Nat.reduceBEq, Nat.reduceBNe, Nat.reduceLT, Nat.reduceLeDiff, Nat.reduceAdd, Nat.reduceSub, Nat.reduceMul, Nat.reduceEqDiff, Int.reduceNeg, Int.reduceAdd, Int.reduceLT, Int.reduceLE, Int.reduceToNat, ↓reduceIte]
    ((try and_intros) <;> first | exact trivial | omega | (show okDraw _ _ = true; kernel_rfl) | exact hall | rfl | (rw [hln]; omega) | assumption)

def keepL (q : Rat) (n k m : Nat) : List Nat := ((List.range m).map (binN q n)).filter fun v => decide (v ≤ binN q n k)
theorem keep_zero (q : Rat) (n k : Nat) : keepL q n k 0 = [] := rfl
theorem keep_yes {q : Rat} {n k m : Nat} (h : binN q n m ≤ binN q n k) : keepL q n k (m + 1) = keepL q n k m ++ [binN q n m] := by
  unfold keepL
  rw [List.range_succ, List.map_append, List.filter_append]
  simp [h]
theorem keep_no {q : Rat} {n k m : Nat} (h : ¬ binN q n m ≤ binN q n k) : keepL q n k (m + 1) = keepL q n k m := by
  unfold keepL
  rw [List.range_succ, List.map_append, List.filter_append]
  simp [h]
theorem keep_len (q : Rat) (n k m : Nat) : (keepL q n k m).length ≤ m := by
  unfold keepL
  exact Nat.le_trans (List.length_filter_le _ _) (by simp)
theorem rowSum_app (l : List (List Nat)) (r : List Nat) : rowSum (l ++ [r]) (l.length + 1) = rowSum l l.length + val r := by
  rw [rowSum_next]
  have h1 : rowSum (l ++ [r]) l.length = rowSum l l.length := sumN_congr fun i hi => by
    simp only [List.getD_eq_getElem?_getD]
    rw [List.getElem?_append_left hi]
  rw [h1]
  simp [List.getD_eq_getElem?_getD]
theorem keep_sum (q : Rat) (n k : Nat) : ∀ m, rowSum ((keepL q n k m).map limbs) (keepL q n k m).length = twoN q n k m
  | 0 => rfl
  | m + 1 => by
    have ih := keep_sum q n k m
    show _ = twoN q n k m + (if binN q n m ≤ binN q n k then binN q n m else 0)
    by_cases h : binN q n m ≤ binN q n k
    · rw [keep_yes h, if_pos h, List.map_append, List.length_append]
      have := rowSum_app ((keepL q n k m).map limbs) (limbs (binN q n m))
      rw [List.length_map, val_limbs, ih] at this
      exact this
    · rw [keep_no h, if_neg h, ih]; rfl
theorem keep_cells {q : Rat} {n k m : Nat} (h : binN q n m ≤ binN q n k) : ((keepL q n k m).map limbs).map celLim.uc ++ [[.lim none (limbs (binN q n m))]] = ((keepL q n k (m + 1)).map limbs).map celLim.uc := by
  rw [keep_yes h, List.map_append, List.map_append]; rfl
theorem keep_all {x : RR} (h : x.ok) (h2 : x.sz ≤ 1000) (h0 : 0 ≤ x.q) (h1 : x.q ≤ 1) {n : Nat} (hn : n ≤ 256) (k m : Nat) : ∀ r ∈ (keepL x.q n k m).map limbs, r.length ≤ 1000000 := by
  intro r hr
  obtain ⟨v, hv, rfl⟩ := List.mem_map.1 hr
  have hv := (List.mem_filter.1 hv).1
  obtain ⟨i, _, rfl⟩ := List.mem_map.1 hv
  exact Nat.le_trans (ll_bin h h2 h0 h1 hn i) (by omega)

def fz_disc_BinomTwo : Nat → List Nat
  | 22 => [1009]
  | _ => []

def d_disc_BinomTwo : Den := den3 aInt aInt aRat (fun _ _ x => x.sz ≤ 1000) fun n k x => ratOkV (cr (tQ n k x.q)) (twoB n k x.q)
set_option maxRecDepth 100000 in
set_option maxHeartbeats 1000000 in
theorem s_disc_BinomTwo : Sound Try.prog 51 d_disc_BinomTwo := by
  refine sound3 (fz := fz_disc_BinomTwo) (l := [(92, d_disc_isTry), (74, d_rat_Int), (94, d_disc_tries), (95, d_nat_Cmp), (93, d_disc_sum)]) TT_ok ⟨s_disc_isTry, s_rat_Int, s_disc_tries, s_nat_Cmp, s_disc_sum, trivial⟩ mixed Try.func51 Try.ntmps51 Try.results51 Try.call51 rfl (by omega) (fun _ _ _ => rfl) ?_
  intro a b c hp ha hb hc
  rw [codeK_start]
  have hsz : c.sz ≤ 1000 := hp
  have t0 : rs (0 : Rat) ≤ 1 := rs0 (by omega)
  have t1 : rs (1 : Rat) ≤ 1 := rs1 (by omega)
  unfold tQ twoB
  by_cases ht : tryB a c.q = true
  · by_cases h1 : b < 0
    · have e : ¬ (tryB a c.q = true ∧ 0 ≤ b ∧ b ≤ a) := fun h => by omega
      have d1 : (0 ≤ b) = False := eq_false (by omega)
      rw [if_neg e]
      simp only [go_sem, d_disc_isTry, d_rat_Int, d_disc_tries, d_nat_Cmp, d_disc_sum, int0, int1, decide_true, decide_false, val_limbs, Int.toNat_natCast, Bool.not_true, Bool.not_false, fz_disc_BinomTwo, Bool.and_true, Bool.and_false, ht, h1, d1, Nat.reduceBEq, Nat.reduceBNe, Nat.reduceLT, Nat.reduceLeDiff, Nat.reduceAdd, Nat.reduceSub, Nat.reduceMul, Nat.reduceEqDiff, Int.reduceNeg, Int.reduceAdd, Int.reduceLT, Int.reduceLE, Int.reduceToNat, ↓reduceIte]
      ((try and_intros) <;> first | exact trivial | omega | (show okDraw _ _ = true; kernel_rfl) | exact hall | rfl | (rw [hln]; omega) | assumption)
    by_cases h2 : a < b
    · have e : ¬ (tryB a c.q = true ∧ 0 ≤ b ∧ b ≤ a) := fun h => by omega
      have d1 : (0 ≤ b) = True := eq_true (by omega)
      have d2 : (b ≤ a) = False := eq_false (by omega)
      rw [if_neg e]
      simp only [go_sem, d_disc_isTry, d_rat_Int, d_disc_tries, d_nat_Cmp, d_disc_sum, int0, int1, decide_true, decide_false, val_limbs, Int.toNat_natCast, Bool.not_true, Bool.not_false, fz_disc_BinomTwo, Bool.and_true, Bool.and_false, ht, h1, h2, d1, d2, Nat.reduceBEq, Nat.reduceBNe, Nat.reduceLT, Nat.reduceLeDiff, Nat.reduceAdd, Nat.reduceSub, Nat.reduceMul, Nat.reduceEqDiff, Int.reduceNeg, Int.reduceAdd, Int.reduceLT, Int.reduceLE, Int.reduceToNat, ↓reduceIte]
      ((try and_intros) <;> first | exact trivial | omega | (show okDraw _ _ = true; kernel_rfl) | exact hall | rfl | (rw [hln]; omega) | assumption)
    have d1 : (0 ≤ b) = True := eq_true (by omega)
    have d2 : (b ≤ a) = True := eq_true (by omega)
    rw [if_pos ⟨ht, by omega, by omega⟩, ht, decide_eq_true (show 0 ≤ b by omega), decide_eq_true (show b ≤ a by omega)]
    obtain ⟨hn0, hn, hq0, hq1⟩ := try_of ht
    obtain ⟨n, rfl⟩ := Int.eq_ofNat_of_zero_le hn0
    obtain ⟨k, rfl⟩ := Int.eq_ofNat_of_zero_le (show 0 ≤ b by omega)
    have hln := natRow_len (binN c.q n) (n + 1)
    have hgk : ((natRow (binN c.q n) (n + 1)).map celLim.uc).getD k [] = [.lim none (limbs (binN c.q n k))] := by rw [getD_lims (by rw [natRow_len]; omega), natRow_get _ (by omega)]; rfl
    have hlk := ll_bin hc hsz hq0 hq1 (show n ≤ 256 by omega) k
    simp only [go_sem, d_disc_isTry, d_rat_Int, d_disc_tries, d_nat_Cmp, d_disc_sum, int0, int1, decide_true, decide_false, val_limbs, Int.toNat_natCast, Bool.not_true, Bool.not_false, fz_disc_BinomTwo, Bool.and_true, Bool.and_false, ht, h1, h2, hgk, hln, Nat.reduceBEq, Nat.reduceBNe, Nat.reduceLT, Nat.reduceLeDiff, Nat.reduceAdd, Nat.reduceSub, Nat.reduceMul, Nat.reduceEqDiff, Int.reduceNeg, Int.reduceAdd, Int.reduceLT, Int.reduceLE, Int.reduceToNat, ↓reduceIte]
    and_intros
    all_goals try (first | omega | assumption | (show okDraw _ _ = true; kernel_rfl))
    refine codeK_loop (fun i : { i : Nat // i ≤ n + 1 } => [(32, 0, .av (intV ((i.1 : Nat)))), (31, 0, .av (intV ((n + 1 : Nat)))), (30, 0, .av (rowV celLim (natRow (binN c.q n) (n + 1)))), (8, 0, .av (rowV celLim (natRow (binN c.q n) (n + 1)))), (9, 0, .av (.one (.cel (.rf 1009 (((keepL c.q n k (i.1)).map limbs).length))))), (1009, 1, .row (.gen 1 (((keepL c.q n k (i.1)).map limbs).map celLim.uc))), (5, 0, .av (.one (.cel (.ptr 5 0)))), (5, 1, .cv (.bool (c).s)), (5, 2, .cv (.lim none (c).n)), (5, 3, .cv (.lim none (c).d)), (0, 0, .av (intV ((n : Nat)))), (1, 0, .av (intV ((k : Nat)))), (6, 0, .av (.one (.cel (.ptr 6 0)))), (6, 1, .cv (.bool false)), (6, 2, .cv .nil), (6, 3, .cv .nil)]) (fun i => n + 1 - i.1) ⟨0, by omega⟩ ?_ ?_
    · refine le_nil 9 1009 (.gen 1 []) (by rfl) (by kernel_rfl) ⟨by omega, trivial⟩ rfl (le_of ?_)
      simp only [go_sem, leL, keep_zero, List.map_nil, List.length_nil, hln, Nat.reduceBEq, Nat.reduceBNe, Nat.reduceLT, Nat.reduceLeDiff, Nat.reduceAdd, Nat.reduceSub, Nat.reduceMul, Nat.reduceEqDiff, Int.reduceNeg, Int.reduceAdd, Int.reduceLT, Int.reduceLE, Int.reduceToNat, ↓reduceIte, Int.ofNat_zero, Int.natCast_zero, Int.cast_ofNat_Int]
    · rintro ⟨i, hi0⟩
      have hi0 : i ≤ n + 1 := hi0
      by_cases hi : i < n + 1
      · have hit : (((i : Nat) : Int) < ((n + 1 : Nat) : Int)) = True := eq_true (by omega)
        have hgi : ((natRow (binN c.q n) (n + 1)).map celLim.uc).getD i [] = [.lim none (limbs (binN c.q n i))] := by rw [getD_lims (by rw [natRow_len]; omega), natRow_get _ hi]; rfl
        have hli := ll_bin hc hsz hq0 hq1 (show n ≤ 256 by omega) i
        by_cases hle : binN c.q n i ≤ binN c.q n k
        · have hlet := eq_true hle
          have hky := keep_yes hle
          have hrow := keep_cells hle
          have hkl : ((keepL c.q n k (i + 1)).map limbs).length = ((keepL c.q n k i).map limbs).length + 1 := by rw [hky, List.map_append, List.length_append]; rfl
          have hkb := keep_len c.q n k i
          rw [List.length_map, List.length_map] at hkl
          simp only [go_sem, d_disc_isTry, d_rat_Int, d_disc_tries, d_nat_Cmp, d_disc_sum, int0, int1, decide_true, decide_false, val_limbs, Int.toNat_natCast, Bool.not_true, Bool.not_false, fz_disc_BinomTwo, Bool.and_true, Bool.and_false, hit, hgi, hgk, hln, hlet, List.length_map, Nat.reduceBEq, Nat.reduceBNe, Nat.reduceLT, Nat.reduceLeDiff, Nat.reduceAdd, Nat.reduceSub, Nat.reduceMul, Nat.reduceEqDiff, Int.reduceNeg, Int.reduceAdd, Int.reduceLT, Int.reduceLE, Int.reduceToNat, ↓reduceIte]
          and_intros
          all_goals try (first | omega | exact List.length_map .. | (show okDraw _ _ = true; kernel_rfl))
          refine ⟨⟨i + 1, by omega⟩, by show n + 1 - (i + 1) < n + 1 - i; omega, Le.trans (b := [(32, 0, .av (intV ((i + 1 : Nat)))), (31, 0, .av (intV ((n + 1 : Nat)))), (30, 0, .av (rowV celLim (natRow (binN c.q n) (n + 1)))), (8, 0, .av (rowV celLim (natRow (binN c.q n) (n + 1)))), (9, 0, .av (.one (.cel (.rf 46 (((keepL c.q n k (i + 1)).map limbs).length))))), (46, 1, .row (.gen 1 (((keepL c.q n k (i + 1)).map limbs).map celLim.uc))), (5, 0, .av (.one (.cel (.ptr 5 0)))), (5, 1, .cv (.bool (c).s)), (5, 2, .cv (.lim none (c).n)), (5, 3, .cv (.lim none (c).d)), (0, 0, .av (intV ((n : Nat)))), (1, 0, .av (intV ((k : Nat)))), (6, 0, .av (.one (.cel (.ptr 6 0)))), (6, 1, .cv (.bool false)), (6, 2, .cv .nil), (6, 3, .cv .nil)]) (le_of ?_) (le_ren 46 1009 (c := .gen 1 (((keepL c.q n k (i + 1)).map limbs).map celLim.uc)) (by rfl) (by kernel_rfl) (le_of ?_))⟩
          · simp only [go_sem, leL, hrow, List.length_map, hkl, Nat.reduceBEq, Nat.reduceBNe, Nat.reduceLT, Nat.reduceLeDiff, Nat.reduceAdd, Nat.reduceSub, Nat.reduceMul, Nat.reduceEqDiff, Int.reduceNeg, Int.reduceAdd, Int.reduceLT, Int.reduceLE, Int.reduceToNat, ↓reduceIte]
            try omega
          · simp only [go_sem, leL, Nat.reduceBEq, Nat.reduceBNe, Nat.reduceLT, Nat.reduceLeDiff, Nat.reduceAdd, Nat.reduceSub, Nat.reduceMul, Nat.reduceEqDiff, Int.reduceNeg, Int.reduceAdd, Int.reduceLT, Int.reduceLE, Int.reduceToNat, ↓reduceIte]
        · have hlet := eq_false hle
          have hkn := keep_no hle
          simp only [go_sem, d_disc_isTry, d_rat_Int, d_disc_tries, d_nat_Cmp, d_disc_sum, int0, int1, decide_true, decide_false, val_limbs, Int.toNat_natCast, Bool.not_true, Bool.not_false, fz_disc_BinomTwo, Bool.and_true, Bool.and_false, hit, hgi, hgk, hln, hlet, List.length_map, Nat.reduceBEq, Nat.reduceBNe, Nat.reduceLT, Nat.reduceLeDiff, Nat.reduceAdd, Nat.reduceSub, Nat.reduceMul, Nat.reduceEqDiff, Int.reduceNeg, Int.reduceAdd, Int.reduceLT, Int.reduceLE, Int.reduceToNat, ↓reduceIte]
          and_intros
          all_goals try (first | omega | (show okDraw _ _ = true; kernel_rfl))
          refine ⟨⟨i + 1, by omega⟩, by show n + 1 - (i + 1) < n + 1 - i; omega, le_of ?_⟩
          simp only [go_sem, leL, hkn, Nat.reduceBEq, Nat.reduceBNe, Nat.reduceLT, Nat.reduceLeDiff, Nat.reduceAdd, Nat.reduceSub, Nat.reduceMul, Nat.reduceEqDiff, Int.reduceNeg, Int.reduceAdd, Int.reduceLT, Int.reduceLE, Int.reduceToNat, ↓reduceIte]
          try omega
      · have hit : (((i : Nat) : Int) < ((n + 1 : Nat) : Int)) = False := eq_false (by omega)
        have ei : i = n + 1 := by omega
        subst ei
        have hks := keep_sum c.q n k (n + 1)
        have hkb := keep_len c.q n k (n + 1)
        have htake : List.take (keepL c.q n k (n + 1)).length (((keepL c.q n k (n + 1)).map limbs).map celLim.uc) = ((keepL c.q n k (n + 1)).map limbs).map celLim.uc := List.take_of_length_le (by simp)
        have hall := keep_all hc hsz hq0 hq1 (show n ≤ 256 by omega) k (n + 1)
        simp only [go_sem, d_disc_isTry, d_rat_Int, d_disc_tries, d_nat_Cmp, d_disc_sum, int0, int1, decide_true, decide_false, val_limbs, Int.toNat_natCast, Bool.not_true, Bool.not_false, fz_disc_BinomTwo, Bool.and_true, Bool.and_false, hit, hks, htake, List.length_map, Nat.reduceBEq, Nat.reduceBNe, Nat.reduceLT, Nat.reduceLeDiff, Nat.reduceAdd, Nat.reduceSub, Nat.reduceMul, Nat.reduceEqDiff, Int.reduceNeg, Int.reduceAdd, Int.reduceLT, Int.reduceLE, Int.reduceToNat, ↓reduceIte]
        ((try and_intros) <;> first | exact trivial | omega | (show okDraw _ _ = true; kernel_rfl) | exact hall | rfl | (rw [hln]; omega) | assumption)
  · have ht' : tryB a c.q = false := by simpa using ht
    have e : ¬ (tryB a c.q = true ∧ 0 ≤ b ∧ b ≤ a) := fun h => ht h.1
    rw [if_neg e]
    simp only [go_sem, d_disc_isTry, d_rat_Int, d_disc_tries, d_nat_Cmp, d_disc_sum, int0, int1, decide_true, decide_false, val_limbs, Int.toNat_natCast, Bool.not_true, Bool.not_false, fz_disc_BinomTwo, Bool.and_true, Bool.and_false, ht', Nat.reduceBEq, Nat.reduceBNe, Nat.reduceLT, Nat.reduceLeDiff, Nat.reduceAdd, Nat.reduceSub, Nat.reduceMul, Nat.reduceEqDiff, Int.reduceNeg, Int.reduceAdd, Int.reduceLT, Int.reduceLE, Int.reduceToNat, ↓reduceIte]
    ((try and_intros) <;> first | exact trivial | omega | (show okDraw _ _ = true; kernel_rfl) | exact hall | rfl | (rw [hln]; omega) | assumption)


end Go.Proofs.Ytpppgmgdcpaffaa
