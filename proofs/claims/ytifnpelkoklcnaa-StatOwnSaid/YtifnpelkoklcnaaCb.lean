/- stat: by, Sum, Mean, off, products, Central, Variance, Covariance, by the abstract walk. Conditions: rows of at most 1000 numbers of at most 1000 limbs. -/
import Derived.Test.YtifnpelkoklcnaaCa
namespace Go.Proofs.Ytifnpelkoklcnaa
open Go.RowKit
set_option linter.unusedSimpArgs false
set_option linter.unusedVariables false


theorem Le.trans {a b c : AS} (h : Le a b) (k : Le b c) : Le a c := fun N X0 w0 x w g who H => by
  obtain ⟨g', who', H'⟩ := h N X0 w0 x w g who H
  exact k N X0 w0 x w g' who' H'
theorem rr0_q : rr0.q = 0 := by unfold RR.q rr0; exact qv_zero_den _ _
theorem rs_atQ {l : List RR} {K : Nat} (h1 : ∀ r ∈ l, r.ok) (h2 : ∀ r ∈ l, r.sz ≤ K) (hK : 1 ≤ K) (i : Nat) : rs (atQ l i) ≤ K := by
  unfold atQ
  rcases Nat.lt_or_ge i l.length with hi | hi
  · exact rs_ok (h1 _ (getD_mem hi)) (h2 _ (getD_mem hi)) hK
  · rw [List.getD_eq_getElem?_getD, List.getElem?_eq_none hi]
    show rs rr0.q ≤ K
    rw [rr0_q]; exact rs0 hK
theorem sumTo_next (l : List RR) (i : Nat) : sumTo (atQ l) (i + 1) = sumTo (atQ l) i + (l.getD i rr0).q := rfl
def ratIntV (r : RR) (n : Int) : AV := .tup [.agg (ratCells r), .cel (.int .i64 n)]
attribute [go_sem] ratIntV
def meanQ (l : List RR) : Rat := if l.length = 0 then 0 else meanTo (atQ l) l.length
def errD (l : List RR) : Int := if l.length = 0 then 5 else 0
def offs (l : List RR) (n : Nat) : List RR := (List.range n).map fun i => cr (atQ l i - meanQ l)
theorem offs_len (l : List RR) (n : Nat) : (offs l n).length = n := by unfold offs; simp
theorem offs_next (l : List RR) (n : Nat) : offs l (n + 1) = offs l n ++ [cr (atQ l n - meanQ l)] := by unfold offs; rw [List.range_succ, List.map_append]; rfl
theorem offs_at (l : List RR) {n i : Nat} (h : i < n) : atQ (offs l n) i = atQ l i - meanQ l := by
  unfold atQ offs
  rw [List.getD_eq_getElem?_getD, List.getElem?_map, List.getElem?_range h]
  exact cr_q _
theorem offs_sz (l : List RR) (n K : Nat) (h : ∀ i, rs (atQ l i - meanQ l) ≤ K) : ∀ r ∈ offs l n, r.sz ≤ K := by
  intro r hr
  unfold offs at hr
  obtain ⟨i, _, rfl⟩ := List.mem_map.1 hr
  rw [cr_sz]; exact h i
theorem offs_ok (l : List RR) (n : Nat) : ∀ r ∈ offs l n, r.ok := by
  intro r hr
  unfold offs at hr
  obtain ⟨i, _, rfl⟩ := List.mem_map.1 hr
  exact cr_ok _
theorem offs_cells (l : List RR) (n : Nat) : (offs l n).map ratCells ++ [ratCells (cr (atQ l n - meanQ l))] = (offs l (n + 1)).map ratCells := by rw [offs_next, List.map_append]; rfl
theorem offs_zero (l : List RR) : offs l 0 = [] := rfl
theorem rs_mean {f : Nat → Rat} {K : Nat} (h : ∀ i, rs (f i) ≤ K) (n : Nat) (hn : n ≤ 1000) : rs (meanTo f n) ≤ n * (K + 1) + 3 :=
  rsb_div (rs_sumTo h n) (rsb_int (K := 2) (by omega) (by omega) (by omega)) (by omega)
theorem mul_thou {n K : Nat} (h : n ≤ 1000) : n * K ≤ 1000 * K := Nat.mul_le_mul_right K h
theorem rs_meanQ {l : List RR} {K : Nat} (h : ∀ i, rs (atQ l i) ≤ K) (hl : l.length ≤ 1000) : rs (meanQ l) ≤ 1000 * (K + 1) + 3 := by
  unfold meanQ
  split
  · exact rs0 (by omega)
  · have h1 := rs_mean h l.length hl
    have h2 := mul_thou (K := K + 1) hl
    omega
theorem intQ_ne {n : Int} (h : n ≠ 0) : ((n : Int) : Rat) ≠ 0 := by
  intro e
  rw [show (0 : Rat) = ((0 : Int) : Rat) from rfl, Rat.intCast_inj] at e
  exact h e
def sumP (a b : List RR) (n : Nat) : Rat := sumTo (fun i => atQ a i * atQ b i) n
theorem sumP_next (a b : List RR) (i : Nat) : sumP a b (i + 1) = sumP a b i + (a.getD i rr0).q * (b.getD i rr0).q := rfl
theorem sumP_zero (a b : List RR) : sumP a b 0 = 0 := rfl
theorem sumTo_zero (f : Nat → Rat) : sumTo f 0 = 0 := rfl

def d_stat_by : Den := den2 aRat aInt (fun a n => a.sz ≤ 10000000000 ∧ -9223372036854775808 ≤ n ∧ n < 9223372036854775808) fun a n => ratV (cr (a.q / (n : Rat)))
set_option maxRecDepth 100000 in
set_option maxHeartbeats 1000000 in
theorem s_stat_by : Sound Try.prog 105 d_stat_by := by
  refine sound2 (fz := nofz) (l := [(84, d_rat_Int), (142, d_rat_Div)]) TT_ok ⟨s_rat_Int, s_rat_Div, trivial⟩ mixed Try.func105 Try.ntmps105 Try.results105 Try.call105 rfl (by omega) (fun _ _ => rfl) ?_
  intro a b hp ha hb
  rw [codeK_start]
  simp only [go_sem, d_rat_Int, d_rat_Div, Nat.reduceBEq, Nat.reduceBNe, Nat.reduceLT, Nat.reduceLeDiff, Nat.reduceAdd, Nat.reduceSub, Nat.reduceMul, Nat.reduceEqDiff, Int.reduceNeg, Int.reduceAdd, Int.reduceLT, Int.reduceLE, Int.reduceToNat, ↓reduceIte]
  have h2 := rsb_int (n := b) (K := 2) (by omega) (by omega) (by omega)
  exact ⟨⟨by omega, by omega⟩, ⟨by omega, by omega⟩, by kernel_rfl⟩

def d_stat_Sum : Den := den1 aRats (fun a => a.length ≤ 1000 ∧ ∀ r ∈ a, r.sz ≤ 1000) fun a => ratV (cr (sumTo (atQ a) a.length))
set_option maxRecDepth 100000 in
set_option maxHeartbeats 1000000 in
theorem s_stat_Sum : Sound Try.prog 62 d_stat_Sum := by
  refine sound1 (fz := nofz) (l := [(84, d_rat_Int), (101, d_rat_Add)]) TT_ok ⟨s_rat_Int, s_rat_Add, trivial⟩ mixed Try.func62 Try.ntmps62 Try.results62 Try.call62 rfl (by omega) (fun _ => rfl) ?_
  intro a hp ha
  rw [codeK_start]
  simp only [go_sem, d_rat_Int, d_rat_Add, int0, Nat.reduceBEq, Nat.reduceBNe, Nat.reduceLT, Nat.reduceLeDiff, Nat.reduceAdd, Nat.reduceSub, Nat.reduceMul, Nat.reduceEqDiff, Int.reduceNeg, Int.reduceAdd, Int.reduceLT, Int.reduceLE, Int.reduceToNat, ↓reduceIte]
  have hq := rs_atQ ha hp.2 (by omega)
  refine codeK_loop (fun i : { i : Nat // i ≤ a.length } => [(9, 0, .av (intV ((i.1 : Nat)))), (8, 0, .av (intV ((a.length : Nat)))), (7, 0, .av (ratsV a)), (3, 0, .av (.one (.cel (.ptr 3 0)))), (3, 1, .cv (.bool (cr (sumTo (atQ a) i.1)).s)), (3, 2, .cv (.lim none (cr (sumTo (atQ a) i.1)).n)), (3, 3, .cv (.lim none (cr (sumTo (atQ a) i.1)).d)), (2, 0, .av (.one (.cel (.ptr 2 0)))), (2, 1, .cv (.bool false)), (2, 2, .cv .nil), (2, 3, .cv .nil)]) (fun i => a.length - i.1) ⟨0, by omega⟩ (le_of ?_) ?_
  · simp only [go_sem, leL, Nat.reduceBEq, Nat.reduceBNe, Nat.reduceLT, Nat.reduceLeDiff, Nat.reduceAdd, Nat.reduceSub, Nat.reduceMul, Nat.reduceEqDiff, Int.reduceNeg, Int.reduceAdd, Int.reduceLT, Int.reduceLE, Int.reduceToNat, ↓reduceIte, sumTo_zero, int0, int1, Int.ofNat_zero, Int.natCast_zero, Int.cast_ofNat_Int]
  · rintro ⟨i, hi0⟩
    have hi0 : i ≤ a.length := hi0
    have k1 := rs_sumTo hq i
    have k2 := mul_thou (n := i) (K := 1001) (by omega)
    by_cases hi : i < a.length
    · have hm := hp.2 _ (getD_mem (d := rr0) hi)
      simp only [go_sem, d_rat_Int, d_rat_Add, getD_rats hi, getD_ratsI hi, Int.ofNat_lt, hi, Nat.reduceBEq, Nat.reduceBNe, Nat.reduceLT, Nat.reduceLeDiff, Nat.reduceAdd, Nat.reduceSub, Nat.reduceMul, Nat.reduceEqDiff, Int.reduceNeg, Int.reduceAdd, Int.reduceLT, Int.reduceLE, Int.reduceToNat, ↓reduceIte]
      exact ⟨⟨by omega, by omega⟩, ⟨by omega, by omega⟩, ⟨i + 1, by omega⟩, by show a.length - (i + 1) < a.length - i; omega, le_of (by simp only [go_sem, leL, sumTo_next, Nat.reduceBEq, Nat.reduceBNe, Nat.reduceLT, Nat.reduceLeDiff, Nat.reduceAdd, Nat.reduceSub, Nat.reduceMul, Nat.reduceEqDiff, Int.reduceNeg, Int.reduceAdd, Int.reduceLT, Int.reduceLE, Int.reduceToNat, ↓reduceIte]; omega)⟩
    · simp only [go_sem, d_rat_Int, d_rat_Add, Int.ofNat_lt, hi, Nat.reduceBEq, Nat.reduceBNe, Nat.reduceLT, Nat.reduceLeDiff, Nat.reduceAdd, Nat.reduceSub, Nat.reduceMul, Nat.reduceEqDiff, Int.reduceNeg, Int.reduceAdd, Int.reduceLT, Int.reduceLE, Int.reduceToNat, ↓reduceIte]
      have e : i = a.length := by omega
      subst e
      exact ⟨rfl, rfl, rfl⟩

def d_stat_Mean : Den := den1 aRats (fun a => a.length ≤ 1000 ∧ ∀ r ∈ a, r.sz ≤ 1000) fun a => ratIntV (cr (meanQ a)) (errD a)
set_option maxRecDepth 100000 in
set_option maxHeartbeats 1000000 in
theorem s_stat_Mean : Sound Try.prog 160 d_stat_Mean := by
  refine sound1 (fz := nofz) (l := [(84, d_rat_Int), (62, d_stat_Sum), (105, d_stat_by)]) TT_ok ⟨s_rat_Int, s_stat_Sum, s_stat_by, trivial⟩ mixed Try.func160 Try.ntmps160 Try.results160 Try.call160 rfl (by omega) (fun _ => rfl) ?_
  intro a hp ha
  rw [codeK_start]
  simp only [go_sem, d_rat_Int, d_stat_Sum, d_stat_by, int0, Nat.reduceBEq, Nat.reduceBNe, Nat.reduceLT, Nat.reduceLeDiff, Nat.reduceAdd, Nat.reduceSub, Nat.reduceMul, Nat.reduceEqDiff, Int.reduceNeg, Int.reduceAdd, Int.reduceLT, Int.reduceLE, Int.reduceToNat, ↓reduceIte]
  have hq := rs_atQ ha hp.2 (by omega)
  have k1 := rs_sumTo hq a.length
  have k2 := mul_thou (n := a.length) (K := 1001) (by omega)
  unfold meanQ errD
  split
  · rename_i h
    have h : a.length = 0 := by omega
    rw [if_pos h, if_pos h]
    exact ⟨⟨rfl, rfl, rfl⟩, rfl⟩
  · rename_i h
    have h : ¬ a.length = 0 := by omega
    rw [if_neg h, if_neg h]
    exact ⟨hp, ⟨by omega, by omega, by omega⟩, ⟨rfl, rfl, rfl⟩, rfl⟩

def fz_stat_off : Nat → List Nat
  | 16 => [1005]
  | _ => []

def d_stat_off : Den := den1 aRats (fun a => a.length ≤ 1000 ∧ ∀ r ∈ a, r.sz ≤ 1000) fun a => ratsV (offs a a.length)
set_option maxRecDepth 100000 in
set_option maxHeartbeats 1000000 in
theorem s_stat_off : Sound Try.prog 145 d_stat_off := by
  refine sound1 (fz := fz_stat_off) (l := [(160, d_stat_Mean), (102, d_rat_Sub)]) TT_ok ⟨s_stat_Mean, s_rat_Sub, trivial⟩ mixed Try.func145 Try.ntmps145 Try.results145 Try.call145 rfl (by omega) (fun _ => rfl) ?_
  intro a hp ha
  rw [codeK_start]
  simp only [go_sem, d_stat_Mean, d_rat_Sub, int0, fz_stat_off, Nat.reduceBEq, Nat.reduceBNe, Nat.reduceLT, Nat.reduceLeDiff, Nat.reduceAdd, Nat.reduceSub, Nat.reduceMul, Nat.reduceEqDiff, Int.reduceNeg, Int.reduceAdd, Int.reduceLT, Int.reduceLE, Int.reduceToNat, ↓reduceIte]
  have hq := rs_atQ ha hp.2 (by omega)
  have hmn := rs_meanQ hq hp.1
  refine ⟨hp, ?_⟩
  refine codeK_loop (fun i : { i : Nat // i ≤ a.length } => [(15, 0, .av (intV ((i.1 : Nat)))), (14, 0, .av (intV ((a.length : Nat)))), (13, 0, .av (ratsV a)), (5, 0, .av (.one (.cel (.rf 1005 i.1)))), (1005, 1, .row (.gen 3 ((offs a i.1).map ratCells))), (3, 0, .av (.one (.cel (.ptr 3 0)))), (3, 1, .cv (.bool (cr (meanQ a)).s)), (3, 2, .cv (.lim none (cr (meanQ a)).n)), (3, 3, .cv (.lim none (cr (meanQ a)).d))]) (fun i => a.length - i.1) ⟨0, by omega⟩ ?_ ?_
  · refine le_nil 5 1005 (.gen 3 []) (by rfl) (by kernel_rfl) ⟨by omega, trivial⟩ rfl (le_of ?_)
    simp only [go_sem, leL, Nat.reduceBEq, Nat.reduceBNe, Nat.reduceLT, Nat.reduceLeDiff, Nat.reduceAdd, Nat.reduceSub, Nat.reduceMul, Nat.reduceEqDiff, Int.reduceNeg, Int.reduceAdd, Int.reduceLT, Int.reduceLE, Int.reduceToNat, ↓reduceIte, offs_zero, Int.ofNat_zero, Int.natCast_zero, Int.cast_ofNat_Int]
  · rintro ⟨i, hi0⟩
    have hi0 : i ≤ a.length := hi0
    by_cases hi : i < a.length
    · have hm := hp.2 _ (getD_mem (d := rr0) hi)
      have hln := offs_len a i
      have hrow : (offs a i).map ratCells ++ [[.bool (cr ((a.getD i rr0).q - meanQ a)).s, .lim none (cr ((a.getD i rr0).q - meanQ a)).n, .lim none (cr ((a.getD i rr0).q - meanQ a)).d]] = (offs a (i + 1)).map ratCells := offs_cells a i
      have hln2 := offs_len a (i + 1)
      simp only [go_sem, d_stat_Mean, d_rat_Sub, fz_stat_off, getD_rats hi, getD_ratsI hi, Int.ofNat_lt, hi, Nat.reduceBEq, Nat.reduceBNe, Nat.reduceLT, Nat.reduceLeDiff, Nat.reduceAdd, Nat.reduceSub, Nat.reduceMul, Nat.reduceEqDiff, Int.reduceNeg, Int.reduceAdd, Int.reduceLT, Int.reduceLE, Int.reduceToNat, ↓reduceIte]
      refine ⟨⟨by omega, by omega⟩, ⟨hln.symm, by omega⟩, ⟨by omega, by omega⟩, ⟨i + 1, by omega⟩, by show a.length - (i + 1) < a.length - i; omega, ?_⟩
      refine Le.trans (b := [(15, 0, .av (intV (((i + 1) : Nat)))), (14, 0, .av (intV ((a.length : Nat)))), (13, 0, .av (ratsV a)), (5, 0, .av (.one (.cel (.rf 24 (i + 1))))), (24, 1, .row (.gen 3 ((offs a (i + 1)).map ratCells))), (3, 0, .av (.one (.cel (.ptr 3 0)))), (3, 1, .cv (.bool (cr (meanQ a)).s)), (3, 2, .cv (.lim none (cr (meanQ a)).n)), (3, 3, .cv (.lim none (cr (meanQ a)).d))]) (le_of ?_) (le_ren 24 1005 (c := .gen 3 ((offs a (i + 1)).map ratCells)) (by rfl) (by kernel_rfl) (le_of ?_))
      · simp only [go_sem, leL, hrow, hln2, Nat.reduceBEq, Nat.reduceBNe, Nat.reduceLT, Nat.reduceLeDiff, Nat.reduceAdd, Nat.reduceSub, Nat.reduceMul, Nat.reduceEqDiff, Int.reduceNeg, Int.reduceAdd, Int.reduceLT, Int.reduceLE, Int.reduceToNat, ↓reduceIte]
        omega
      · simp only [go_sem, leL, Nat.reduceBEq, Nat.reduceBNe, Nat.reduceLT, Nat.reduceLeDiff, Nat.reduceAdd, Nat.reduceSub, Nat.reduceMul, Nat.reduceEqDiff, Int.reduceNeg, Int.reduceAdd, Int.reduceLT, Int.reduceLE, Int.reduceToNat, ↓reduceIte]
    · simp only [go_sem, d_stat_Mean, d_rat_Sub, fz_stat_off, Int.ofNat_lt, hi, Nat.reduceBEq, Nat.reduceBNe, Nat.reduceLT, Nat.reduceLeDiff, Nat.reduceAdd, Nat.reduceSub, Nat.reduceMul, Nat.reduceEqDiff, Int.reduceNeg, Int.reduceAdd, Int.reduceLT, Int.reduceLE, Int.reduceToNat, ↓reduceIte]
      have e : i = a.length := by omega
      subst e
      have hln := offs_len a a.length
      exact ⟨by omega, by rw [List.take_of_length_le (by rw [List.length_map]; omega)]⟩

theorem sumQ_bound {f : Nat → Rat} {K : Nat} (h : ∀ i, rs (f i) ≤ K) {n : Nat} (hn : n ≤ 1000) : rs (sumTo f n) ≤ 1000 * (K + 1) + 1 := by
  have h1 := rs_sumTo h n
  have h2 := mul_thou (n := n) (K := K + 1) hn
  omega

def d_stat_products : Den := den2 aRats aRats (fun a b => a.length ≤ 1000 ∧ a.length ≤ b.length ∧ (∀ r ∈ a, r.sz ≤ 2000000) ∧ ∀ r ∈ b, r.sz ≤ 2000000) fun a b => ratV (cr (sumP a b a.length))
set_option maxRecDepth 100000 in
set_option maxHeartbeats 1000000 in
theorem s_stat_products : Sound Try.prog 144 d_stat_products := by
  refine sound2 (fz := nofz) (l := [(84, d_rat_Int), (98, d_rat_Mul), (101, d_rat_Add)]) TT_ok ⟨s_rat_Int, s_rat_Mul, s_rat_Add, trivial⟩ mixed Try.func144 Try.ntmps144 Try.results144 Try.call144 rfl (by omega) (fun _ _ => rfl) ?_
  intro a b hp ha hb
  rw [codeK_start]
  simp only [go_sem, d_rat_Int, d_rat_Mul, d_rat_Add, int0, Nat.reduceBEq, Nat.reduceBNe, Nat.reduceLT, Nat.reduceLeDiff, Nat.reduceAdd, Nat.reduceSub, Nat.reduceMul, Nat.reduceEqDiff, Int.reduceNeg, Int.reduceAdd, Int.reduceLT, Int.reduceLE, Int.reduceToNat, ↓reduceIte]
  have hq := rs_atQ ha hp.2.2.1 (by omega)
  have hr := rs_atQ hb hp.2.2.2 (by omega)
  have hs : ∀ i, rs (atQ a i * atQ b i) ≤ 4000000 := fun i => rsb_mul (hq i) (hr i) (by omega)
  refine codeK_loop (fun i : { i : Nat // i ≤ a.length } => [(11, 0, .av (intV ((i.1 : Nat)))), (10, 0, .av (intV ((a.length : Nat)))), (9, 0, .av (ratsV a)), (1, 0, .av (ratsV b)), (5, 0, .av (.one (.cel (.ptr 5 0)))), (5, 1, .cv (.bool (cr (sumP a b i.1)).s)), (5, 2, .cv (.lim none (cr (sumP a b i.1)).n)), (5, 3, .cv (.lim none (cr (sumP a b i.1)).d)), (4, 0, .av (.one (.cel (.ptr 4 0)))), (4, 1, .cv (.bool false)), (4, 2, .cv .nil), (4, 3, .cv .nil)]) (fun i => a.length - i.1) ⟨0, by omega⟩ (le_of ?_) ?_
  · simp only [go_sem, leL, Nat.reduceBEq, Nat.reduceBNe, Nat.reduceLT, Nat.reduceLeDiff, Nat.reduceAdd, Nat.reduceSub, Nat.reduceMul, Nat.reduceEqDiff, Int.reduceNeg, Int.reduceAdd, Int.reduceLT, Int.reduceLE, Int.reduceToNat, ↓reduceIte, sumP_zero, int0, int1, Int.ofNat_zero, Int.natCast_zero, Int.cast_ofNat_Int]
  · rintro ⟨i, hi0⟩
    have hi0 : i ≤ a.length := hi0
    by_cases hi : i < a.length
    · have k1 : rs (sumP a b i) ≤ 1000 * (4000000 + 1) + 1 := sumQ_bound hs (by omega)
      have hi2 : i < b.length := by omega
      have hm := hp.2.2.1 _ (getD_mem (d := rr0) hi)
      have hm2 := hp.2.2.2 _ (getD_mem (d := rr0) hi2)
      have k2 : rs ((a.getD i rr0).q * (b.getD i rr0).q) ≤ 4000000 := hs i
      simp only [go_sem, d_rat_Int, d_rat_Mul, d_rat_Add, getD_rats hi, getD_ratsI hi, getD_rats hi2, getD_ratsI hi2, Int.ofNat_lt, hi, hi2, Nat.reduceBEq, Nat.reduceBNe, Nat.reduceLT, Nat.reduceLeDiff, Nat.reduceAdd, Nat.reduceSub, Nat.reduceMul, Nat.reduceEqDiff, Int.reduceNeg, Int.reduceAdd, Int.reduceLT, Int.reduceLE, Int.reduceToNat, ↓reduceIte]
      exact ⟨⟨by omega, by omega⟩, ⟨by omega, by omega⟩, by kernel_rfl, ⟨by omega, by omega⟩, ⟨i + 1, by omega⟩, by show a.length - (i + 1) < a.length - i; omega, le_of (by simp only [go_sem, leL, sumP_next, Nat.reduceBEq, Nat.reduceBNe, Nat.reduceLT, Nat.reduceLeDiff, Nat.reduceAdd, Nat.reduceSub, Nat.reduceMul, Nat.reduceEqDiff, Int.reduceNeg, Int.reduceAdd, Int.reduceLT, Int.reduceLE, Int.reduceToNat, ↓reduceIte]; omega)⟩
    · simp only [go_sem, d_rat_Int, d_rat_Mul, d_rat_Add, Int.ofNat_lt, hi, Nat.reduceBEq, Nat.reduceBNe, Nat.reduceLT, Nat.reduceLeDiff, Nat.reduceAdd, Nat.reduceSub, Nat.reduceMul, Nat.reduceEqDiff, Int.reduceNeg, Int.reduceAdd, Int.reduceLT, Int.reduceLE, Int.reduceToNat, ↓reduceIte]
      have e : i = a.length := by omega
      subst e
      exact ⟨rfl, rfl, rfl⟩

def covQ (a b : List RR) : Rat := if a.length = b.length then (if a.length < 2 then 0 else sumTo (fun i => (atQ a i - meanQ a) * (atQ b i - meanQ b)) a.length / (((a.length : Int) - 1 : Int) : Rat)) else 0
def errC (a b : List RR) : Int := if a.length = b.length then (if a.length < 2 then 5 else 0) else 1

def d_stat_Covariance : Den := den2 aRats aRats (fun a b => (a.length ≤ 1000 ∧ ∀ r ∈ a, r.sz ≤ 1000) ∧ b.length ≤ 1000 ∧ ∀ r ∈ b, r.sz ≤ 1000) fun a b => ratIntV (cr (covQ a b)) (errC a b)
set_option maxRecDepth 100000 in
set_option maxHeartbeats 1000000 in
theorem s_stat_Covariance : Sound Try.prog 107 d_stat_Covariance := by
  refine sound2 (fz := nofz) (l := [(84, d_rat_Int), (145, d_stat_off), (144, d_stat_products), (105, d_stat_by)]) TT_ok ⟨s_rat_Int, s_stat_off, s_stat_products, s_stat_by, trivial⟩ mixed Try.func107 Try.ntmps107 Try.results107 Try.call107 rfl (by omega) (fun _ _ => rfl) ?_
  intro a b hp ha hb
  rw [codeK_start]
  simp only [go_sem, d_rat_Int, d_stat_off, d_stat_products, d_stat_by, int0, offs_len, Nat.reduceBEq, Nat.reduceBNe, Nat.reduceLT, Nat.reduceLeDiff, Nat.reduceAdd, Nat.reduceSub, Nat.reduceMul, Nat.reduceEqDiff, Int.reduceNeg, Int.reduceAdd, Int.reduceLT, Int.reduceLE, Int.reduceToNat, ↓reduceIte]
  have qa := rs_atQ ha hp.1.2 (by omega)
  have ma := rs_meanQ qa hp.1.1
  have oa : ∀ i, rs (atQ a i - meanQ a) ≤ 1100000 := fun i => rsb_sub (qa i) ma (by omega)
  have sa := offs_sz a a.length 2000000 (fun i => Nat.le_trans (oa i) (by omega))
  have qb := rs_atQ hb hp.2.2 (by omega)
  have mb := rs_meanQ qb hp.2.1
  have ob : ∀ i, rs (atQ b i - meanQ b) ≤ 1100000 := fun i => rsb_sub (qb i) mb (by omega)
  have sb := offs_sz b b.length 2000000 (fun i => Nat.le_trans (ob i) (by omega))
  unfold covQ errC
  split
  · rename_i c
    have c : ¬ a.length = b.length := by intro h; rw [decide_eq_true (by omega)] at c; cases c
    rw [if_neg c, if_neg c]
    exact ⟨⟨rfl, rfl, rfl⟩, rfl⟩
  · rename_i c
    have c : a.length = b.length := Classical.byContradiction fun h => c (by rw [decide_eq_false (by omega)]; rfl)
    rw [if_pos c, if_pos c]
    split
    · rename_i d
      have d : a.length < 2 := by omega
      rw [if_pos d, if_pos d]
      exact ⟨⟨rfl, rfl, rfl⟩, rfl⟩
    · rename_i d
      have d : ¬ a.length < 2 := by omega
      rw [if_neg d, if_neg d]
      have e : sumP (offs a a.length) (offs b b.length) a.length = sumTo (fun i => (atQ a i - meanQ a) * (atQ b i - meanQ b)) a.length :=
        sumTo_congr fun i hi => by rw [offs_at a hi, offs_at b (by omega)]
      rw [e]
      have hs : rs (sumTo (fun i => (atQ a i - meanQ a) * (atQ b i - meanQ b)) a.length) ≤ 1000 * (2200000 + 1) + 1 := sumQ_bound (K := 2200000) (fun i => rsb_mul (oa i) (ob i) (by omega)) hp.1.1
      exact ⟨hp.1, hp.2, ⟨hp.1.1, by omega, sa, sb⟩, ⟨by omega, by omega⟩, ⟨by omega, by omega, by omega⟩, ⟨rfl, rfl, rfl⟩, rfl⟩

def d_stat_Variance : Den := den1 aRats (fun a => a.length ≤ 1000 ∧ ∀ r ∈ a, r.sz ≤ 1000) fun a => ratIntV (cr (covQ a a)) (errC a a)
set_option maxRecDepth 100000 in
set_option maxHeartbeats 1000000 in
theorem s_stat_Variance : Sound Try.prog 61 d_stat_Variance := by
  refine sound1 (fz := nofz) (l := [(107, d_stat_Covariance)]) TT_ok ⟨s_stat_Covariance, trivial⟩ mixed Try.func61 Try.ntmps61 Try.results61 Try.call61 rfl (by omega) (fun _ => rfl) ?_
  intro a hp ha
  rw [codeK_start]
  simp only [go_sem, d_stat_Covariance, int0, Nat.reduceBEq, Nat.reduceBNe, Nat.reduceLT, Nat.reduceLeDiff, Nat.reduceAdd, Nat.reduceSub, Nat.reduceMul, Nat.reduceEqDiff, Int.reduceNeg, Int.reduceAdd, Int.reduceLT, Int.reduceLE, Int.reduceToNat, ↓reduceIte]
  exact hp

def cenQ (k : Int) (l : List RR) : Rat := if k < 0 ∨ 8 < k then 0 else if l.length = 0 then 0 else sumTo (fun i => qpow (atQ l i - meanQ l) k.toNat) l.length / (((l.length : Nat) : Int) : Rat)
def errK (k : Int) (l : List RR) : Int := if k < 0 ∨ 8 < k then 1 else if l.length = 0 then 5 else 0

def d_stat_Central : Den := den2 aInt aRats (fun _ l => l.length ≤ 1000 ∧ ∀ r ∈ l, r.sz ≤ 1000) fun k l => ratIntV (cr (cenQ k l)) (errK k l)
end Go.Proofs.Ytifnpelkoklcnaa
