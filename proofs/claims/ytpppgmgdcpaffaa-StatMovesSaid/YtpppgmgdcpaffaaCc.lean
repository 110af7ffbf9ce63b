/- vernierref17: Sum, by, Mean, power, Off, Variance, Central, Covariance, by the abstract walk. Conditions: rows of at most 1000 numbers of at most 1000 limbs. -/
import Derived.Test.YtpppgmgdcpaffaaCb
namespace Go.Proofs.Ytpppgmgdcpaffaa
open Go.RowKit
set_option linter.unusedSimpArgs false
set_option linter.unusedVariables false

def d_ref17_Sum : Den := den1 aRats (fun a => a.length ≤ 1000 ∧ ∀ r ∈ a, r.sz ≤ 1000) fun a => ratV (cr (sumTo (atQ a) a.length))
set_option maxRecDepth 100000 in
set_option maxHeartbeats 1000000 in
theorem s_ref17_Sum : Sound Try.prog 35 d_ref17_Sum := by
  refine sound1 (fz := nofz) (l := [(39, d_ref2_Int), (28, d_ref2_Add)]) TT_ok ⟨s_ref2_Int, s_ref2_Add, trivial⟩ mixed Try.func35 Try.ntmps35 Try.results35 Try.call35 rfl (by omega) (fun _ => rfl) ?_
  intro a hp ha
  rw [codeK_start]
  simp only [go_sem, d_ref2_Int, d_ref2_Add, int0, Nat.reduceBEq, Nat.reduceBNe, Nat.reduceLT, Nat.reduceLeDiff, Nat.reduceAdd, Nat.reduceSub, Nat.reduceMul, Nat.reduceEqDiff, Int.reduceNeg, Int.reduceAdd, Int.reduceLT, Int.reduceLE, Int.reduceToNat, ↓reduceIte]
  have hq := rs_atQ ha hp.2 (by omega)
  refine codeK_loop (fun i : { i : Nat // i ≤ a.length } => [(4, 0, .av (intV ((i.1 : Nat)))), (0, 0, .av (ratsV a)), (3, 0, .av (.one (.cel (.ptr 3 0)))), (3, 1, .cv (.bool (cr (sumTo (atQ a) i.1)).s)), (3, 2, .cv (.lim none (cr (sumTo (atQ a) i.1)).n)), (3, 3, .cv (.lim none (cr (sumTo (atQ a) i.1)).d)), (2, 0, .av (.one (.cel (.ptr 2 0)))), (2, 1, .cv (.bool false)), (2, 2, .cv .nil), (2, 3, .cv .nil)]) (fun i => a.length - i.1) ⟨0, by omega⟩ (le_of ?_) ?_
  · simp only [go_sem, leL, Nat.reduceBEq, Nat.reduceBNe, Nat.reduceLT, Nat.reduceLeDiff, Nat.reduceAdd, Nat.reduceSub, Nat.reduceMul, Nat.reduceEqDiff, Int.reduceNeg, Int.reduceAdd, Int.reduceLT, Int.reduceLE, Int.reduceToNat, ↓reduceIte, sumTo_zero, int0, int1, Int.ofNat_zero, Int.natCast_zero, Int.cast_ofNat_Int]
  · rintro ⟨i, hi0⟩
    have hi0 : i ≤ a.length := hi0
    have k1 := rs_sumTo hq i
    have k2 := mul_thou (n := i) (K := 1001) (by omega)
    by_cases hi : i < a.length
    · have hm := hp.2 _ (getD_mem (d := rr0) hi)
      simp only [go_sem, d_ref2_Int, d_ref2_Add, getD_rats hi, getD_ratsI hi, Int.ofNat_lt, hi, Nat.reduceBEq, Nat.reduceBNe, Nat.reduceLT, Nat.reduceLeDiff, Nat.reduceAdd, Nat.reduceSub, Nat.reduceMul, Nat.reduceEqDiff, Int.reduceNeg, Int.reduceAdd, Int.reduceLT, Int.reduceLE, Int.reduceToNat, ↓reduceIte]
      exact ⟨⟨by omega, by omega⟩, by kernel_rfl, ⟨by omega, by omega⟩, ⟨i + 1, by omega⟩, by show a.length - (i + 1) < a.length - i; omega, le_of (by simp only [go_sem, leL, sumTo_next, Nat.reduceBEq, Nat.reduceBNe, Nat.reduceLT, Nat.reduceLeDiff, Nat.reduceAdd, Nat.reduceSub, Nat.reduceMul, Nat.reduceEqDiff, Int.reduceNeg, Int.reduceAdd, Int.reduceLT, Int.reduceLE, Int.reduceToNat, ↓reduceIte]; omega)⟩
    · simp only [go_sem, d_ref2_Int, d_ref2_Add, Int.ofNat_lt, hi, Nat.reduceBEq, Nat.reduceBNe, Nat.reduceLT, Nat.reduceLeDiff, Nat.reduceAdd, Nat.reduceSub, Nat.reduceMul, Nat.reduceEqDiff, Int.reduceNeg, Int.reduceAdd, Int.reduceLT, Int.reduceLE, Int.reduceToNat, ↓reduceIte]
      have e : i = a.length := by omega
      subst e
      exact ⟨rfl, rfl, rfl⟩

def d_ref17_by : Den := den2 aRat aInt (fun a n => a.sz ≤ 10000000000 ∧ -9223372036854775808 ≤ n ∧ n < 9223372036854775808) fun a n => ratV (cr (a.q / (n : Rat)))
set_option maxRecDepth 100000 in
set_option maxHeartbeats 1000000 in
theorem s_ref17_by : Sound Try.prog 123 d_ref17_by := by
  refine sound2 (fz := nofz) (l := [(39, d_ref2_Int), (98, d_ref2_Div)]) TT_ok ⟨s_ref2_Int, s_ref2_Div, trivial⟩ mixed Try.func123 Try.ntmps123 Try.results123 Try.call123 rfl (by omega) (fun _ _ => rfl) ?_
  intro a b hp ha hb
  rw [codeK_start]
  simp only [go_sem, d_ref2_Int, d_ref2_Div, Nat.reduceBEq, Nat.reduceBNe, Nat.reduceLT, Nat.reduceLeDiff, Nat.reduceAdd, Nat.reduceSub, Nat.reduceMul, Nat.reduceEqDiff, Int.reduceNeg, Int.reduceAdd, Int.reduceLT, Int.reduceLE, Int.reduceToNat, ↓reduceIte]
  have h2 := rsb_int (n := b) (K := 2) (by omega) (by omega) (by omega)
  exact ⟨⟨by omega, by omega⟩, ⟨by omega, by omega⟩, by kernel_rfl⟩

def d_ref17_Mean : Den := den1 aRats (fun a => a.length ≤ 1000 ∧ ∀ r ∈ a, r.sz ≤ 1000) fun a => ratIntV (cr (meanQ a)) (errD a)
set_option maxRecDepth 100000 in
set_option maxHeartbeats 1000000 in
theorem s_ref17_Mean : Sound Try.prog 125 d_ref17_Mean := by
  refine sound1 (fz := nofz) (l := [(39, d_ref2_Int), (35, d_ref17_Sum), (123, d_ref17_by)]) TT_ok ⟨s_ref2_Int, s_ref17_Sum, s_ref17_by, trivial⟩ mixed Try.func125 Try.ntmps125 Try.results125 Try.call125 rfl (by omega) (fun _ => rfl) ?_
  intro a hp ha
  rw [codeK_start]
  simp only [go_sem, d_ref2_Int, d_ref17_Sum, d_ref17_by, int0, Nat.reduceBEq, Nat.reduceBNe, Nat.reduceLT, Nat.reduceLeDiff, Nat.reduceAdd, Nat.reduceSub, Nat.reduceMul, Nat.reduceEqDiff, Int.reduceNeg, Int.reduceAdd, Int.reduceLT, Int.reduceLE, Int.reduceToNat, ↓reduceIte]
  have hq := rs_atQ ha hp.2 (by omega)
  have k1 := rs_sumTo hq a.length
  have k2 := mul_thou (n := a.length) (K := 1001) (by omega)
  unfold meanQ errD
  split
  · rename_i h
    have h : a.length = 0 := by omega
    rw [if_pos h, if_pos h]
    exact ⟨⟨rfl, rfl, rfl⟩, rfl⟩
  · rename_i h
    have h : ¬ a.length = 0 := by omega
    rw [if_neg h, if_neg h]
    exact ⟨hp, ⟨by omega, by omega, by omega⟩, ⟨rfl, rfl, rfl⟩, rfl⟩

def d_ref17_power : Den := den2 aRat aInt (fun a n => a.sz ≤ 100000000 ∧ 0 ≤ n ∧ n ≤ 64) fun a n => ratV (cr (qpow a.q n.toNat))
set_option maxRecDepth 100000 in
set_option maxHeartbeats 1000000 in
theorem s_ref17_power : Sound Try.prog 136 d_ref17_power := by
  refine sound2 (fz := nofz) (l := [(39, d_ref2_Int), (30, d_ref2_Mul)]) TT_ok ⟨s_ref2_Int, s_ref2_Mul, trivial⟩ mixed Try.func136 Try.ntmps136 Try.results136 Try.call136 rfl (by omega) (fun _ _ => rfl) ?_
  intro a b hp ha hb
  rw [codeK_start]
  simp only [go_sem, d_ref2_Int, d_ref2_Mul, int1, Nat.reduceBEq, Nat.reduceBNe, Nat.reduceLT, Nat.reduceLeDiff, Nat.reduceAdd, Nat.reduceSub, Nat.reduceMul, Nat.reduceEqDiff, Int.reduceNeg, Int.reduceAdd, Int.reduceLT, Int.reduceLE, Int.reduceToNat, ↓reduceIte]
  have q1 : rs a.q ≤ 100000000 := rs_ok ha hp.1 (by omega)
  have hz : ∀ n : Nat, n ≤ 64 → rs (qpow a.q n) ≤ 6400000001 := fun n hn => by have h1 := rs_qpow q1 n; have h2 := mul_64 (K := 100000000) hn; omega
  refine codeK_loop (fun i : { i : Nat // (i : Int) ≤ b } => [(6, 0, .av (intV ((i.1 : Nat)))), (1, 0, .av (intV (b))), (5, 0, .av (.one (.cel (.ptr 5 0)))), (5, 1, .cv (.bool (cr (qpow a.q i.1)).s)), (5, 2, .cv (.lim none (cr (qpow a.q i.1)).n)), (5, 3, .cv (.lim none (cr (qpow a.q i.1)).d)), (4, 0, .av (.one (.cel (.ptr 4 0)))), (4, 1, .cv (.bool false)), (4, 2, .cv .nil), (4, 3, .cv .nil), (2, 0, .av (.one (.cel (.ptr 2 0)))), (2, 1, .cv (.bool a.s)), (2, 2, .cv (.lim none a.n)), (2, 3, .cv (.lim none a.d))]) (fun i => b.toNat - i.1) ⟨0, by have := hp.2.1; omega⟩ (le_of ?_) ?_
  · simp only [go_sem, leL, Nat.reduceBEq, Nat.reduceBNe, Nat.reduceLT, Nat.reduceLeDiff, Nat.reduceAdd, Nat.reduceSub, Nat.reduceMul, Nat.reduceEqDiff, Int.reduceNeg, Int.reduceAdd, Int.reduceLT, Int.reduceLE, Int.reduceToNat, ↓reduceIte, qpow, int1, Int.ofNat_zero, Int.natCast_zero, Int.cast_ofNat_Int]
  · rintro ⟨i, hi0⟩
    have hi0 : (i : Int) ≤ b := hi0
    have k1 := hz i (by omega)
    by_cases hi : (i : Int) < b
    · simp only [go_sem, d_ref2_Int, d_ref2_Mul, hi, Nat.reduceBEq, Nat.reduceBNe, Nat.reduceLT, Nat.reduceLeDiff, Nat.reduceAdd, Nat.reduceSub, Nat.reduceMul, Nat.reduceEqDiff, Int.reduceNeg, Int.reduceAdd, Int.reduceLT, Int.reduceLE, Int.reduceToNat, ↓reduceIte]
      exact ⟨⟨by omega, by omega⟩, ⟨by omega, by omega⟩, ⟨i + 1, by omega⟩, by show b.toNat - (i + 1) < b.toNat - i; omega, le_of (by simp only [go_sem, leL, qpow, Nat.reduceBEq, Nat.reduceBNe, Nat.reduceLT, Nat.reduceLeDiff, Nat.reduceAdd, Nat.reduceSub, Nat.reduceMul, Nat.reduceEqDiff, Int.reduceNeg, Int.reduceAdd, Int.reduceLT, Int.reduceLE, Int.reduceToNat, ↓reduceIte]; omega)⟩
    · simp only [go_sem, d_ref2_Int, d_ref2_Mul, hi, Nat.reduceBEq, Nat.reduceBNe, Nat.reduceLT, Nat.reduceLeDiff, Nat.reduceAdd, Nat.reduceSub, Nat.reduceMul, Nat.reduceEqDiff, Int.reduceNeg, Int.reduceAdd, Int.reduceLT, Int.reduceLE, Int.reduceToNat, ↓reduceIte]
      have e : i = b.toNat := by omega
      subst e
      exact ⟨rfl, rfl, rfl⟩

def offQ (l : List RR) (k n : Nat) : Rat := sumTo (fun i => qpow (atQ l i - meanQ l) k) n
theorem offQ_next (l : List RR) (k n : Nat) : offQ l k (n + 1) = offQ l k n + qpow ((l.getD n rr0).q - meanQ l) k := rfl
theorem offQ_zero (l : List RR) (k : Nat) : offQ l k 0 = 0 := rfl
theorem rs_pw {l : List RR} (ob : ∀ i, rs (atQ l i - meanQ l) ≤ 1100000) {n : Nat} (hn : n ≤ 8) (i : Nat) : rs (qpow (atQ l i - meanQ l) n) ≤ 8800001 := by
  have h1 := rs_qpow (ob i) n
  have h2 := Nat.mul_le_mul_right 1100000 hn
  omega
theorem rs_offQ {l : List RR} (ob : ∀ i, rs (atQ l i - meanQ l) ≤ 1100000) {k n : Nat} (hk : k ≤ 8) (hn : n ≤ 1000) : rs (offQ l k n) ≤ 8800002001 := Nat.le_trans (sumQ_bound (rs_pw ob hk) hn) (by omega)
theorem offs_bound {l : List RR} (h1 : ∀ r ∈ l, r.ok) (h2 : l.length ≤ 1000 ∧ ∀ r ∈ l, r.sz ≤ 1000) (i : Nat) : rs (atQ l i - meanQ l) ≤ 1100000 :=
  rsb_sub (rs_atQ h1 h2.2 (by omega) i) (rs_meanQ (rs_atQ h1 h2.2 (by omega)) h2.1) (by omega)

def d_ref17_Off : Den := den2 aRats aInt (fun a k => (a.length ≤ 1000 ∧ ∀ r ∈ a, r.sz ≤ 1000) ∧ 0 ≤ k ∧ k ≤ 8) fun a k => ratV (cr (offQ a k.toNat a.length))
set_option maxRecDepth 100000 in
set_option maxHeartbeats 1000000 in
theorem s_ref17_Off : Sound Try.prog 124 d_ref17_Off := by
  refine sound2 (fz := nofz) (l := [(125, d_ref17_Mean), (39, d_ref2_Int), (41, d_ref2_Sub), (136, d_ref17_power), (28, d_ref2_Add)]) TT_ok ⟨s_ref17_Mean, s_ref2_Int, s_ref2_Sub, s_ref17_power, s_ref2_Add, trivial⟩ mixed Try.func124 Try.ntmps124 Try.results124 Try.call124 rfl (by omega) (fun _ _ => rfl) ?_
  intro a b hp ha hb
  rw [codeK_start]
  simp only [go_sem, d_ref17_Mean, d_ref2_Int, d_ref2_Sub, d_ref17_power, d_ref2_Add, int0, Nat.reduceBEq, Nat.reduceBNe, Nat.reduceLT, Nat.reduceLeDiff, Nat.reduceAdd, Nat.reduceSub, Nat.reduceMul, Nat.reduceEqDiff, Int.reduceNeg, Int.reduceAdd, Int.reduceLT, Int.reduceLE, Int.reduceToNat, ↓reduceIte]
  have oa := offs_bound ha hp.1
  have mm := rs_meanQ (rs_atQ ha hp.1.2 (by omega)) hp.1.1
  have hlen := hp.1.1
  refine ⟨hp.1, ?_⟩
  refine codeK_loop (fun i : { i : Nat // i ≤ a.length } => [(8, 0, .av (intV ((i.1 : Nat)))), (0, 0, .av (ratsV a)), (1, 0, .av (intV (b))), (5, 0, .av (.one (.cel (.ptr 5 0)))), (5, 1, .cv (.bool (cr (meanQ a)).s)), (5, 2, .cv (.lim none (cr (meanQ a)).n)), (5, 3, .cv (.lim none (cr (meanQ a)).d)), (7, 0, .av (.one (.cel (.ptr 7 0)))), (7, 1, .cv (.bool (cr (offQ a b.toNat i.1)).s)), (7, 2, .cv (.lim none (cr (offQ a b.toNat i.1)).n)), (7, 3, .cv (.lim none (cr (offQ a b.toNat i.1)).d)), (4, 0, .av (.one (.cel (.ptr 4 0)))), (4, 1, .cv (.bool false)), (4, 2, .cv .nil), (4, 3, .cv .nil)]) (fun i => a.length - i.1) ⟨0, by omega⟩ (le_of ?_) ?_
  · simp only [go_sem, leL, Nat.reduceBEq, Nat.reduceBNe, Nat.reduceLT, Nat.reduceLeDiff, Nat.reduceAdd, Nat.reduceSub, Nat.reduceMul, Nat.reduceEqDiff, Int.reduceNeg, Int.reduceAdd, Int.reduceLT, Int.reduceLE, Int.reduceToNat, ↓reduceIte, offQ_zero, int0, int1, Int.ofNat_zero, Int.natCast_zero, Int.cast_ofNat_Int]
  · rintro ⟨i, hi0⟩
    have hi0 : i ≤ a.length := hi0
    have k1 := rs_offQ oa (k := b.toNat) (n := i) (by omega) (by omega)
    by_cases hi : i < a.length
    · have hm := hp.1.2 _ (getD_mem (d := rr0) hi)
      have k3 : rs ((a.getD i rr0).q - meanQ a) ≤ 1100000 := oa i
      have k4 : rs (qpow ((a.getD i rr0).q - meanQ a) b.toNat) ≤ 8800001 := rs_pw oa (by omega) i
      simp only [go_sem, d_ref17_Mean, d_ref2_Int, d_ref2_Sub, d_ref17_power, d_ref2_Add, getD_rats hi, getD_ratsI hi, Int.ofNat_lt, hi, Nat.reduceBEq, Nat.reduceBNe, Nat.reduceLT, Nat.reduceLeDiff, Nat.reduceAdd, Nat.reduceSub, Nat.reduceMul, Nat.reduceEqDiff, Int.reduceNeg, Int.reduceAdd, Int.reduceLT, Int.reduceLE, Int.reduceToNat, ↓reduceIte]
      exact ⟨⟨by omega, by omega⟩, ⟨by omega, by omega, by omega⟩, ⟨by omega, by omega⟩, by kernel_rfl, ⟨by omega, by omega⟩, ⟨i + 1, by omega⟩, by show a.length - (i + 1) < a.length - i; omega, le_of (by simp only [go_sem, leL, offQ_next, Nat.reduceBEq, Nat.reduceBNe, Nat.reduceLT, Nat.reduceLeDiff, Nat.reduceAdd, Nat.reduceSub, Nat.reduceMul, Nat.reduceEqDiff, Int.reduceNeg, Int.reduceAdd, Int.reduceLT, Int.reduceLE, Int.reduceToNat, ↓reduceIte]; omega)⟩
    · simp only [go_sem, d_ref17_Mean, d_ref2_Int, d_ref2_Sub, d_ref17_power, d_ref2_Add, Int.ofNat_lt, hi, Nat.reduceBEq, Nat.reduceBNe, Nat.reduceLT, Nat.reduceLeDiff, Nat.reduceAdd, Nat.reduceSub, Nat.reduceMul, Nat.reduceEqDiff, Int.reduceNeg, Int.reduceAdd, Int.reduceLT, Int.reduceLE, Int.reduceToNat, ↓reduceIte]
      have e : i = a.length := by omega
      subst e
      exact ⟨rfl, rfl, rfl⟩

theorem off_two (l : List RR) (n : Nat) : offQ l 2 n = sumTo (fun i => (atQ l i - meanQ l) * (atQ l i - meanQ l)) n := sumTo_congr fun i _ => qpow_two _

def d_ref17_Variance : Den := den1 aRats (fun a => a.length ≤ 1000 ∧ ∀ r ∈ a, r.sz ≤ 1000) fun a => ratIntV (cr (covQ a a)) (errC a a)
set_option maxRecDepth 100000 in
set_option maxHeartbeats 1000000 in
theorem s_ref17_Variance : Sound Try.prog 100 d_ref17_Variance := by
  refine sound1 (fz := nofz) (l := [(39, d_ref2_Int), (124, d_ref17_Off), (123, d_ref17_by)]) TT_ok ⟨s_ref2_Int, s_ref17_Off, s_ref17_by, trivial⟩ mixed Try.func100 Try.ntmps100 Try.results100 Try.call100 rfl (by omega) (fun _ => rfl) ?_
  intro a hp ha
  rw [codeK_start]
  simp only [go_sem, d_ref2_Int, d_ref17_Off, d_ref17_by, int0, Nat.reduceBEq, Nat.reduceBNe, Nat.reduceLT, Nat.reduceLeDiff, Nat.reduceAdd, Nat.reduceSub, Nat.reduceMul, Nat.reduceEqDiff, Int.reduceNeg, Int.reduceAdd, Int.reduceLT, Int.reduceLE, Int.reduceToNat, ↓reduceIte]
  have oa := offs_bound ha hp
  have k1 := rs_offQ oa (k := 2) (n := a.length) (by omega) hp.1
  have hlen := hp.1
  unfold covQ errC
  rw [if_pos rfl, if_pos rfl]
  split
  · rename_i h
    have h : a.length < 2 := by omega
    rw [if_pos h, if_pos h]
    exact ⟨⟨rfl, rfl, rfl⟩, rfl⟩
  · rename_i h
    have h : ¬ a.length < 2 := by omega
    rw [if_neg h, if_neg h, ← off_two]
    exact ⟨hp, ⟨by omega, by omega⟩, ⟨by show rs (offQ a 2 a.length) ≤ _; omega, by omega, by omega⟩, ⟨rfl, rfl, rfl⟩, rfl⟩

def d_ref17_Central : Den := den2 aInt aRats (fun _ l => l.length ≤ 1000 ∧ ∀ r ∈ l, r.sz ≤ 1000) fun k l => ratIntV (cr (cenQ k l)) (errK k l)
def covS (a b : List RR) (n : Nat) : Rat := sumTo (fun i => (atQ a i - meanQ a) * (atQ b i - meanQ b)) n
theorem covS_next (a b : List RR) (n : Nat) : covS a b (n + 1) = covS a b n + ((a.getD n rr0).q - meanQ a) * ((b.getD n rr0).q - meanQ b) := rfl
theorem covS_zero (a b : List RR) : covS a b 0 = 0 := rfl

def d_ref17_Covariance : Den := den2 aRats aRats (fun a b => (a.length ≤ 1000 ∧ ∀ r ∈ a, r.sz ≤ 1000) ∧ b.length ≤ 1000 ∧ ∀ r ∈ b, r.sz ≤ 1000) fun a b => ratIntV (cr (covQ a b)) (errC a b)
set_option maxRecDepth 100000 in
set_option maxHeartbeats 1000000 in
theorem s_ref17_Covariance : Sound Try.prog 101 d_ref17_Covariance := by
  refine sound2 (fz := nofz) (l := [(39, d_ref2_Int), (125, d_ref17_Mean), (41, d_ref2_Sub), (30, d_ref2_Mul), (28, d_ref2_Add), (123, d_ref17_by)]) TT_ok ⟨s_ref2_Int, s_ref17_Mean, s_ref2_Sub, s_ref2_Mul, s_ref2_Add, s_ref17_by, trivial⟩ mixed Try.func101 Try.ntmps101 Try.results101 Try.call101 rfl (by omega) (fun _ _ => rfl) ?_
  intro a b hp ha hb
  rw [codeK_start]
  have oa := offs_bound ha hp.1
  have ob := offs_bound hb hp.2
  have ma := rs_meanQ (rs_atQ ha hp.1.2 (by omega)) hp.1.1
  have mb := rs_meanQ (rs_atQ hb hp.2.2 (by omega)) hp.2.1
  have hla := hp.1.1
  by_cases h1 : a.length = b.length
  · have h2 : (((a.length : Nat) : Int) = b.length) = True := eq_true (by omega)
    by_cases h3 : a.length < 2
    · have h4 : (((a.length : Nat) : Int) < 2) = True := eq_true (by omega)
      have e1 : covQ a b = 0 := by unfold covQ; rw [if_pos h1, if_pos h3]
      have e2 : errC a b = 5 := by unfold errC; rw [if_pos h1, if_pos h3]
      simp only [go_sem, d_ref2_Int, d_ref17_Mean, d_ref2_Sub, d_ref2_Mul, d_ref2_Add, d_ref17_by, int0, int1, e1, e2, h2, decide_true, decide_false, Bool.not_true, Bool.not_false, h4, Nat.reduceBEq, Nat.reduceBNe, Nat.reduceLT, Nat.reduceLeDiff, Nat.reduceAdd, Nat.reduceSub, Nat.reduceMul, Nat.reduceEqDiff, Int.reduceNeg, Int.reduceAdd, Int.reduceLT, Int.reduceLE, Int.reduceToNat, ↓reduceIte]
    have h4 : (((a.length : Nat) : Int) < 2) = False := eq_false (by omega)
    have e1 : covQ a b = covS a b a.length / (((a.length : Int) - 1 : Int) : Rat) := by unfold covQ; rw [if_pos h1, if_neg h3]; rfl
    have e2 : errC a b = 0 := by unfold errC; rw [if_pos h1, if_neg h3]
    have hcs : ∀ n, n ≤ 1000 → rs (covS a b n) ≤ 1000 * (2200000 + 1) + 1 := fun n hn => sumQ_bound (K := 2200000) (fun i => rsb_mul (oa i) (ob i) (by omega)) hn
    simp only [go_sem, d_ref2_Int, d_ref17_Mean, d_ref2_Sub, d_ref2_Mul, d_ref2_Add, d_ref17_by, int0, int1, e1, e2, h2, decide_true, decide_false, Bool.not_true, Bool.not_false, h4, Nat.reduceBEq, Nat.reduceBNe, Nat.reduceLT, Nat.reduceLeDiff, Nat.reduceAdd, Nat.reduceSub, Nat.reduceMul, Nat.reduceEqDiff, Int.reduceNeg, Int.reduceAdd, Int.reduceLT, Int.reduceLE, Int.reduceToNat, ↓reduceIte]
    refine ⟨hp.1, hp.2, ?_⟩
    refine codeK_loop (fun i : { i : Nat // i ≤ a.length } => [(11, 0, .av (intV ((i.1 : Nat)))), (0, 0, .av (ratsV a)), (1, 0, .av (ratsV b)), (6, 0, .av (.one (.cel (.ptr 6 0)))), (6, 1, .cv (.bool (cr (meanQ a)).s)), (6, 2, .cv (.lim none (cr (meanQ a)).n)), (6, 3, .cv (.lim none (cr (meanQ a)).d)), (8, 0, .av (.one (.cel (.ptr 8 0)))), (8, 1, .cv (.bool (cr (meanQ b)).s)), (8, 2, .cv (.lim none (cr (meanQ b)).n)), (8, 3, .cv (.lim none (cr (meanQ b)).d)), (10, 0, .av (.one (.cel (.ptr 10 0)))), (10, 1, .cv (.bool (cr (covS a b i.1)).s)), (10, 2, .cv (.lim none (cr (covS a b i.1)).n)), (10, 3, .cv (.lim none (cr (covS a b i.1)).d)), (4, 0, .av (.one (.cel (.ptr 4 0)))), (4, 1, .cv (.bool false)), (4, 2, .cv .nil), (4, 3, .cv .nil)]) (fun i => a.length - i.1) ⟨0, by omega⟩ (le_of ?_) ?_
    · simp only [go_sem, leL, Nat.reduceBEq, Nat.reduceBNe, Nat.reduceLT, Nat.reduceLeDiff, Nat.reduceAdd, Nat.reduceSub, Nat.reduceMul, Nat.reduceEqDiff, Int.reduceNeg, Int.reduceAdd, Int.reduceLT, Int.reduceLE, Int.reduceToNat, ↓reduceIte, covS_zero, int0, Int.ofNat_zero, Int.natCast_zero, Int.cast_ofNat_Int]
    · rintro ⟨i, hi0⟩
      have hi0 : i ≤ a.length := hi0
      have k1 := hcs i (by omega)
      by_cases hi : i < a.length
      · have hi2 : i < b.length := by omega
        have hm := hp.1.2 _ (getD_mem (d := rr0) hi)
        have hm2 := hp.2.2 _ (getD_mem (d := rr0) hi2)
        have k3 : rs ((a.getD i rr0).q - meanQ a) ≤ 1100000 := oa i
        have k4 : rs ((b.getD i rr0).q - meanQ b) ≤ 1100000 := ob i
        have k5 : rs (((a.getD i rr0).q - meanQ a) * ((b.getD i rr0).q - meanQ b)) ≤ 2200000 := rsb_mul k3 k4 (by omega)
        simp only [go_sem, d_ref2_Int, d_ref17_Mean, d_ref2_Sub, d_ref2_Mul, d_ref2_Add, d_ref17_by, getD_rats hi, getD_ratsI hi, getD_rats hi2, getD_ratsI hi2, Int.ofNat_lt, hi, hi2, Nat.reduceBEq, Nat.reduceBNe, Nat.reduceLT, Nat.reduceLeDiff, Nat.reduceAdd, Nat.reduceSub, Nat.reduceMul, Nat.reduceEqDiff, Int.reduceNeg, Int.reduceAdd, Int.reduceLT, Int.reduceLE, Int.reduceToNat, ↓reduceIte]
        exact ⟨⟨by omega, by omega⟩, ⟨by omega, by omega⟩, ⟨by omega, by omega⟩, ⟨by omega, by omega⟩, by kernel_rfl, ⟨by omega, by omega⟩, ⟨i + 1, by omega⟩, by show a.length - (i + 1) < a.length - i; omega, le_of (by simp only [go_sem, leL, covS_next, Nat.reduceBEq, Nat.reduceBNe, Nat.reduceLT, Nat.reduceLeDiff, Nat.reduceAdd, Nat.reduceSub, Nat.reduceMul, Nat.reduceEqDiff, Int.reduceNeg, Int.reduceAdd, Int.reduceLT, Int.reduceLE, Int.reduceToNat, ↓reduceIte]; omega)⟩
      · simp only [go_sem, d_ref2_Int, d_ref17_Mean, d_ref2_Sub, d_ref2_Mul, d_ref2_Add, d_ref17_by, Int.ofNat_lt, hi, Nat.reduceBEq, Nat.reduceBNe, Nat.reduceLT, Nat.reduceLeDiff, Nat.reduceAdd, Nat.reduceSub, Nat.reduceMul, Nat.reduceEqDiff, Int.reduceNeg, Int.reduceAdd, Int.reduceLT, Int.reduceLE, Int.reduceToNat, ↓reduceIte]
        have e : i = a.length := by omega
        subst e
        exact ⟨⟨by omega, by omega⟩, ⟨by omega, by omega, by omega⟩, rfl, rfl, rfl⟩
  · have h2 : (((a.length : Nat) : Int) = b.length) = False := eq_false (by omega)
    have e1 : covQ a b = 0 := by unfold covQ; rw [if_neg h1]
    have e2 : errC a b = 1 := by unfold errC; rw [if_neg h1]
    simp only [go_sem, d_ref2_Int, d_ref17_Mean, d_ref2_Sub, d_ref2_Mul, d_ref2_Add, d_ref17_by, int0, int1, e1, e2, h2, decide_true, decide_false, Bool.not_true, Bool.not_false, Nat.reduceBEq, Nat.reduceBNe, Nat.reduceLT, Nat.reduceLeDiff, Nat.reduceAdd, Nat.reduceSub, Nat.reduceMul, Nat.reduceEqDiff, Int.reduceNeg, Int.reduceAdd, Int.reduceLT, Int.reduceLE, Int.reduceToNat, ↓reduceIte]


end Go.Proofs.Ytpppgmgdcpaffaa
