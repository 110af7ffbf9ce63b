/- vernierref17: Sum, by, Mean, power, Off, Variance, Central, Covariance, by the abstract walk. Conditions: rows of at most 1000 numbers of at most 1000 limbs. -/
import Derived.Test.YtifnpelkoklcnaaCb
namespace Go.Proofs.Ytifnpelkoklcnaa
open Go.RowKit
set_option linter.unusedSimpArgs false
set_option linter.unusedVariables false

def d_ref17_Sum : Den := den1 aRats (fun a => a.length ≤ 1000 ∧ ∀ r ∈ a, r.sz ≤ 1000) fun a => ratV (cr (sumTo (atQ a) a.length))
def d_ref17_by : Den := den2 aRat aInt (fun a n => a.sz ≤ 10000000000 ∧ -9223372036854775808 ≤ n ∧ n < 9223372036854775808) fun a n => ratV (cr (a.q / (n : Rat)))
def d_ref17_Mean : Den := den1 aRats (fun a => a.length ≤ 1000 ∧ ∀ r ∈ a, r.sz ≤ 1000) fun a => ratIntV (cr (meanQ a)) (errD a)
def d_ref17_power : Den := den2 aRat aInt (fun a n => a.sz ≤ 100000000 ∧ 0 ≤ n ∧ n ≤ 64) fun a n => ratV (cr (qpow a.q n.toNat))
def offQ (l : List RR) (k n : Nat) : Rat := sumTo (fun i => qpow (atQ l i - meanQ l) k) n
theorem offQ_next (l : List RR) (k n : Nat) : offQ l k (n + 1) = offQ l k n + qpow ((l.getD n rr0).q - meanQ l) k := rfl
theorem offQ_zero (l : List RR) (k : Nat) : offQ l k 0 = 0 := rfl
theorem rs_pw {l : List RR} (ob : ∀ i, rs (atQ l i - meanQ l) ≤ 1100000) {n : Nat} (hn : n ≤ 8) (i : Nat) : rs (qpow (atQ l i - meanQ l) n) ≤ 8800001 := by
  have h1 := rs_qpow (ob i) n
  have h2 := Nat.mul_le_mul_right 1100000 hn
  omega
theorem rs_offQ {l : List RR} (ob : ∀ i, rs (atQ l i - meanQ l) ≤ 1100000) {k n : Nat} (hk : k ≤ 8) (hn : n ≤ 1000) : rs (offQ l k n) ≤ 8800002001 := Nat.le_trans (sumQ_bound (rs_pw ob hk) hn) (by omega)
theorem offs_bound {l : List RR} (h1 : ∀ r ∈ l, r.ok) (h2 : l.length ≤ 1000 ∧ ∀ r ∈ l, r.sz ≤ 1000) (i : Nat) : rs (atQ l i - meanQ l) ≤ 1100000 :=
  rsb_sub (rs_atQ h1 h2.2 (by omega) i) (rs_meanQ (rs_atQ h1 h2.2 (by omega)) h2.1) (by omega)

def d_ref17_Off : Den := den2 aRats aInt (fun a k => (a.length ≤ 1000 ∧ ∀ r ∈ a, r.sz ≤ 1000) ∧ 0 ≤ k ∧ k ≤ 8) fun a k => ratV (cr (offQ a k.toNat a.length))
theorem off_two (l : List RR) (n : Nat) : offQ l 2 n = sumTo (fun i => (atQ l i - meanQ l) * (atQ l i - meanQ l)) n := sumTo_congr fun i _ => qpow_two _

def d_ref17_Variance : Den := den1 aRats (fun a => a.length ≤ 1000 ∧ ∀ r ∈ a, r.sz ≤ 1000) fun a => ratIntV (cr (covQ a a)) (errC a a)
def d_ref17_Central : Den := den2 aInt aRats (fun _ l => l.length ≤ 1000 ∧ ∀ r ∈ l, r.sz ≤ 1000) fun k l => ratIntV (cr (cenQ k l)) (errK k l)
def covS (a b : List RR) (n : Nat) : Rat := sumTo (fun i => (atQ a i - meanQ a) * (atQ b i - meanQ b)) n
theorem covS_next (a b : List RR) (n : Nat) : covS a b (n + 1) = covS a b n + ((a.getD n rr0).q - meanQ a) * ((b.getD n rr0).q - meanQ b) := rfl
theorem covS_zero (a b : List RR) : covS a b 0 = 0 := rfl

def d_ref17_Covariance : Den := den2 aRats aRats (fun a b => (a.length ≤ 1000 ∧ ∀ r ∈ a, r.sz ≤ 1000) ∧ b.length ≤ 1000 ∧ ∀ r ∈ b, r.sz ≤ 1000) fun a b => ratIntV (cr (covQ a b)) (errC a b)
end Go.Proofs.Ytifnpelkoklcnaa
