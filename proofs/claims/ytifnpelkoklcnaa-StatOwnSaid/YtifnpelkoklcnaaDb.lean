/- rank: by, Ranks, Pairs, Kendall, Spearman, by the abstract walk. Conditions: rows of at most 1000 numbers of at most 1000 limbs. -/
import Derived.Test.YtifnpelkoklcnaaDa
import Derived.Test.YtifnpelkoklcnaaCd
namespace Go.Proofs.Ytifnpelkoklcnaa
open Go.RowKit
set_option linter.unusedSimpArgs false
set_option linter.unusedVariables false

theorem tw_lt {f : Nat → Rat} {x : Rat} {n : Nat} (h : f n < x) : tw f x (n + 1) = tw f x n + 2 := by
  rw [tw_next]; unfold cw; rw [if_pos (by rw [cmpQ_lt0]; exact h)]
theorem tw_eq {f : Nat → Rat} {x : Rat} {n : Nat} (h1 : ¬ f n < x) (h : f n = x) : tw f x (n + 1) = tw f x n + 1 := by
  rw [tw_next]; unfold cw; rw [if_neg (by rw [cmpQ_lt0]; exact h1), if_pos (by rw [cmpQ_eq0]; exact h)]
theorem tw_gt {f : Nat → Rat} {x : Rat} {n : Nat} (h1 : ¬ f n < x) (h : ¬ f n = x) : tw f x (n + 1) = tw f x n := by
  rw [tw_next]; unfold cw; rw [if_neg (by rw [cmpQ_lt0]; exact h1), if_neg (by rw [cmpQ_eq0]; exact h), Int.add_zero]
def ranksL (l : List RR) : List RR := mkL (rankQ (atQ l) l.length) l.length
def intsV3 (x y z e : Int) : AV := .tup [.cel (.int .i64 x), .cel (.int .i64 y), .cel (.int .i64 z), .cel (.int .i64 e)]
attribute [go_sem] intsV3

def d_rank_by : Den := den2 aRat aRat (fun a b => a.sz ≤ 10000000000 ∧ b.sz ≤ 10000000000) fun a b => ratV (cr (a.q / b.q))
def fz_rank_Ranks : Nat → List Nat
  | 34 => [1003]
  | _ => []

def d_rank_Ranks : Den := den1 aRats (fun a => a.length ≤ 1000 ∧ ∀ r ∈ a, r.sz ≤ 1000) fun a => ratsV (ranksL a)
theorem pr_bd (a b : Nat → Rat) (i k : Nat) : -1 ≤ pr a b i k ∧ pr a b i k ≤ 1 := by
  have h1 := cmpQ_bd (a i) (a k)
  have h2 := cmpQ_bd (b i) (b k)
  unfold pr
  have c1 : cmpQ (a i) (a k) = -1 ∨ cmpQ (a i) (a k) = 0 ∨ cmpQ (a i) (a k) = 1 := by omega
  rcases c1 with h | h | h <;> rw [h] <;> omega

def d_rank_Pairs : Den := den2 aRats aRats (fun a b => (a.length ≤ 1000 ∧ ∀ r ∈ a, r.sz ≤ 1000) ∧ b.length ≤ 1000 ∧ ∀ r ∈ b, r.sz ≤ 1000) fun a b => intsV3 (if a.length = b.length then pc v1 (atQ a) (atQ b) a.length else 0) (if a.length = b.length then pc v2 (atQ a) (atQ b) a.length else 0) (if a.length = b.length then pc v3 (atQ a) (atQ b) a.length else 0) (if a.length = b.length then 0 else 1)
def errP (a b : List RR) : Int := if a.length = b.length then (if a.length < 2 then 5 else 0) else 1

def d_rank_Kendall : Den := den2 aRats aRats (fun a b => (a.length ≤ 1000 ∧ ∀ r ∈ a, r.sz ≤ 1000) ∧ b.length ≤ 1000 ∧ ∀ r ∈ b, r.sz ≤ 1000) fun a b => ratIntV (cr (kenQ a b)) (errP a b)
theorem ranksL_len (l : List RR) : (ranksL l).length = l.length := mkL_len _ _
theorem ranksL_ok (l : List RR) : ∀ r ∈ ranksL l, r.ok := mkL_ok _ _
theorem ranksL_sz {l : List RR} (h : l.length ≤ 1000) : ∀ r ∈ ranksL l, r.sz ≤ 1000 := mkL_sz fun i _ => Nat.le_trans (rs_rank _ h i) (by omega)
def rkC (a b : List RR) : Rat := covQ (ranksL a) (ranksL b)
theorem errC_ranks (a b : List RR) : errC (ranksL a) (ranksL b) = errP a b := by unfold errC errP; rw [ranksL_len, ranksL_len]
theorem rs_rkC {a b : List RR} (ha : a.length ≤ 1000) (hb : b.length ≤ 1000) : rs (rkC a b) ≤ 2200002000 :=
  rs_covQ (offs_bound (ranksL_ok a) ⟨by rw [ranksL_len]; exact ha, ranksL_sz ha⟩) (offs_bound (ranksL_ok b) ⟨by rw [ranksL_len]; exact hb, ranksL_sz hb⟩) (by rw [ranksL_len]; exact ha)
def speQ (a b : List RR) : Rat := if errP a b = 0 then rkC a b * rkC a b / (rkC a a * rkC b b) else 0
def speS (a b : List RR) : Int := if errP a b = 0 then (if rkC a a * rkC b b = 0 then 0 else cmpQ (rkC a b) 0) else 0
def speE (a b : List RR) : Int := if errP a b = 0 then (if rkC a a * rkC b b = 0 then 5 else 0) else errP a b
def ratIntsV (r : RR) (m n : Int) : AV := .tup [.agg (ratCells r), .cel (.int .i64 m), .cel (.int .i64 n)]
attribute [go_sem] ratIntsV
theorem div_zero' (x : Rat) : x / 0 = 0 := by rw [Rat.div_def, Rat.inv_zero, Rat.mul_zero]

def d_rank_Spearman : Den := den2 aRats aRats (fun a b => (a.length ≤ 1000 ∧ ∀ r ∈ a, r.sz ≤ 1000) ∧ b.length ≤ 1000 ∧ ∀ r ∈ b, r.sz ≤ 1000) fun a b => ratIntsV (cr (speQ a b)) (speS a b) (speE a b)
end Go.Proofs.Ytifnpelkoklcnaa
