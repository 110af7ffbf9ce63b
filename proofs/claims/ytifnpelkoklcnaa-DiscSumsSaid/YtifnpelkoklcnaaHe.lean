/- vernierref9.Choose; vernierref13: bad, powers, parts, Binom, BinomCdf, BinomTwo, by the abstract walk. Conditions: numbers of at most 1000 limbs. vernierref13: parts, Binom, BinomCdf, BinomTwo, by the abstract walk. Conditions: numbers of at most 1000 limbs. -/
import Derived.Test.YtifnpelkoklcnaaHc
namespace Go.Proofs.Ytifnpelkoklcnaa
open Go.RowKit
set_option linter.unusedSimpArgs false
set_option linter.unusedVariables false

theorem nm_qv_one (m : Nat) : nm (qv false m 1) = m := by
  obtain ⟨p1, _⟩ := qv_parts false m 1 (by omega)
  unfold nm
  rw [p1, Nat.gcd_one_right, Nat.div_one]
  unfold sg
  simp
theorem choose_next (m j : Nat) : ch (m + j) j * (m + j + 1) / (j + 1) = ch (m + (j + 1)) (j + 1) := by
  have h := ch_mul (m + j) j
  rw [Nat.mul_comm] at h
  rw [h]
  exact Nat.mul_div_cancel _ (by omega)
theorem ll_ch {n k : Nat} (hn : n ≤ 256) : (limbs (ch n k)).length ≤ 257 := Nat.le_trans (ll_mono (ch_le n k)) (Nat.le_trans (ll_pow_le (K := 1) (M := 256) (by rw [ll_two]; omega) hn) (by omega))
def partsV (l : List (List Nat)) (m : Nat) : AV := .tup [.cel (.sl none 1 (l.map celLim.uc)), .cel (.lim none (limbs m))]
attribute [go_sem] partsV

def d_ref9_Choose : Den := den2 aInt aInt (fun n k => 0 ≤ k ∧ k ≤ n ∧ n ≤ 256) fun n k => ratV (cr (qv false (ch n.toNat k.toNat) 1))
def d_ref13_bad : Den := den2 aInt aRat (fun _ x => x.sz ≤ 1000000000) fun n x => boolV (!tryB n x.q)
def fz_ref13_powers : Nat → List Nat
  | 12 => [1005]
  | 1000003 => [8]
  | _ => []

def d_ref13_powers : Den := den2 aLim aInt (fun x n => x.length ≤ 1000 ∧ 0 ≤ n ∧ n ≤ 256) fun x n => rowV celLim (natRow (fun i => val x ^ i) (n.toNat + 1))
end Go.Proofs.Ytifnpelkoklcnaa

namespace Go.Proofs.Ytifnpelkoklcnaa
open Go.RowKit
set_option linter.unusedSimpArgs false
set_option linter.unusedVariables false

def fz_ref13_parts : Nat → List Nat
  | 18 => [1012]
  | _ => []

def d_ref13_parts : Den := den2 aInt aRat (fun n x => (0 ≤ n ∧ n ≤ 256) ∧ (0 ≤ x.q ∧ x.q ≤ 1) ∧ x.sz ≤ 1000) fun n x => partsV (natRow (binN x.q n.toNat) (n.toNat + 1)) (x.q.den ^ n.toNat)
end Go.Proofs.Ytifnpelkoklcnaa
