/- Package exps: e to a power, as the program reckons it. Conditions: rows as each one says. -/
import Derived.Test.YtjfaefgabaimaaaGreatMa
import Derived.Test.YtjfaefgabaimaaaGreatPe
import Derived.Test.YtjfaefgabaimaaaGreatAu
namespace Go.Proofs.YtjfaefgabaimaaaGreat
open Go.RowKit
set_option linter.unusedSimpArgs false
set_option linter.unusedVariables false
theorem blen_small (m : Nat) : decide (((blen m : Nat) : Int) ≤ 1) = decide (m ≤ 1) := by
  refine decide_eq_decide.2 ⟨fun h => ?_, fun h => ?_⟩
  · have h1 := blen_lt m
    have h2 : 2 ^ blen m ≤ 2 ^ 1 := Nat.pow_le_pow_right (by omega) (by omega)
    omega
  · rcases Nat.lt_or_ge (blen m) 2 with h1 | h1
    · omega
    · have hm : m ≠ 0 := by rintro rfl; rw [blen_zero] at h1; omega
      have h2 := blen_le hm
      have h3 : 2 ^ 1 ≤ 2 ^ (blen m - 1) := Nat.pow_le_pow_right (by omega) (by omega)
      omega
def u64V (n : Int) : AV := .one (.cel (.int .u64 n))
/-- a box with two rows -/
def boxSp (id : Nat) (x : List Nat) (y : List Nat) : AS := [(id, 0, .av (.one (.cel (.ptr id 0)))), (id, 1, .cv (.lim none x)), (id, 2, .cv (.lim none y))]
def boxNil (id : Nat) : AS := [(id, 0, .av (.one (.cel (.ptr id 0)))), (id, 1, .cv .nil), (id, 2, .cv .nil)]
theorem sp_fold (p : Nat × Nat) : (⟨limbs p.1, limbs p.2⟩ : SpL) = spN p := rfl
theorem sp_eta (s : SpL) : (⟨s.lo, s.hi⟩ : SpL) = s := rfl
theorem spN_lo (p : Nat × Nat) : (spN p).lo = limbs p.1 := rfl
theorem spN_hi (p : Nat × Nat) : (spN p).hi = limbs p.2 := rfl
theorem toNat_succ (j : Nat) : ((j : Int) + 1).toNat = j + 1 := by omega
theorem spN_sz {p : Nat × Nat} {L : Nat} (h1 : (limbs p.1).length ≤ L) (h2 : (limbs p.2).length ≤ L) : (spN p).sz ≤ L := Nat.max_le.2 ⟨h1, h2⟩
theorem u64_wrap {n : Int} (h0 : 0 ≤ n) (h1 : n < 18446744073709551616) : IntKind.u64.wrap n = n := by
  show n % 18446744073709551616 = n
  omega
attribute [go_sem] u64V boxSp boxNil sp_fold sp_eta spN_v spN_lo spN_hi toNat_succ
def boxRat (id : Nat) (r : RR) : AS := [(id, 0, .av (.one (.cel (.ptr id 0)))), (id, 1, .cv (.bool r.s)), (id, 2, .cv (.lim none r.n)), (id, 3, .cv (.lim none r.d))]
attribute [go_sem] boxRat
/-- the ball between two whole numbers by 2 to a power -/
def eB (f p : Nat) : BB := bb (qv false f (2 ^ p)) (qv false (f + 1) (2 ^ p))
structure CerI (n : Nat) where
  i : Nat
  le : i ≤ n
def boxBall (id : Nat) : AS := [(id, 0, .av (.one (.cel (.ptr id 0)))), (id, 1, .cv (.bool false)), (id, 2, .cv .nil), (id, 3, .cv .nil), (id, 4, .cv (.bool false)), (id, 5, .cv .nil), (id, 6, .cv .nil)]
attribute [go_sem] boxBall floorV
theorem rat_num (q : Rat) : q * ((q.den : Nat) : Rat) = (q.num : Rat) := by rw [Rat.mul_comm]; exact P.rat_den q
theorem sg_nm (q : Rat) : (if ng q = true then -(((nm q : Nat) : Rat)) else ((nm q : Nat) : Rat)) = (q.num : Rat) := by
  unfold ng nm
  by_cases h : q.num < 0
  · rw [if_pos (decide_eq_true h)]
    rw [show ((q.num.natAbs : Nat) : Rat) = ((((q.num.natAbs : Nat) : Int)) : Rat) from rfl, ← Rat.intCast_neg]
    congr 1; omega
  · rw [if_neg (by simpa using h)]
    rw [show ((q.num.natAbs : Nat) : Rat) = ((((q.num.natAbs : Nat) : Int)) : Rat) from rfl]
    congr 1; omega
end Go.Proofs.YtjfaefgabaimaaaGreat
