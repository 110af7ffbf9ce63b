/- What the laws of chapter 17 ask. No condition. -/
import Derived.Test.YtifnpelkoklcnaaCd
namespace Go.Proofs.Ytifnpelkoklcnaa
open Go.RowKit

theorem cen_zero {l : List RR} (h : 0 < l.length) : cenQ 0 l = 1 := by
  unfold cenQ
  rw [if_neg (by omega), if_neg (by omega)]
  have e : sumTo (fun i => qpow (atQ l i - meanQ l) (0 : Int).toNat) l.length = ((l.length : Int) : Rat) * 1 := by
    rw [Rat.intCast_natCast, ← sumTo_const]; rfl
  rw [e, Rat.mul_one, Rat.div_def, Rat.mul_inv_cancel _ (natCast_ne h)]
theorem meanQ_eq {l : List RR} (h : 0 < l.length) : meanQ l = meanTo (atQ l) l.length := by unfold meanQ; rw [if_neg (by omega)]
theorem cen_one {l : List RR} (h : 0 < l.length) : cenQ 1 l = 0 := by
  unfold cenQ
  rw [if_neg (by omega), if_neg (by omega)]
  have e : sumTo (fun i => qpow (atQ l i - meanQ l) (1 : Int).toNat) l.length = 0 := by
    rw [meanQ_eq h]
    refine Eq.trans (sumTo_congr fun i _ => ?_) (sum_off (f := atQ l) h)
    show 1 * _ = _
    rw [Rat.one_mul]
  rw [e, Rat.div_def, Rat.zero_mul]
theorem cen_two {l : List RR} (h : 2 ≤ l.length) : cenQ 2 l * (((l.length : Nat) : Int) : Rat) = covQ l l * (((l.length : Int) - 1 : Int) : Rat) := by
  have e1 : cenQ 2 l = offQ l 2 l.length / (((l.length : Nat) : Int) : Rat) := by unfold cenQ; rw [if_neg (by omega), if_neg (by omega)]; rfl
  have e2 : covQ l l = offQ l 2 l.length / (((l.length : Int) - 1 : Int) : Rat) := by unfold covQ; rw [if_pos rfl, if_neg (by omega), off_two]
  rw [e1, e2, Rat.div_mul_cancel (natCast_ne (by omega)), Rat.div_mul_cancel (intQ_ne (by omega))]
theorem errK_ok {l : List RR} (h : 0 < l.length) {k : Int} (h1 : 0 ≤ k) (h2 : k ≤ 8) : errK k l = 0 := by unfold errK; rw [if_neg (by omega), if_neg (by omega)]
theorem errC_ok {l : List RR} (h : 2 ≤ l.length) : errC l l = 0 := by unfold errC; rw [if_pos rfl, if_neg (by omega)]
theorem errD_ok {l : List RR} (h : 0 < l.length) : errD l = 0 := by unfold errD; rw [if_neg (by omega)]

end Go.Proofs.Ytifnpelkoklcnaa
