/- What the laws of balls ask, as the walk spells it. No condition. -/
import Derived.Test.YtifnpelkoklcnaaBh
namespace Go.Proofs.Ytifnpelkoklcnaa
open Go.RowKit

theorem hasB_of {l h q : Rat} (h1 : l ≤ q) (h2 : q ≤ h) : hasB l h q = true := by unfold hasB; rw [decide_eq_true h1, decide_eq_true h2]; rfl
theorem has_self {l h : Rat} (k : l ≤ h) : (hasB l h l && hasB l h h) = true := by rw [hasB_of Rat.le_refl k, hasB_of k Rat.le_refl]; rfl
theorem isB_cr {l h : Rat} (k : l ≤ h) : isB ⟨cr l, cr h⟩ = true := by
  unfold isB
  simp only [cr_q, oneB_cr, decide_true, Bool.true_and, decide_eq_true k]
theorem meet_facts {a b : BB} (ha : a.lo.q ≤ a.hi.q) (hb : b.lo.q ≤ b.hi.q) (h : sideI a b = 0) :
    isB ⟨cr (meetLo a b), cr (meetHi a b)⟩ = true ∧ (hasB a.lo.q a.hi.q (meetLo a b) && hasB a.lo.q a.hi.q (meetHi a b)) = true ∧ (hasB b.lo.q b.hi.q (meetLo a b) && hasB b.lo.q b.hi.q (meetHi a b)) = true := by
  obtain ⟨k1, k2⟩ := side_zero.1 h
  have e1 : meetLo a b = mx a.lo.q b.lo.q := by unfold meetLo; rw [if_pos h]
  have e2 : meetHi a b = mn a.hi.q b.hi.q := by unfold meetHi; rw [if_pos h]
  rw [e1, e2]
  have m1 := le_mx_left a.lo.q b.lo.q
  have m2 := le_mx_right a.lo.q b.lo.q
  have m3 := mn_le_left a.hi.q b.hi.q
  have m4 := mn_le_right a.hi.q b.hi.q
  have m5 : mx a.lo.q b.lo.q ≤ mn a.hi.q b.hi.q := mx_le (le_mn ha k2) (le_mn k1 hb)
  refine ⟨isB_cr m5, ?_, ?_⟩
  · rw [hasB_of m1 (Rat.le_trans m5 m3), hasB_of (Rat.le_trans m1 m5) m3]; rfl
  · rw [hasB_of m2 (Rat.le_trans m5 m4), hasB_of (Rat.le_trans m2 m5) m4]; rfl
theorem trim_in {l h : Rat} (k : l ≤ h) (p : Nat) : (hasB (dn l p) (up h p) l && hasB (dn l p) (up h p) h) = true := by
  have h1 := dn_le l p
  have h2 := le_up h p
  rw [hasB_of h1 (Rat.le_trans k h2), hasB_of (Rat.le_trans h1 k) h2]; rfl
theorem hold_nat {p : Int} (h0 : 0 ≤ p) (h1 : p ≤ 512) : hold p = p.toNat := by unfold hold; omega
theorem unitP_eq (p : Nat) : qv false 1 (2 ^ p) = unitP p := rfl
theorem side_bound (a b : BB) : -1 ≤ sideI a b ∧ sideI a b ≤ 1 := by unfold sideI; split; exact ⟨by omega, by omega⟩; split <;> exact ⟨by omega, by omega⟩
theorem rs_meetLo {a b : BB} {K : Nat} (h1 : rs a.lo.q ≤ K) (h2 : rs b.lo.q ≤ K) (hK : 1 ≤ K) : rs (meetLo a b) ≤ K := by unfold meetLo; split; exact rsb_mx h1 h2; exact rs0 hK
theorem rs_meetHi {a b : BB} {K : Nat} (h1 : rs a.hi.q ≤ K) (h2 : rs b.hi.q ≤ K) (hK : 1 ≤ K) : rs (meetHi a b) ≤ K := by unfold meetHi; split; exact rsb_mn h1 h2; exact rs0 hK

end Go.Proofs.Ytifnpelkoklcnaa
