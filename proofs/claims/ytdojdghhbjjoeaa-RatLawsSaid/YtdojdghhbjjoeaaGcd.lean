/- Contract of nat.Gcd. Condition: at most 10^12 limbs each. -/
import Derived.Test.YtdojdghhbjjoeaaDivMod
import Derived.Deep.LoopGhost
namespace Go.Proofs.Ytdojdghhbjjoeaa
open Go.RowKit

set_option maxRecDepth 100000 in
set_option maxHeartbeats 1000000 in
theorem natGcd (w : World) (v1 v2 : Value) (xs ys : List Nat) (b1 b2 : Nat) (h1 : Nt b1 w v1 xs) (h2 : Nt b2 w v2 ys) (hL1 : xs.length ≤ 1000000000000) (hL2 : ys.length ≤ 1000000000000) :
    Calls Try.prog 94 #[v1, v2] w (RetNat (Nat.gcd (val xs) (val ys)) w) := by
  have l1 := limbs_len_val h1.lt
  have l2 := limbs_len_val h2.lt
  have G1 := Lib.hid (natTrimC w v1 xs b1 h1 (by omega))
  have G2 := Lib.hid (fun w1 (hb : Below w.heap.size w w1) => natTrimC w1 v2 ys b2 (h2.below hb (Nat.le_refl _)) (by omega))
  clear h1 h2
  generalize val xs = m at *
  generalize val ys = n at *
  generalize xs.length = n1 at *
  generalize ys.length = n2 at *
  have hm : (limbs m).length ≤ 1000000000000 := by omega
  have hn : (limbs n).length ≤ 1000000000000 := by omega
  clear hL1 hL2 l1 l2
  go_enter Try.func94, Try.ntmps94
  go_wp2_with fail
  refine G1.out.mono ?_
  rintro e w1 ⟨u1, rfl, t1, hb1⟩
  go_wp2_with fail
  refine (G2.out w1 hb1).mono ?_
  rintro e w2 ⟨u2, rfl, t2, hb2⟩
  replace t1 := t1.below hb2 (Nat.le_refl _)
  replace t2 := t2.mono hb1.size
  have hb := bthen hb1 hb2
  clear hb1 hb2 G1 G2
  go_wp2
  generalize hg : w.heap.size = g0 at *
  have HG := Lib.hid hg
  clear hg
  go_loopg [0, 1] n (fun g s0 s1 wr => ∃ p q : Nat, g = q ∧ Nt g0 wr s0 (limbs p) ∧ Nt g0 wr s1 (limbs q) ∧ Hid (Nat.gcd p q = Nat.gcd m n) ∧ (limbs p).length ≤ 1000000000000 ∧ (limbs q).length ≤ 1000000000000 ∧ Below g0 w wr ∧ g0 ≤ wr.heap.size)
  case atStart => exact ⟨m, n, rfl, t1, t2, rfl, hm, hn, hb, by have := hb.size; have := HG.out; omega⟩
  case round =>
    obtain ⟨p, q, hgq, hp, hq, hpq, lp, lq, hBw, hgs⟩ := hrel
    obtain ⟨ao1, c1, rfl, hc1⟩ := hp.open
    obtain ⟨ao2, c2, rfl, hc2⟩ := hq.open
    by_cases hq0 : q = 0
    · subst hq0
      have hr : p = Nat.gcd m n := by rw [← hpq.out, Nat.gcd_zero_right]
      have HR := Lib.hid hr
      have hz : ((limbs 0).length : Nat) = 0 := rfl
      rw [limbs_zero]
      clear hr hz
      go_wp2
      go_ret
      exact ⟨_, rfl, by rw [HG.out, ← HR.out]; exact hp, by rw [HG.out]; exact hBw⟩
    · have hl0 : 0 < (limbs q).length := Nat.pos_of_ne_zero fun h => hq0 (limbs_len_zero.1 h)
      have CD := Lib.hid (natDivMod wr _ _ (limbs p) (limbs q) g0 g0 hp hq lp lq)
      rw [val_limbs, val_limbs] at CD
      have hlt : p % q < q := Nat.mod_lt _ (by omega)
      have hg2 : Nat.gcd q (p % q) = Nat.gcd m n := by rw [← hpq.out, Nat.gcd_comm p q, Nat.gcd_rec q p, Nat.gcd_comm]
      have HG2 := Lib.hid hg2
      have lr : (limbs (p % q)).length ≤ 1000000000000 := Nat.le_trans (limbs_len_mono (Nat.le_of_lt hlt)) lq
      have hif : (if q = 0 then 0 else p % q) = p % q := if_neg hq0
      unfold RetDivMod at CD
      rw [hif] at CD
      have HQ := Lib.hid hgq
      clear hif hg2 hpq hgq
      generalize p % q = r at *
      go_wp2_with (refine CD.out.mono ?_; rintro e w3 ⟨v3, u3, rfl, _, hn3, hb3⟩)
      go_roundg r
      case measure => have := HQ.out; omega
      case rel => exact ⟨q, r, rfl, hq.below hb3 (Nat.le_refl _), hn3.mono hgs, HG2.out, lq, lr, hBw.trans (hb3.mono hgs), Nat.le_trans hgs hb3.size⟩

end Go.Proofs.Ytdojdghhbjjoeaa
