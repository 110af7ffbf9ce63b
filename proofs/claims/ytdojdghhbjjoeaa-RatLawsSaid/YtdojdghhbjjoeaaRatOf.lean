/- Contracts of rat.Of, rat.Norm. Conditions: at most 10^11 limbs. -/
import Derived.Test.YtdojdghhbjjoeaaRatWords
namespace Go.Proofs.Ytdojdghhbjjoeaa
open Go.RowKit

set_option maxRecDepth 100000 in
set_option maxHeartbeats 1000000 in
theorem ratOf (w : World) (s : Bool) (v1 v2 : Value) (xs ys : List Nat) (b1 b2 : Nat) (h1 : Nt b1 w v1 xs) (h2 : Nt b2 w v2 ys) (hL1 : xs.length ≤ 1000000000000) (hL2 : ys.length ≤ 1000000000000) :
    Calls Try.prog 59 #[.bool s, v1, v2] w (RetRat (qv s (val xs) (val ys)) w) := by
  have l1 := limbs_len_val h1.lt
  have l2 := limbs_len_val h2.lt
  have G1 := Lib.hid (fun w1 (hb : Below w.heap.size w w1) => natTrimC w1 v1 xs b1 (h1.below hb (Nat.le_refl _)) (by omega))
  have G2 := Lib.hid (fun w1 (hb : Below w.heap.size w w1) => natTrimC w1 v2 ys b2 (h2.below hb (Nat.le_refl _)) (by omega))
  clear h1 h2
  generalize val xs = m at *
  generalize val ys = n at *
  generalize xs.length = n1 at *
  generalize ys.length = n2 at *
  have hm : (limbs m).length ≤ 1000000000000 := by omega
  have hn : (limbs n).length ≤ 1000000000000 := by omega
  clear hL1 hL2 l1 l2
  by_cases hz : m = 0 ∨ n = 0
  · have hq : qv s m n = 0 := by
      rcases hz with h | h
      · subst h; exact qv_zero_num _ _
      · subst h; exact qv_zero_den _ _
    rw [hq]
    clear hq
    have C1 := Lib.hid (fun w1 => natOf w1 1 (by omega))
    have hT : ((((limbs m).length : Int) == 0) = true) ∨ (((((limbs m).length : Int) == 0) = false) ∧ ((((limbs n).length : Int) == 0) = true)) := by
      by_cases h : m = 0
      · subst h; left; rfl
      · right
        rcases hz with h' | h'
        · exact absurd h' h
        · subst h'
          exact ⟨beq_eq_false_iff_ne.2 fun hc => h (limbs_len_zero.1 (by omega)), rfl⟩
    clear hz
    unfold RetNat at G1 G2
    generalize limbs m = A at *
    generalize limbs n = C at *
    rcases hT with hT | ⟨hT, hT2⟩
    all_goals
      go_enter Try.func59, Try.ntmps59
      go_wp2_with fail
      have hb0 : Below w.heap.size w (w.alloc (.cells #[.bool false, .slice none 0 0, .slice none 0 0] 24)) := (Below.refl _ _).alloc (Nat.le_refl _) _
      have hB0 := Box3.new 24 w (.bool false) (.slice none 0 0) (.slice none 0 0)
      generalize (w.alloc (.cells #[.bool false, .slice none 0 0, .slice none 0 0] 24)) = w0 at *
      have hg0 : w.heap.size < w0.heap.size := hB0.cells.2.2.2.2.2.2
      refine (G1.out w0 hb0).mono ?_
      rintro e w1 ⟨u1, rfl, t1, hb1⟩
      obtain ⟨ao1, c1, rfl, hc1⟩ := t1.open
      go_wp2_with fail
      have hb01 := bthen hb0 hb1
      have hB1 := hB0.below hb1 hg0
      refine (G2.out w1 hb01).mono ?_
      rintro e w2 ⟨u2, rfl, t2, hb2⟩
      obtain ⟨ao2, c2, rfl, hc2⟩ := t2.open
      have hg1 : w.heap.size < w1.heap.size := Nat.lt_of_lt_of_le hg0 hb1.size
      have hB2 := hB1.below hb2 hg1
      have hb02 := bthen hb01 hb2
      have hg2 : w.heap.size < w2.heap.size := Nat.lt_of_lt_of_le hg1 hb2.size
      clear G1 G2 t1 t2 hB0 hB1 hb0 hb01 hb1 hb2
      go_wp2_with fail
      refine (C1.out w2).mono ?_
      rintro e w3 ⟨u3, rfl, t3, hb3⟩
      obtain ⟨ao3, c3, rfl, hc3⟩ := t3.open
      have hB3 := hB2.below hb3 hg2
      have hb03 := bthen hb02 hb3
      obtain ⟨k0, k1, k2, f0, f1, f2, _⟩ := hB3.cells
      clear hB2 hb02 C1
      go_wp2
      obtain ⟨r0, r1, r2, _⟩ := (hB3.stored (.bool false) (.slice none 0 0) (.slice ao3 (limbs 1).length c3)).cells
      exact bodyPost_ret (v := .agg #[.bool false, .slice none 0 0, .slice ao3 (limbs 1).length c3]) (by simp [results, Try.results59, go_sem, r0, r1, r2]) rfl
        ⟨_, rfl, ⟨_, _, rfl, Nt.nil _ _, (t3.set3 hg2).mono (Nat.le_of_lt hg2)⟩, below_set3 hb03 (Nat.le_refl _)⟩
  · have hm0 : m ≠ 0 := fun h => hz (.inl h)
    have hn0 : n ≠ 0 := fun h => hz (.inr h)
    obtain ⟨e1, e2, e3⟩ := nm_qv s m n hm0 hn0
    have hT1 : (((limbs m).length : Int) == 0) = false := beq_eq_false_iff_ne.2 fun hc => hm0 (limbs_len_zero.1 (by omega))
    have hT2 : (((limbs n).length : Int) == 0) = false := beq_eq_false_iff_ne.2 fun hc => hn0 (limbs_len_zero.1 (by omega))
    have CG := Lib.hid (fun w1 v1 v2 b1 b2 h1 h2 => natGcd w1 v1 v2 (limbs m) (limbs n) b1 b2 h1 h2 hm hn)
    have hgl : (limbs (Nat.gcd m n)).length ≤ 1000000000000 := Nat.le_trans (limbs_len_mono (Nat.le_of_dvd (Nat.pos_of_ne_zero hm0) (Nat.gcd_dvd_left m n))) hm
    have CM := Lib.hid (fun w1 v1 v2 b1 b2 h1 h2 => natDivMod w1 v1 v2 (limbs m) (limbs (Nat.gcd m n)) b1 b2 h1 h2 hm hgl)
    have CN := Lib.hid (fun w1 v1 v2 b1 b2 h1 h2 => natDivMod w1 v1 v2 (limbs n) (limbs (Nat.gcd m n)) b1 b2 h1 h2 hn hgl)
    rw [val_limbs, val_limbs] at CG CM CN
    have HRet : ∀ w' v1 v2, Nt w.heap.size w' v1 (limbs (m / Nat.gcd m n)) → Nt w.heap.size w' v2 (limbs (n / Nat.gcd m n)) → RatC w.heap.size w' (.agg #[.bool s, v1, v2]) (qv s m n) := by
      intro w' v1 v2 h1 h2
      exact ⟨v1, v2, by rw [e3], by rw [e1]; exact h1, by rw [e2]; exact h2⟩
    have HR := Lib.hid HRet
    unfold RetNat at G1 G2 CG
    unfold RetDivMod at CM CN
    clear hz e1 e2 e3 HRet hgl hm hn
    generalize limbs (m / Nat.gcd m n) = QM at *
    generalize limbs (n / Nat.gcd m n) = QN at *
    generalize limbs (Nat.gcd m n) = GG at *
    generalize limbs m = A at *
    generalize limbs n = C at *
    go_enter Try.func59, Try.ntmps59
    go_wp2_with fail
    have hb0 : Below w.heap.size w (w.alloc (.cells #[.bool false, .slice none 0 0, .slice none 0 0] 24)) := (Below.refl _ _).alloc (Nat.le_refl _) _
    have hB0 := Box3.new 24 w (.bool false) (.slice none 0 0) (.slice none 0 0)
    generalize (w.alloc (.cells #[.bool false, .slice none 0 0, .slice none 0 0] 24)) = w0 at *
    have hg0 : w.heap.size < w0.heap.size := hB0.cells.2.2.2.2.2.2
    refine (G1.out w0 hb0).mono ?_
    rintro e w1 ⟨u1, rfl, t1, hb1⟩
    obtain ⟨ao1, c1, rfl, hc1⟩ := t1.open
    go_wp2_with fail
    have hb01 := bthen hb0 hb1
    have hB1 := hB0.below hb1 hg0
    refine (G2.out w1 hb01).mono ?_
    rintro e w2 ⟨u2, rfl, t2, hb2⟩
    obtain ⟨ao2, c2, rfl, hc2⟩ := t2.open
    have hg1 : w.heap.size < w1.heap.size := Nat.lt_of_lt_of_le hg0 hb1.size
    have hB2 := hB1.below hb2 hg1
    have hb02 := bthen hb01 hb2
    have hg2 : w.heap.size < w2.heap.size := Nat.lt_of_lt_of_le hg1 hb2.size
    replace t1 := (t1.below hb2 (Nat.le_refl _)).mono hg0
    replace t2 := t2.mono hg1
    clear G1 G2 hB0 hB1 hb0 hb01 hb1 hb2
    go_wp2_with fail
    refine (CG.out w2 _ _ _ _ t1 t2).mono ?_
    rintro e w3 ⟨u3, rfl, t3, hb3⟩
    obtain ⟨ao3, c3, rfl, hc3⟩ := t3.open
    have hB3 := hB2.below hb3 hg2
    have hb03 := bthen hb02 hb3
    have hg3 : w.heap.size < w3.heap.size := Nat.lt_of_lt_of_le hg2 hb3.size
    replace t1 := t1.below hb3 (Nat.le_refl _)
    replace t2 := t2.below hb3 (Nat.le_refl _)
    replace t3 := t3.mono hg2
    clear hB2 hb02 hb3
    go_wp2_with fail
    refine (CM.out w3 _ _ _ _ t1 t3).mono ?_
    rintro e w4 ⟨u4, u4', rfl, t4, _, hb4⟩
    obtain ⟨ao4, c4, rfl, hc4⟩ := t4.open
    have hB4 := hB3.below hb4 hg3
    have hb04 := bthen hb03 hb4
    have hg4 : w.heap.size < w4.heap.size := Nat.lt_of_lt_of_le hg3 hb4.size
    replace t2 := t2.below hb4 (Nat.le_refl _)
    replace t3 := t3.below hb4 (Nat.le_refl _)
    replace t4 := t4.mono hg3
    clear hB3 hb03 hb4
    go_wp2_with fail
    refine (CN.out w4 _ _ _ _ t2 t3).mono ?_
    rintro e w5 ⟨u5, u5', rfl, t5, _, hb5⟩
    obtain ⟨ao5, c5, rfl, hc5⟩ := t5.open
    have hB5 := hB4.below hb5 hg4
    have hb05 := bthen hb04 hb5
    replace t4 := t4.below hb5 (Nat.le_refl _)
    replace t5 := t5.mono hg4
    obtain ⟨k0, k1, k2, f0, f1, f2, _⟩ := hB5.cells
    clear hB4 hb04 hb5
    go_wp2
    obtain ⟨r0, r1, r2, _⟩ := (hB5.stored (.bool s) (.slice ao4 QM.length c4) (.slice ao5 QN.length c5)).cells
    exact bodyPost_ret (v := .agg #[.bool s, .slice ao4 QM.length c4, .slice ao5 QN.length c5]) (by simp [results, Try.results59, go_sem, r0, r1, r2]) rfl
      ⟨_, rfl, HR.out _ _ _ ((t4.set3 (Nat.lt_succ_self _)).mono (Nat.le_succ _)) ((t5.set3 (Nat.lt_succ_self _)).mono (Nat.le_succ _)), below_set3 hb05 (Nat.le_refl _)⟩

end Go.Proofs.Ytdojdghhbjjoeaa
