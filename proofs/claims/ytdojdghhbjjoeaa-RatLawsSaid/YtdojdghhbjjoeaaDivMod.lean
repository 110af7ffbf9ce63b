/- Contracts of nat.DivMod and nat.Gcd. Condition: at most 10^12 limbs each. -/
import Derived.Test.YtdojdghhbjjoeaaLongWalk
import Derived.Test.YtdojdghhbjjoeaaSmall
namespace Go.Proofs.Ytdojdghhbjjoeaa
open Go.RowKit

/-- What a division answers: quotient and rest in new memory; nought twice and false if the divisor is 0. -/
def RetDivMod (m n : Nat) (w : World) (e : Ending) (w' : World) : Prop :=
  ∃ v u, e = .returned (.tuple #[v, u, .bool (decide (n ≠ 0))]) ∧ Nt w.heap.size w' v (limbs (m / n)) ∧ Nt w.heap.size w' u (limbs (if n = 0 then 0 else m % n)) ∧ Below w.heap.size w w'

theorem one_limb {n : Nat} (h : (limbs n).length = 1) : (limbs n).getD 0 0 = n ∧ 0 < n ∧ n < 4294967296 := by
  have h0 : 0 < n := by
    rcases Nat.eq_zero_or_pos n with h' | h'
    · subst h'; simp [limbs_zero] at h
    · exact h'
  have h1 := lt_of_limbs_len (Nat.le_of_eq h)
  rw [limbs_pos h0]
  simp only [Nat.pow_one] at h1
  exact ⟨by simpa using Nat.mod_eq_of_lt h1, h0, h1⟩

set_option maxRecDepth 100000 in
set_option maxHeartbeats 1000000 in
theorem natDivMod (w : World) (v1 v2 : Value) (xs ys : List Nat) (b1 b2 : Nat) (h1 : Nt b1 w v1 xs) (h2 : Nt b2 w v2 ys) (hL1 : xs.length ≤ 1000000000000) (hL2 : ys.length ≤ 1000000000000) :
    Calls Try.prog 78 #[v1, v2] w (RetDivMod (val xs) (val ys) w) := by
  obtain ⟨ao1, c1, rfl, hc1⟩ := h1.open
  obtain ⟨ao2, c2, rfl, hc2⟩ := h2.open
  have l1 := limbs_len_val h1.lt
  have l2 := limbs_len_val h2.lt
  have t1 := h1.trim
  have t2 := h2.trim
  have G1 := Lib.hid (natTrim w ao1 xs.length c1 xs b1 _ h1 (by omega) rfl)
  have G2 := Lib.hid (natTrim w ao2 ys.length c2 ys b2 _ h2 (by omega) rfl)
  clear h1 h2
  generalize val xs = m at *
  generalize val ys = n at *
  generalize xs.length = n1 at *
  generalize ys.length = n2 at *
  by_cases hn0 : n = 0
  · subst hn0
    rw [limbs_zero] at t2 G2
    have hz : ((([] : List Nat).length : Int) == 0) = true := by decide
    clear t1 t2 l1
    go_enter Try.func78, Try.ntmps78
    go_wp2_with (first | ((with_reducible refine G1.out.mono ?_); rintro e w1 ⟨rfl, rfl⟩) | ((with_reducible refine G2.out.mono ?_); rintro e w1 ⟨rfl, rfl⟩))
    go_ret3
    exact ⟨_, _, rfl, by rw [Nat.div_zero]; exact Nt.nil _ _, by rw [if_pos rfl]; exact Nt.nil _ _, Below.refl _ _⟩
  · have hl0 : (limbs n).length ≠ 0 := fun h => hn0 (limbs_len_zero.1 h)
    have hz : (((limbs n).length : Int) == 0) = false := beq_eq_false_iff_ne.2 (by omega)
    have hde : decide (n ≠ 0) = true := by simp; exact hn0
    have hif : (if n = 0 then 0 else m % n) = m % n := if_neg hn0
    have HRet : ∀ (e : Ending) (w' : World), (∃ v u, e = .returned (.tuple #[v, u, .bool true]) ∧ Nt w.heap.size w' v (limbs (m / n)) ∧ Nt w.heap.size w' u (limbs (m % n)) ∧ Below w.heap.size w w') → RetDivMod m n w e w' := by
      rintro e w' ⟨v, u, rfl, h1, h2, h3⟩
      exact ⟨v, u, by rw [hde], h1, by rw [hif]; exact h2, h3⟩
    have HR := Lib.hid HRet
    clear HRet hde hif
    have CC := Lib.hid (natCmp w _ _ (limbs m) (limbs n) b1 b2 t1 t2 (by omega) (by omega))
    rw [val_limbs, val_limbs] at CC
    unfold RetCmp at CC
    by_cases hlt : m < n
    · have e3 : decide (cmpI m n < 0) = true := by simp only [cmpI_lt_zero]; simp; exact hlt
      have CT := Lib.hid (fun w1 (hb : Below w.heap.size w w1) => natTrimC w1 _ (limbs m) b1 (t1.below hb (Nat.le_refl _)) (by omega))
      rw [val_limbs] at CT
      have hd : m / n = 0 := Nat.div_eq_of_lt hlt
      have hm : m % n = m := Nat.mod_eq_of_lt hlt
      rw [hd, hm] at HR
      clear hd hm t1 t2
      generalize cmpI m n = c at *
      generalize limbs n = C at *
      go_enter Try.func78, Try.ntmps78
      go_wp2_with (first | ((with_reducible refine G1.out.mono ?_); rintro e w1 ⟨rfl, rfl⟩) | ((with_reducible refine G2.out.mono ?_); rintro e w1 ⟨rfl, rfl⟩) | ((with_reducible refine CC.out.mono ?_); rintro e w1 ⟨rfl, hb1⟩) | ((with_reducible refine (CT.out _ hb1).mono ?_); rintro e w2 ⟨v2, rfl, hn2, hb2⟩))
      go_ret3
      exact HR.out _ _ ⟨_, _, rfl, Nt.nil _ _, hn2.mono hb1.size, bthen hb1 hb2⟩
    · have e3 : decide (cmpI m n < 0) = false := by simp only [cmpI_lt_zero]; simp; omega
      by_cases hone : (limbs n).length = 1
      · obtain ⟨hv, hn1, hn2⟩ := one_limb hone
        have hone' : (((limbs n).length : Int) == 1) = true := beq_iff_eq.2 (by omega)
        obtain ⟨b4, off4, rfl, _, hb4, hc4⟩ := t2.at_some (k := 0) (by omega)
        have hd := hc4 0 (by omega)
        rw [hv, Nat.add_zero] at hd
        have CS := Lib.hid (fun w1 (hb : Below w.heap.size w w1) => natSmall w1 _ (limbs m) b1 n (t1.below hb (Nat.le_refl _)) hn1 hn2 (by omega))
        have CO := Lib.hid (fun w1 => natOf w1 (m % n) (by have := Nat.mod_lt m hn1; omega))
        rw [val_limbs] at CS
        have hm2 : m % n < n := Nat.mod_lt _ hn1
        have hpos : 0 < (limbs n).length := by omega
        generalize hr : m % n = r at *
        generalize m / n = q at *
        clear hr
        generalize cmpI m n = c at *
        generalize limbs n = C at *
        clear hv t1 t2 hc4 hL2 l2 hone hl0
        go_enter Try.func78, Try.ntmps78
        go_wp2_with (first | ((with_reducible refine G1.out.mono ?_); rintro e w1 ⟨rfl, rfl⟩) | ((with_reducible refine G2.out.mono ?_); rintro e w1 ⟨rfl, rfl⟩) | ((with_reducible refine CC.out.mono ?_); rintro e w1 ⟨rfl, hb1⟩; have hd1 := cell_later hb1 hd) | ((with_reducible refine (CS.out _ hb1).mono ?_); rintro e w2 ⟨v2, rfl, hn2', hb2⟩))
        refine (CO.out w2).mono ?_
        rintro e w3 ⟨v3, rfl, hn3, hb3⟩
        go_wp2
        go_ret3
        exact HR.out _ _ ⟨_, _, rfl, (hn2'.mono hb1.size).below hb3 (Nat.le_refl _), hn3.mono (Nat.le_trans hb1.size hb2.size), bthen (bthen hb1 hb2) hb3⟩
      · have hone' : (((limbs n).length : Int) == 1) = false := beq_eq_false_iff_ne.2 (by omega)
        have CL := Lib.hid (fun w1 (hb : Below w.heap.size w w1) => natLong w1 _ _ m n b1 b2 (t1.below hb (Nat.le_refl _)) (t2.below hb (Nat.le_refl _)) (by omega) (limbs_len_mono (by omega)) (by omega))
        generalize m % n = r at *
        generalize m / n = q at *
        generalize cmpI m n = c at *
        generalize limbs n = C at *
        generalize limbs m = A at *
        clear t1 t2 hL2 l2 hone hl0
        go_enter Try.func78, Try.ntmps78
        go_wp2_with (first | ((with_reducible refine G1.out.mono ?_); rintro e w1 ⟨rfl, rfl⟩) | ((with_reducible refine G2.out.mono ?_); rintro e w1 ⟨rfl, rfl⟩) | ((with_reducible refine CC.out.mono ?_); rintro e w1 ⟨rfl, hb1⟩) | ((with_reducible refine (CL.out _ hb1).mono ?_); rintro e w2 ⟨v2, u2, rfl, hn2, hn3, hb2⟩))
        go_ret3
        exact HR.out _ _ ⟨_, _, rfl, hn2.mono hb1.size, hn3.mono hb1.size, bthen hb1 hb2⟩

end Go.Proofs.Ytdojdghhbjjoeaa
