/- Contracts of vernierref1.Trim, nat.Of, vernierref1.Of. Condition: at most 10^12 limbs. -/
import Derived.Test.YtdojdghhbjjoeaaNat2
namespace Go.Proofs.Ytdojdghhbjjoeaa
open Go.RowKit

set_option maxHeartbeats 400000 in
theorem refTrim (w : World) (v : Value) (xs : List Nat) (base : Nat) (h : Nt base w v xs) (hL : xs.length ≤ 8000000000000) :
    Calls Try.prog 72 #[v] w (RetNat (val xs) w) := by
  have h' := h
  obtain ⟨ao, cap, rfl, hc, hl, h4, h5⟩ := h'
  have hX := Lib.hid hl
  have hN := Lib.hid (rfl : xs.length = xs.length)
  clear h4 h5 hl
  generalize hn : xs.length = n at *
  have HN := Lib.hid hn; clear hn hN
  go_enter Try.func72, Try.ntmps72
  go_wp2
  go_loop [3] (fun v => ∃ k : Nat, k ≤ n ∧ val (xs.take k) = val xs ∧ v = .int .i64 k) (fun v => (intOf v).toNat)
  case atStart => exact ⟨n, Nat.le_refl _, by rw [← HN.out, List.take_length], rfl⟩
  case round =>
    obtain ⟨k, hk, hv, rfl⟩ := hrel
    have hV := Lib.hid hv; clear hv
    have ht := h.take k hk
    by_cases h0 : k = 0
    · subst h0
      have hfin := Lib.hid (take_limbs (k := 0) (by omega) hX.out hV.out (.inl rfl))
      have hb : Below w.heap.size w (w.alloc (.cells #[] 39)) := (Below.refl _ _).alloc (Nat.le_refl _) _
      have hn := ht.below hb (Nat.le_refl _)
      have hown := ownsEmpty 39 w
      go_wp2_with (at_builtin; refine wpList_append_row _ rfl _ _ 22 39 rfl Try.underlying22 Try.infoU32 w.heap.size base 0 _ _ [] (xs.take 0) rfl hown rfl hn (by simp) (by simp) ?_; intro v' w1 ho hg)
      have hnt := Nt.of_owns ho (by simp) (by simp)
      rw [List.nil_append, hfin.out] at hnt
      have hbb := hb.grown hg (by simp) (fun k hk => by cases hk; exact Nat.le_refl _)
      clear ho hg hn hown hb
      go_wp2
      go_ret
      exact ⟨_, rfl, hnt, hbb⟩
    · obtain ⟨b, off, rfl, hb0, hbs, hcell⟩ := h.at_some (k := k - 1) (by have := HN.out; omega)
      have hd := hcell (k - 1) (by have := HN.out; omega)
      have bd := getD_lt hX.out (k - 1)
      by_cases hz : xs.getD (k - 1) 0 = 0
      · rw [hz] at hd
        have hz' := Lib.hid hz; clear hz
        clear hcell
        go_wp2
        go_round
        case rel =>
          refine ⟨k - 1, by omega, ?_, by go_num⟩
          have := HN.out
          exact val_take_zero (by omega) hz'.out (by rw [show k - 1 + 1 = k from by omega]; exact hV.out)
        case measure => simp [intOf]; omega
      · have hfin := Lib.hid (take_limbs (k := k) (by have := HN.out; omega) hX.out hV.out (.inr hz))
        generalize xs.getD (k - 1) 0 = z at *
        have hz1 : ((z : Int) == 0) = false := by simp; omega
        clear hcell
        have hb : Below w.heap.size w (w.alloc (.cells #[] 39)) := (Below.refl _ _).alloc (Nat.le_refl _) _
        have hn := ht.below hb (Nat.le_refl _)
        have hown := ownsEmpty 39 w
        have hlen : (xs.take k).length ≤ 8000000000000 := by simp; omega
        go_wp2_with (at_builtin; refine wpList_append_row _ rfl _ _ 22 39 rfl Try.underlying22 Try.infoU32 w.heap.size base 0 _ _ [] (xs.take k) rfl hown rfl hn (by omega) (by simp) ?_; intro v' w1 ho hg)
        have hnt := Nt.of_owns ho (by simp) (by simp only [List.nil_append]; exact fun x hx => hX.out x (List.mem_of_mem_take hx))
        rw [List.nil_append, hfin.out] at hnt
        have hbb := hb.grown hg (by simp) (fun k hk => by cases hk; exact Nat.le_refl _)
        clear ho hg hn hown hb
        go_wp2
        go_ret
        exact ⟨_, rfl, hnt, hbb⟩

theorem rowLit (E : Nat) (w : World) (x y : Nat) (vx vy : Int) (hx : vx = x) (hy : vy = y) : RowIs E (w.alloc (.cells #[.int .u32 vx, .int .u32 vy] E)) w.heap.size [x, y] := by
  subst hx hy
  exact heap_alloc_new w _

theorem val_two (n : Nat) : val [n % 4294967296, n / 4294967296] = n := by simp only [val]; omega

theorem rowLit_nt (E : Nat) (w : World) (n : Nat) (hn : n < 18446744073709551616) (vx vy : Int) (hx : vx = (n % 4294967296 : Nat)) (hy : vy = (n / 4294967296 : Nat)) :
    Nt w.heap.size (w.alloc (.cells #[.int .u32 vx, .int .u32 vy] E)) (.slice (some ⟨w.heap.size, 0, none⟩) 2 2) [n % 4294967296, n / 4294967296] :=
  (rowLit E w _ _ vx vy hx hy).nt (by simp) (by omega) (by intro x hx; simp at hx; omega)

set_option maxHeartbeats 400000 in
theorem natOf (w : World) (n : Nat) (hn : n < 18446744073709551616) :
    Calls Try.prog 76 #[.int .u64 n] w (RetNat n w) := by
  have hv := Lib.hid (val_two n)
  have hnt := fun vx vy => rowLit_nt 39 w n hn vx vy
  go_enter Try.func76, Try.ntmps76
  go_wp2_with (go_at_call 103; refine (natTrim _ _ _ _ _ _ n (hnt _ _ ?h1 ?h2) (by omega) hv.out).mono ?_)
  case h1 => omega
  case h2 => omega
  rintro e w' ⟨rfl, rfl⟩
  go_wp2
  go_ret
  exact ⟨_, rfl, (hnt _ _ (by omega) (by omega)).trimS hv.out, (Below.refl _ _).alloc (Nat.le_refl _) _⟩

set_option maxHeartbeats 400000 in
theorem refOf (w : World) (n : Nat) (hn : n < 18446744073709551616) :
    Calls Try.prog 95 #[.int .u64 n] w (RetNat n w) := by
  have hv := Lib.hid (val_two n)
  have hnt := fun vx vy => rowLit_nt 39 w n hn vx vy
  go_enter Try.func95, Try.ntmps95
  go_wp2_with (go_at_call 72; refine (refTrim _ _ _ _ (hnt _ _ ?h1 ?h2) (by simp)).mono ?_)
  case h1 => omega
  case h2 => omega
  rintro e w1 ⟨v1, rfl, hn1, hb1⟩
  rw [hv.out] at hn1
  go_wp2
  go_ret
  exact ⟨_, rfl, hn1.mono (by simp), (Below.refl _ _ |>.alloc (Nat.le_refl _) _).trans (hb1.mono (by simp))⟩

end Go.Proofs.Ytdojdghhbjjoeaa
