/- Contracts of slices.Clone, nat.Trim, vernierref1.Trim, nat.Of, vernierref1.Of: rows without noughts at the end, in new memory. Condition: at most 10^12 limbs. -/
import Derived.Test.YtdojdghhbjjoeaaNat1
import Derived.Test.YtdojdghhbjjoeaaRow
import Derived.Lib.SliceRun
import Derived.BigQuiet
import Derived.Deep.QuietTactic
namespace Go.Proofs.Ytdojdghhbjjoeaa
open Go.RowKit

theorem Try.infoU32 : (Try.prog.info? 39).map (fun i => (i.zero, i.size, i.bytes)) = some (some (.int .u32 0), 1, 4) := by kernel_rfl

/-- What a function answers that hands back the very limbs zs in new memory and turns nothing that was there. -/
def RetRow (zs : List Nat) (w : World) (e : Ending) (w' : World) : Prop :=
  ∃ v, e = .returned v ∧ Nt w.heap.size w' v zs ∧ Below w.heap.size w w'

theorem ownsEmpty (E : Nat) (w : World) : (w.alloc (.cells #[] E)).ownsRow w.heap.size E 1 (.slice (some ⟨w.heap.size, 0, none⟩) 0 0) 0 (u32s []) := by
  have := World.ownsRow_lit (base := w.heap.size) (e := E) (size := 1) w #[] 0 (Nat.le_refl _) (by unfold maxLen; omega) (by simp)
  simpa [u32s] using this

set_option maxHeartbeats 400000 in
theorem slicesClone (w : World) (v : Value) (xs : List Nat) (base : Nat) (h : Nt base w v xs) (hL : xs.length ≤ 8000000000000) :
    Calls Try.prog 111 #[v] w (RetRow xs w) := by
  have h' := h
  obtain ⟨ao, cap, rfl, hc, hl, h4, h5⟩ := h'
  have q := fun (w : World) (a : Option Addr) (n c : Nat) => Lib.run_eql_slice_nil (P := Try.prog) w 22 39 a n c 0 0 Try.underlying22
  have hX := Lib.hid hl
  have hx5 := Lib.hid h5
  clear h5 hl
  cases ao with
  | none =>
    obtain rfl := h4.2 rfl
    have : xs = [] := List.eq_nil_of_length_eq_zero (by omega)
    subst this
    clear h4 hx5
    go_enter Try.func111, Try.ntmps111
    go_wp2
    go_ret
    exact ⟨_, rfl, Nt.nil _ _, Below.refl _ _⟩
  | some ad =>
    clear h4 hx5
    have hb : Below w.heap.size w (w.alloc (.cells #[] 39)) := (Below.refl _ _).alloc (Nat.le_refl _) _
    have hn := h.below hb (Nat.le_refl _)
    have hown := ownsEmpty 39 w
    go_enter Try.func111, Try.ntmps111
    go_wp2_with (at_builtin; refine wpList_append_row _ rfl _ _ 22 39 rfl Try.underlying22 Try.infoU32 w.heap.size base 0 _ _ [] xs rfl hown rfl hn (by omega) (by simp) ?_; intro v' w1 ho hg)
    have hnt := Nt.of_owns ho (by simp) (by simpa using hX.out)
    rw [List.nil_append] at hnt
    have hbb := hb.grown hg (by simp) (fun k hk => by cases hk; exact Nat.le_refl _)
    clear ho hg hn hown hb
    go_wp2
    go_ret
    exact ⟨_, rfl, hnt, hbb⟩

set_option maxHeartbeats 400000 in
theorem natTrimC (w : World) (v : Value) (xs : List Nat) (base : Nat) (h : Nt base w v xs) (hL : xs.length ≤ 8000000000000) :
    Calls Try.prog 81 #[v] w (RetNat (val xs) w) := by
  have h' := h
  obtain ⟨ao, cap, rfl, hc, hl, h4, h5⟩ := h'
  have c1 := Lib.hid (natTrim w ao xs.length cap xs base _ h hL rfl)
  have ht := h.trim
  have hle := limbs_len_val hl
  clear h4 h5 hl h
  generalize val xs = S at *
  generalize xs.length = n at *
  go_enter Try.func81, Try.ntmps81
  go_wp2_with (first | (go_at_call 103; refine c1.out.mono ?_; rintro e w' ⟨rfl, rfl⟩) | (go_at_call 111; refine (slicesClone _ _ _ base ht (by omega)).mono ?_; rintro e w1 ⟨v1, rfl, hn1, hb1⟩))
  go_ret
  exact ⟨_, rfl, hn1, hb1⟩

end Go.Proofs.Ytdojdghhbjjoeaa
