/- Contract of nat.Shift: times two to a power. Conditions: powers to 4096; at most 10^12 limbs. -/
import Derived.Test.YtocpmekblkfdiaaGreatDoorGB
import Derived.Deep.RegionHeld3
import Derived.Deep.DrawnRows
import Derived.Laws.CopyOwn
namespace Go.Proofs.YtocpmekblkfdiaaGreatDoor
open Go.RowKit
attribute [local go_sem ↓] Go.wp_at_zero Go.wp_at_succ
theorem Tryz.sizeU32 : (Tryz.prog.info? 46).map (·.size) = some 1 := by kernel_rfl
theorem val_zeros (L : Nat) (ls : List Nat) : val (List.replicate L 0 ++ ls) = 4294967296 ^ L * val ls := by
  rw [val_append, val_replicate, List.length_replicate, Nat.zero_add]
theorem up_val (m L by_ k : Nat) (hk : k = 32 * L + by_) : 4294967296 ^ L * (m * 2 ^ by_) = m * 2 ^ k := by
  have e : (4294967296 : Nat) ^ L = 2 ^ (32 * L) := by rw [Nat.pow_mul]
  rw [e, hk, Nat.pow_add, Nat.mul_left_comm]
theorem up_fits (m by_ : Nat) (hb : by_ < 32) : m * 2 ^ by_ < 4294967296 ^ ((limbs m).length + 1) := by
  have h := lt_of_limbs_len (Nat.le_refl (limbs m).length)
  have h2 : 2 ^ by_ ≤ 4294967296 := by
    have : (4294967296 : Nat) = 2 ^ 32 := by decide
    rw [this]; exact Nat.pow_le_pow_right (by omega) (by omega)
  rw [Nat.pow_succ]
  exact Nat.lt_of_le_of_lt (Nat.mul_le_mul_left _ h2) (Nat.mul_lt_mul_of_pos_right h (by omega))
theorem up_splice (L n : Nat) (zs : List Nat) (hz : zs.length = n) : splice (u32s (List.replicate (L + n) 0)) L (u32s zs) = u32s (List.replicate L 0 ++ zs) := by
  subst hz
  rw [u32s_append]
  unfold splice
  have e1 : (u32s (List.replicate (L + zs.length) 0)).take L = u32s (List.replicate L 0) := by
    unfold u32s; rw [← List.map_take, List.take_replicate, Nat.min_eq_left (by omega)]
  have e2 : (u32s (List.replicate (L + zs.length) 0)).drop (L + (u32s zs).length) = [] := by
    apply List.drop_eq_nil_of_le; rw [u32s_length, u32s_length]; simp
  rw [e1, e2, List.append_nil]
theorem append_lt {xs ys : List Nat} (h : ∀ x ∈ xs, x < 4294967296) (k : ∀ x ∈ ys, x < 4294967296) : ∀ x ∈ xs ++ ys, x < 4294967296 := by
  intro x hx
  rcases List.mem_append.1 hx with h' | h'
  · exact h x h'
  · exact k x h'
theorem copy_len {zs : List Nat} {n : Nat} (h : zs.length = n) : (u32s zs).length = Nat.min n n := by
  rw [u32s_length, h]; exact (Nat.min_self n).symm
theorem copy_fit {zs : List Nat} {L n : Nat} (h : zs.length = n) : L + (u32s zs).length ≤ (u32s (List.replicate (L + n) 0)).length := by
  rw [u32s_length, u32s_length, h]; simp
theorem row_cells {E : Nat} {w : World} {g : Nat} {zs : List Nat} (h : RowIs E w g zs) : ∀ j v, (u32s zs)[j]? = some v → w.cell? ((⟨g, 0, none⟩ : Addr).add j) = some v := by
  intro j v hj
  have hjl : j < zs.length := by
    have := (List.getElem?_eq_some_iff.1 hj).1
    rwa [u32s_length] at this
  rw [u32s_get hjl] at hj
  rw [← hj, show (⟨g, 0, none⟩ : Addr).add j = ⟨g, j, none⟩ from by unfold Addr.add; split <;> simp_all]
  exact h.cell hjl
set_option maxRecDepth 100000 in
set_option maxHeartbeats 1000000 in
theorem natShiftUp (w : World) (v : Value) (xs : List Nat) (base k : Nat) (h : Nt base w v xs) (hk2 : k ≤ 4096) (hL : xs.length ≤ 7000000000000) :
    Calls Tryz.prog 127 #[v, .int .i64 k] w (RetNat (val xs * 2 ^ k) w) := by
  obtain ⟨ao, cap, rfl, hc⟩ := h.open
  have G1 := Lib.hid (natTrim w ao xs.length cap xs base _ h (by omega) rfl)
  have t1 := h.trim
  have l1 := limbs_len_val h.lt
  obtain ⟨L, hLk⟩ : ∃ L, L = k / 32 := ⟨_, rfl⟩
  obtain ⟨by_, hby⟩ : ∃ b, b = k % 32 := ⟨_, rfl⟩
  have hkk : k = 32 * L + by_ := by omega
  have hb32 : by_ < 32 := by omega
  have e1 : (k : Int) / 32 = (L : Int) := by omega
  have e2 : (k : Int) % 32 = (by_ : Int) := by omega
  have hLb : L ≤ 4096 := by omega
  generalize hm : val xs = m at *
  have HV := Lib.hid (up_val m L by_ k hkk)
  have HF := Lib.hid (up_fits m by_ hb32)
  have HM := Lib.hid (val_limbs m)
  clear hkk hLk hby h hm
  have X1 := Lib.hid (limbs_lt m)
  generalize limbs m = A at *
  generalize xs.length = n1 at *
  go_enter Tryz.func127, Tryz.ntmps127
  go_wp2_with fail
  refine G1.out.mono ?_
  rintro e w1 ⟨rfl, rfl⟩
  go_wp2_with (refine wpList_make_row _ rfl (.tmp 79) (.tmp 79) 22 46 rfl Tryz.underlying22 Tryz.infoU32 (L + (A.length + 1)) _ _ rfl rfl (by omega) (by omega) (by omega) ?_; intro w1 hR hB hsz)
  have t2 := t1.below hB (Nat.le_refl _)
  generalize hg : w.heap.size = g at *
  have HG := Lib.hid hg; clear hg
  have b1 : (0 : Int) ≤ (L : Int) := by omega
  have b2 : (L : Int) ≤ (L : Int) + ((A.length : Int) + 1) := by omega
  have hfit : val A * 2 ^ by_ < 4294967296 ^ (A.length + 1) := by rw [HM.out]; exact HF.out
  have HFIT := Lib.hid hfit
  clear hfit t1
  have q1 : IntKind.u64.wrap ((k : Int).tmod 32) = (by_ : Int) := by
    rw [Int.tmod_eq_emod_of_nonneg (by omega), IntKind.wrap_u64]; omega
  have q2 : IntKind.i64.wrap ((A.length : Int) + 1) = ((A.length + 1 : Nat) : Int) := by
    rw [IntWalk.i64_in _ (by omega)]; omega
  have Q1 := Lib.hid q1
  have Q2 := Lib.hid q2
  clear q1 q2
  have t3 := t2.below ((Below.refl w1.heap.size w1).drew) (Nat.le_refl _)
  have hR3 := hR.below ((Below.refl w1.heap.size w1).drew) (by exact hsz)
  go_region_held3 (fun _ => True) (trivial) (first | ((go_simp; go_at_call 179; refine (natLeftI _ _ A base by_ (A.length + 1) _ _ Q1.out Q2.out t3 hb32 (by omega) (by omega) (by omega) HFIT.out).mono ?_; rintro e w2 ⟨zs, rfl, hRl, hlen, hlt, hval, hBl, hsl⟩)) | ((refine step_copy_splice rfl (.tmp 83) (.tmp 91) 22 22 (by rfl) 46 Tryz.underlying22 Tryz.sizeU32 _ _ _ _ _ _ (by rfl) (by rfl) g L (u32s (List.replicate (L + (A.length + 1)) 0)) 46 (hR3.below hBl hsz) (u32s zs) (copy_len hlen) (fun _ => ⟨rfl, _, rfl, row_cells hRl⟩) (copy_fit hlen) (u32s_one zs) g w2 (Below.refl _ _) (Nat.le_refl _) ?_; intro w3 hH hB3)))
  have hR4 : RowIs 46 w3 g (List.replicate L 0 ++ zs) := by
    have := hH.out
    rw [up_splice L (A.length + 1) zs hlen] at this
    exact this
  have hB4 : Below g w w3 := (hB.drew.trans (hBl.mono (Nat.le_of_lt hsz))).trans hB3
  have hnt := hR4.nt (n := L + (A.length + 1)) (cap := L + (A.length + 1)) (by simp [hlen]) (Nat.le_refl _) (append_lt (replicate_lt L) hlt)
  have HE := Lib.hid (show val (List.replicate L 0 ++ zs) = m * 2 ^ k by rw [val_zeros, hval, HM.out, HV.out])
  clear hH hR3 hB3 hBl hRl hR hB
  go_wp2_with (refine (natTrim _ _ _ _ _ g (m * 2 ^ k) hnt (by omega) HE.out).mono ?_; rintro e w' ⟨rfl, rfl⟩)
  have ht := hnt.trimS HE.out
  go_ret
  exact ⟨_, rfl, by rw [HG.out]; exact ht, by rw [HG.out]; exact hB4⟩
end Go.Proofs.YtocpmekblkfdiaaGreatDoor
