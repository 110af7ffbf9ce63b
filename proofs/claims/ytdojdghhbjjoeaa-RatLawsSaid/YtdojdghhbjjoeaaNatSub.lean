/- Contract of nat.Sub: the difference, or that it is below 0. Condition: at most 10^12 limbs each. -/
import Derived.Test.YtdojdghhbjjoeaaCmp
import Derived.Test.YtdojdghhbjjoeaaBits
namespace Go.Proofs.Ytdojdghhbjjoeaa
open Go.RowKit

def SubInv (D F zs : List Nat) (k c : Nat) : Prop :=
  zs.length = D.length ∧ (∀ x ∈ zs, x < 4294967296) ∧ (∀ j, k ≤ j → zs.getD j 0 = 0) ∧ c ≤ 1 ∧ val zs + val (F.take k) = val (D.take k) + 4294967296 ^ k * c

theorem subInv_zero (D F : List Nat) : SubInv D F (List.replicate D.length 0) 0 0 := by
  refine ⟨by simp, ?_, fun j _ => getD_replicate _ _, by omega, by simp [val_replicate, val]⟩
  intro x hx; rw [(List.mem_replicate.1 hx).2]; omega

theorem subInv_step {D F zs : List Nat} {k c d f z c' : Nat} (h : SubInv D F zs k c) (hk : k < D.length) (hd : D.getD k 0 = d) (hf : F.getD k 0 = f) (bd : d < 4294967296) (bf : f < 4294967296)
    (hz : z = (d + 4294967296 - f - c) % 4294967296) (hc : c' = if d < f + c then 1 else 0) : SubInv D F (zs.set k z) (k + 1) c' := by
  obtain ⟨h1, h2, h3, h4, h5⟩ := h
  have key : z + f + c = d + 4294967296 * c' := by
    subst hz hc
    split <;> omega
  refine ⟨by simpa using h1, mem_set_lt h2 (by omega), fun j hj => ?_, by subst hc; split <;> omega, ?_⟩
  · rw [getD_set_ne (by omega)]; exact h3 j (by omega)
  · rw [val_set (by omega) (h3 k (Nat.le_refl _)), val_take_any, val_take_any, Nat.pow_succ, hd, hf]
    generalize 4294967296 ^ k = p at *
    have e2 : p * z + p * f + p * c = p * d + p * 4294967296 * c' := by
      rw [← Nat.mul_add, ← Nat.mul_add, key, Nat.mul_add, Nat.mul_assoc]
    omega

theorem subInv_end {D F zs : List Nat} {c : Nat} (h : SubInv D F zs D.length c) (hF : F.length ≤ D.length) (hv : val F ≤ val D) : val zs = val D - val F ∧ ∀ x ∈ zs, x < 4294967296 := by
  obtain ⟨h1, h2, h3, h4, h5⟩ := h
  rw [List.take_length, List.take_of_length_le hF] at h5
  have hz := val_lt h2
  rw [h1] at hz
  have : c = 0 := by
    rcases Nat.eq_zero_or_pos c with h | h
    · exact h
    · have : c = 1 := by omega
      subst this
      omega
  subst this
  exact ⟨by omega, h2⟩

/-- What a function answers that hands back a natural in new memory, and whether there is one. -/
def RetNatOk (n : Nat) (ok : Bool) (w : World) (e : Ending) (w' : World) : Prop :=
  ∃ v, e = .returned (.tuple #[v, .bool ok]) ∧ Nt w.heap.size w' v (limbs n) ∧ Below w.heap.size w w'

set_option maxRecDepth 100000 in
set_option maxHeartbeats 1000000 in
theorem natSub (w : World) (v1 v2 : Value) (xs ys : List Nat) (b1 b2 : Nat) (h1 : Nt b1 w v1 xs) (h2 : Nt b2 w v2 ys) (hL1 : xs.length ≤ 1000000000000) (hL2 : ys.length ≤ 1000000000000) :
    Calls Try.prog 71 #[v1, v2] w (RetNatOk (val xs - val ys) (decide (val ys ≤ val xs)) w) := by
  have h1' := h1
  have h2' := h2
  obtain ⟨ao1, c1, rfl, hc1, hx1, _, _⟩ := h1'
  obtain ⟨ao2, c2, rfl, hc2, hx2, _, _⟩ := h2'
  have GC := Lib.hid (natCmp w _ _ xs ys b1 b2 h1 h2 (by omega) (by omega))
  have l1 := limbs_len_val hx1
  have l2 := limbs_len_val hx2
  by_cases hlt : val xs < val ys
  · have e1 : decide (val ys ≤ val xs) = false := by simp; omega
    have e2 : val xs - val ys = 0 := by omega
    rw [e1, e2]
    have e3 : decide (cmpI (val xs) (val ys) < 0) = true := by simp [cmpI_lt_zero]; exact hlt
    clear e1 e2 h1 h2
    unfold RetCmp at GC
    generalize cmpI (val xs) (val ys) = c at *
    clear l1 l2
    go_enter Try.func71, Try.ntmps71
    go_wp2_with (refine GC.out.mono ?_; rintro e w1 ⟨rfl, hb1⟩)
    go_ret2
    exact ⟨_, rfl, Nt.nil _ _, hb1⟩
  · have e1 : decide (val ys ≤ val xs) = true := by simp; omega
    rw [e1]
    have hle : val ys ≤ val xs := by omega
    have hl := limbs_len_mono hle
    have HV := Lib.hid hle
    clear e1 hle hlt
    have t1 := fun w1 hb => (h1.below (w' := w1) hb (Nat.le_refl _)).trim
    have t2 := fun w1 hb => (h2.below (w' := w1) hb (Nat.le_refl _)).trim
    have G1 := Lib.hid (fun w1 hb => natTrim w1 ao1 xs.length c1 xs b1 _ (h1.below (w' := w1) hb (Nat.le_refl _)) (by omega) rfl)
    have G2 := Lib.hid (fun w1 hb => natTrim w1 ao2 ys.length c2 ys b2 _ (h2.below (w' := w1) hb (Nat.le_refl _)) (by omega) rfl)
    have e3 : decide (cmpI (val xs) (val ys) < 0) = false := by have := HV.out; simp only [cmpI_lt_zero]; simp; omega
    unfold RetCmp at GC
    generalize cmpI (val xs) (val ys) = c at *
    generalize val xs = m at *
    generalize val ys = n at *
    have V1 := Lib.hid (val_limbs m)
    have V2 := Lib.hid (val_limbs n)
    have X1 := Lib.hid (limbs_lt m)
    have X2 := Lib.hid (limbs_lt n)
    have HR := Lib.hid (rfl : limbs (m - n) = limbs (m - n))
    generalize hD : limbs m = D at *
    generalize hF : limbs n = F at *
    have HD := Lib.hid hD
    have HF := Lib.hid hF
    clear hD hF h1 h2 HR hx1 hx2
    generalize xs.length = n1 at *
    generalize ys.length = n2 at *
    go_enter Try.func71, Try.ntmps71
    go_wp2_with fail
    refine GC.out.mono ?_
    rintro e w1 ⟨rfl, hb1⟩
    go_wp2_with (first | ((with_reducible refine (G1.out w1 hb1).mono ?_); rintro e w2 ⟨rfl, rfl⟩) | ((with_reducible refine (G2.out w1 hb1).mono ?_); rintro e w2 ⟨rfl, rfl⟩) | (refine wpList_make_row _ rfl _ _ 22 39 rfl Try.underlying22 Try.infoU32 D.length _ _ rfl rfl (by omega) (by omega) (by omega) ?_; intro w2 hR hB hsz))
    have hD := t1 w1 hb1
    have hF := t2 w1 hb1
    clear t1 t2 G1 G2 GC
    generalize hg : w1.heap.size = g at *
    have HG := Lib.hid hg; clear hg
    go_loopw [7, 24] (fun c i wr => ∃ (k cr : Nat) (zs : List Nat), k ≤ D.length ∧ i = .int .i64 k ∧ c = .int .u32 cr ∧ RowIs 39 wr g zs ∧ SubInv D F zs k cr ∧ Below g w1 wr ∧ g < wr.heap.size) (fun _ i _ => D.length - (intOf i).toNat)
    case atStart => exact ⟨0, 0, _, Nat.zero_le _, rfl, rfl, hR, subInv_zero D F, hB, hsz⟩
    case round =>
      obtain ⟨k, cr, zs, hk, rfl, rfl, hRz, hinv, hBw, hgs⟩ := hrel
      have hcr : cr ≤ 1 := hinv.2.2.2.1
      have hzl := Lib.hid hinv.1
      by_cases hlt : k < D.length
      · have hrow := hRz.cell (i := k) (by have := hinv.1; omega)
        have hfr := hRz.frozen k
        generalize zs.getD k 0 = z0 at *
        obtain ⟨b, off, rfl, _, hb, hcD⟩ := hD.at_some hlt
        have hd : wr.cell? ⟨b, off + k, none⟩ = some (.int .u32 ((D.getD k 0 : Nat) : Int)) := by rw [hBw.cell (by have := HG.out; show b < g; omega)]; exact hcD k hlt
        have bd := getD_lt X1.out k
        clear hcD
        by_cases hltF : k < F.length
        · obtain ⟨b2, off2, rfl, _, hb2, hcF⟩ := hF.at_some hltF
          have hf : wr.cell? ⟨b2, off2 + k, none⟩ = some (.int .u32 ((F.getD k 0 : Nat) : Int)) := by rw [hBw.cell (by have := HG.out; show b2 < g; omega)]; exact hcF k hltF
          have bf := getD_lt X2.out k
          clear hcF
          have hst := Lib.hid (subInv_step hinv hlt rfl rfl bd bf rfl rfl)
          generalize D.getD k 0 = d at *
          generalize F.getD k 0 = f at *
          go_wp2_with (go_at_call 104; refine (bitsSub32 d f cr _ bd bf hcr).mono ?_; rintro e w3 ⟨rfl, rfl⟩)
          go_round
          case rel => exact ⟨k + 1, _, _, by omega, by go_num, rfl, hRz.storeI k _ _ (by omega), hst.out, hBw.setCell (Nat.le_refl _) _, by simpa using hgs⟩
          case measure => simp [intOf]; omega
        · have hst0 := subInv_step hinv hlt rfl (getD_of_len (by omega)) bd (by omega) rfl rfl
          rw [Nat.sub_zero, Nat.zero_add] at hst0
          have hst := Lib.hid hst0
          clear hst0
          generalize D.getD k 0 = d at *
          go_wp2_with (go_at_call 104; refine (bitsSub32 d 0 cr _ bd (by omega) hcr).mono ?_; rintro e w3 ⟨rfl, rfl⟩)
          go_round
          case rel => exact ⟨k + 1, _, _, by omega, by go_num, rfl, hRz.storeI k _ _ (by omega), hst.out, hBw.setCell (Nat.le_refl _) _, by simpa using hgs⟩
          case measure => simp [intOf]; omega
      · obtain rfl : k = D.length := by omega
        have hend := subInv_end hinv hl (by rw [V1.out, V2.out]; exact HV.out)
        rw [V1.out, V2.out] at hend
        have hnt := hRz.nt (n := D.length) (cap := D.length) (by simp [hinv.1]) (Nat.le_refl _) hend.2
        have HE := Lib.hid hend.1
        clear hend hinv
        go_wp2_with (refine (natTrim _ _ _ _ _ g (m - n) hnt (by omega) HE.out).mono ?_; rintro e w' ⟨rfl, rfl⟩)
        have ht := hnt.trimS HE.out
        go_ret2
        exact ⟨_, rfl, ht.mono (by have := hb1.size; have := HG.out; omega), bthen hb1 (by rw [HG.out]; exact hBw)⟩

end Go.Proofs.Ytdojdghhbjjoeaa
