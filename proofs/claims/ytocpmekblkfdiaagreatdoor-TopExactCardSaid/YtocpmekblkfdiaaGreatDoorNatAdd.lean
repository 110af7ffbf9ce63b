/- Contract of nat.Add: the sum. Condition: at most 10^12 limbs each. -/
import Derived.Test.YtocpmekblkfdiaaGreatDoorGA
import Derived.Deep.DeepCutAuto
import Derived.IntWalk
import Derived.BigQuiet
namespace Go.Proofs.YtocpmekblkfdiaaGreatDoor
open Go.RowKit
/-- the sum's limbs, after k of them: what stands there, and the carry -/
def AddInv (D F zs : List Nat) (k c : Nat) : Prop :=
  zs.length = D.length + 1 ∧ (∀ x ∈ zs, x < 4294967296) ∧ (∀ j, k ≤ j → zs.getD j 0 = 0) ∧ c ≤ 1 ∧ val zs + 4294967296 ^ k * c = val (D.take k) + val (F.take k)
theorem addInv_zero (D F : List Nat) : AddInv D F (List.replicate (D.length + 1) 0) 0 0 := by
  refine ⟨by simp, ?_, ?_, by omega, by simp [val_replicate, val]⟩
  · intro x hx; rw [(List.mem_replicate.1 hx).2]; omega
  · intro j _
    rw [List.getD_eq_getElem?_getD]
    by_cases h : j < D.length + 1
    · simp [h]
    · rw [List.getElem?_eq_none (by simpa using h)]; rfl
theorem addInv_step {D F zs : List Nat} {k c x : Nat} (h : AddInv D F zs k c) (hk : k < D.length) (hx : x = c + D.getD k 0 + F.getD k 0) (hD : ∀ x ∈ D, x < 4294967296) (hF : ∀ x ∈ F, x < 4294967296) :
    AddInv D F (zs.set k (x % 4294967296)) (k + 1) (x / 4294967296) := by
  obtain ⟨h1, h2, h3, h4, h5⟩ := h
  have d := getD_lt hD k
  have f := getD_lt hF k
  refine ⟨by simpa using h1, mem_set_lt h2 (by omega), fun j hj => ?_, by omega, ?_⟩
  · rw [getD_set_ne (by omega)]; exact h3 j (by omega)
  · rw [val_set (by omega) (h3 k (Nat.le_refl _)), val_take_any, val_take_any, Nat.pow_succ]
    generalize 4294967296 ^ k = p at *
    have e : x = x % 4294967296 + 4294967296 * (x / 4294967296) := by omega
    have e2 : p * x = p * (x % 4294967296) + p * 4294967296 * (x / 4294967296) := by
      rw [Nat.mul_assoc, ← Nat.mul_add, ← e]
    have e3 : p * x = p * c + p * D.getD k 0 + p * F.getD k 0 := by rw [hx, Nat.mul_add, Nat.mul_add]
    omega
theorem addInv_end {D F zs : List Nat} {c : Nat} (h : AddInv D F zs D.length c) (hF : F.length ≤ D.length) :
    val (zs.set D.length c) = val D + val F ∧ ∀ x ∈ zs.set D.length c, x < 4294967296 := by
  obtain ⟨h1, h2, h3, h4, h5⟩ := h
  rw [List.take_length, List.take_of_length_le hF] at h5
  exact ⟨by rw [val_set (by omega) (h3 _ (Nat.le_refl _))]; exact h5, mem_set_lt h2 (by omega)⟩
/-- the two summands after the turn: the longer one first -/
def TwoRows (w : World) (S : Nat) (s0 s1 : Value) : Prop :=
  ∃ (ao1 ao2 : Option Addr) (c1 c2 : Nat) (D F : List Nat), s0 = .slice ao1 D.length c1 ∧ s1 = .slice ao2 F.length c2 ∧ Nt 0 w s0 D ∧ Nt 0 w s1 F ∧ F.length ≤ D.length ∧ D.length ≤ 1000000000000 ∧ val D + val F = S
set_option maxRecDepth 100000 in
set_option maxHeartbeats 1000000 in
theorem natAdd (w : World) (v1 v2 : Value) (xs ys : List Nat) (h1 : Nt 0 w v1 xs) (h2 : Nt 0 w v2 ys) (hL1 : xs.length ≤ 1000000000000) (hL2 : ys.length ≤ 1000000000000) :
    Calls Tryz.prog 68 #[v1, v2] w (RetNat (val xs + val ys) w) := by
  have h1' := h1
  have h2' := h2
  obtain ⟨ao1, c1, rfl, hc1, hx1, _, _⟩ := h1'
  obtain ⟨ao2, c2, rfl, hc2, hx2, _, _⟩ := h2'
  have l1 := limbs_len_val hx1
  have l2 := limbs_len_val hx2
  have t1 := h1.trim
  have t2 := h2.trim
  have V1 := Lib.hid (val_limbs (val xs))
  have V2 := Lib.hid (val_limbs (val ys))
  generalize hA : limbs (val xs) = A at *
  generalize hB : limbs (val ys) = B at *
  have HA := Lib.hid hA; clear hA
  have HB := Lib.hid hB; clear hB
  have g1 := (natTrim0 w ao1 xs.length c1 xs 0 h1 (by omega))
  have g2 := (natTrim0 w ao2 ys.length c2 ys 0 h2 (by omega))
  rw [HA.out] at g1
  rw [HB.out] at g2
  generalize xs.length = n1 at *
  generalize ys.length = n2 at *
  have G1 := Lib.hid g1; clear g1
  have G2 := Lib.hid g2; clear g2
  go_enter Tryz.func68, Tryz.ntmps68
  go_upto_if 17 with (first | ((with_reducible refine G1.out.mono ?_); rintro e w1 ⟨rfl, rfl⟩) | ((with_reducible refine G2.out.mono ?_); rintro e w1 ⟨rfl, rfl⟩))
  go_cut [0, 1] (fun s0 s1 wx => w = wx ∧ TwoRows w (val xs + val ys) s0 s1)
  case first =>
    by_cases hlt : A.length < B.length
    · go_wp2
      go_meet
      exact ⟨rfl, ao2, ao1, c2, c1, B, A, rfl, rfl, t2, t1, by omega, by omega, by rw [V1.out, V2.out]; omega⟩
    · go_wp2
      go_meet
      exact ⟨rfl, ao1, ao2, c1, c2, A, B, rfl, rfl, t1, t2, by omega, by omega, by rw [V1.out, V2.out]⟩
  case rest =>
    obtain ⟨rfl, ao3, ao4, c3, c4, D, F, rfl, rfl, hD, hF, hle, hLD, hsum⟩ := hcut
    have HS := Lib.hid hsum
    clear hsum HA HB V1 V2 t1 t2 l1 l2 G1 G2 h1 h2
    go_wp2_with (refine wpList_make_row _ rfl (.tmp 22) (.tmp 22) 22 46 rfl Tryz.underlying22 Tryz.infoU32 (D.length + 1) _ _ rfl rfl (by omega) (by omega) (by omega) ?_; intro w1 hR hB hsz)
    generalize hg : w.heap.size = g at *
    have HG := Lib.hid hg; clear hg
    go_loopw [6, 26] (fun c i wr => ∃ (k cr : Nat) (zs : List Nat), k ≤ D.length ∧ i = .int .i64 k ∧ c = .int .u64 cr ∧ RowIs 46 wr g zs ∧ AddInv D F zs k cr ∧ Below g w wr ∧ g < wr.heap.size) (fun _ i _ => D.length - (intOf i).toNat)
    case atStart => exact ⟨0, 0, _, Nat.zero_le _, rfl, rfl, hR, addInv_zero D F, hB, hsz⟩
    case round =>
      obtain ⟨k, cr, zs, hk, rfl, rfl, hRz, hinv, hBw, hgs⟩ := hrel
      have hcr : cr ≤ 1 := hinv.2.2.2.1
      have hzl := Lib.hid hinv.1
      have hrow := hRz.cell (i := k) (by have := hinv.1; omega)
      have hfr := hRz.frozen k
      generalize zs.getD k 0 = z0 at *
      by_cases hlt : k < D.length
      · obtain ⟨b, off, rfl, _, hb, hcD⟩ := hD.at_some hlt
        have hd : wr.cell? ⟨b, off + k, none⟩ = some (.int .u32 ((D.getD k 0 : Nat) : Int)) := by rw [hBw.cell (by have := HG.out; show b < g; omega)]; exact hcD k hlt
        have bd := getD_lt hD.lt k
        have hstep := fun x hx => addInv_step (x := x) hinv hlt hx hD.lt hF.lt
        by_cases hltF : k < F.length
        · obtain ⟨b2, off2, rfl, _, hb2, hcF⟩ := hF.at_some hltF
          have hf : wr.cell? ⟨b2, off2 + k, none⟩ = some (.int .u32 ((F.getD k 0 : Nat) : Int)) := by rw [hBw.cell (by have := HG.out; show b2 < g; omega)]; exact hcF k hltF
          have bf := getD_lt hF.lt k
          generalize D.getD k 0 = d at *
          generalize F.getD k 0 = f at *
          have hst := Lib.hid (hstep _ rfl); clear hstep
          go_wp2
          go_round
          case rel => exact ⟨k + 1, _, _, by omega, by go_num, int_eq (by omega), hRz.storeI k _ _ (by omega), hst.out, hBw.setCell (Nat.le_refl _) _, by simpa using hgs⟩
          case measure => simp [intOf]; omega
        · have hF0 := getD_of_len (xs := F) (i := k) (by omega)
          rw [hF0] at hstep
          clear hF0
          generalize D.getD k 0 = d at *
          have hst := Lib.hid (hstep _ rfl); clear hstep
          go_wp2
          go_round
          case rel => exact ⟨k + 1, _, _, by omega, by go_num, int_eq (by omega), hRz.storeI k _ _ (by omega), hst.out, hBw.setCell (Nat.le_refl _) _, by simpa using hgs⟩
          case measure => simp [intOf]; omega
      · obtain rfl : k = D.length := by omega
        have hend := addInv_end hinv hle
        have hnt := fun (v : Int) (hv : v = (cr : Int)) => (hRz.storeI D.length cr v hv).nt (n := D.length + 1) (cap := D.length + 1) (by simp [hinv.1]) (Nat.le_refl _) hend.2
        have HE := Lib.hid hend.1
        clear hend
        go_wp2_with fail
        refine (natTrim _ _ _ _ _ g (val xs + val ys) (hnt _ ?hv) (by omega) (HE.out.trans HS.out)).mono ?_
        case hv => omega
        rintro e w' ⟨rfl, rfl⟩
        have ht := (hnt _ rfl).trimS (HE.out.trans HS.out)
        go_wp2
        go_ret
        exact ⟨_, rfl, by rw [HG.out]; exact ht, by rw [HG.out]; exact hBw.setCell (Nat.le_refl _) _⟩
end Go.Proofs.YtocpmekblkfdiaaGreatDoor
