/- Contract of nat.small: a number by one limb, and what is left. Conditions: the limb is not 0; at most 10^12 limbs. -/
import Derived.Test.YtdojdghhbjjoeaaCmp
import Derived.Test.YtdojdghhbjjoeaaBits
namespace Go.Proofs.Ytdojdghhbjjoeaa
open Go.RowKit

def SmallInv (xs zs : List Nat) (b k r : Nat) : Prop :=
  zs.length = xs.length ∧ (∀ x ∈ zs, x < 4294967296) ∧ (∀ j, j < k → zs.getD j 0 = 0) ∧ r < b ∧ val xs = val (xs.take k) + 4294967296 ^ k * r + b * val zs

theorem smallInv_zero (xs : List Nat) (b : Nat) (hb : 0 < b) : SmallInv xs (List.replicate xs.length 0) b xs.length 0 :=
  ⟨by simp, replicate_lt _, fun j _ => getD_replicate _ _, hb, by simp [val_replicate]⟩

theorem smallInv_step {xs zs : List Nat} {b i r x : Nat} (h : SmallInv xs zs b (i + 1) r) (hi : i < xs.length) (hx : xs.getD i 0 = x) (bx : x < 4294967296) :
    SmallInv xs (zs.set i ((r * 4294967296 + x) / b)) b i ((r * 4294967296 + x) % b) := by
  obtain ⟨h1, h2, h3, h4, h5⟩ := h
  have hq : (r * 4294967296 + x) / b < 4294967296 := by
    rw [Nat.div_lt_iff_lt_mul (by omega)]
    have : (r + 1) * 4294967296 ≤ b * 4294967296 := Nat.mul_le_mul_right _ h4
    omega
  refine ⟨by simpa using h1, mem_set_lt h2 hq, fun j hj => ?_, Nat.mod_lt _ (by omega), ?_⟩
  · rw [getD_set_ne (by omega)]; exact h3 j (by omega)
  · rw [val_set (by omega) (h3 i (by omega)), h5, val_take_last hi, hx, Nat.pow_succ]
    have e := Nat.div_add_mod (r * 4294967296 + x) b
    generalize (r * 4294967296 + x) / b = q at *
    generalize (r * 4294967296 + x) % b = s at *
    generalize 4294967296 ^ i = p at *
    have e1 : p * (b * q + s) = p * (r * 4294967296) + p * x := by rw [e, Nat.mul_add]
    rw [Nat.mul_add] at e1
    have e2 : p * (b * q) = b * (p * q) := Nat.mul_left_comm _ _ _
    have e3 : p * 4294967296 * r = p * (r * 4294967296) := by rw [Nat.mul_assoc, Nat.mul_comm r]
    rw [Nat.mul_add]
    omega

theorem smallInv_end {xs zs : List Nat} {b r : Nat} (h : SmallInv xs zs b 0 r) : val zs = val xs / b ∧ r = val xs % b := by
  obtain ⟨h1, h2, h3, h4, h5⟩ := h
  simp [val] at h5
  have hb : 0 < b := by omega
  constructor
  · rw [h5, Nat.add_mul_div_left _ _ hb, Nat.div_eq_of_lt h4, Nat.zero_add]
  · rw [h5, Nat.add_mul_mod_self_left, Nat.mod_eq_of_lt h4]

/-- What a function answers that hands back a natural in new memory, and a number of a kind. -/
def RetNatInt (n : Nat) (k : IntKind) (r : Int) (w : World) (e : Ending) (w' : World) : Prop :=
  ∃ v, e = .returned (.tuple #[v, .int k r]) ∧ Nt w.heap.size w' v (limbs n) ∧ Below w.heap.size w w'

theorem RetNatInt.mk {n : Nat} {k : IntKind} {r r' : Int} {w w' : World} {v : Value} (hr : r' = r) (h : Nt w.heap.size w' v (limbs n)) (hb : Below w.heap.size w w') : RetNatInt n k r w (.returned (.tuple #[v, .int k r'])) w' :=
  ⟨v, by rw [hr], h, hb⟩

set_option maxRecDepth 100000 in
set_option maxHeartbeats 1000000 in
theorem natSmall (w : World) (v : Value) (xs : List Nat) (base b : Nat) (h : Nt base w v xs) (hb0 : 0 < b) (hb1 : b < 4294967296) (hL : xs.length ≤ 8000000000000) :
    Calls Try.prog 108 #[v, .int .u32 b] w (RetNatInt (val xs / b) .u32 ((val xs % b : Nat) : Int) w) := by
  obtain ⟨ao, cap, rfl, hc⟩ := h.open
  have X := Lib.hid h.lt
  go_enter Try.func108, Try.ntmps108
  go_wp2_with (refine wpList_make_row _ rfl _ _ 22 39 rfl Try.underlying22 Try.infoU32 xs.length _ _ rfl rfl (by omega) (by omega) (by omega) ?_; intro w1 hR hB hsz)
  generalize hg : w.heap.size = g at *
  have HG := Lib.hid hg; clear hg
  go_loopw [7, 8] (fun c i wr => ∃ (k r : Nat) (zs : List Nat), k ≤ xs.length ∧ i = .int .i64 ((k : Int) - 1) ∧ c = .int .u32 r ∧ RowIs 39 wr g zs ∧ SmallInv xs zs b k r ∧ Below g w wr ∧ g < wr.heap.size) (fun _ i _ => ((intOf i) + 1).toNat)
  case atStart => exact ⟨xs.length, 0, _, Nat.le_refl _, rfl, rfl, hR, smallInv_zero xs b hb0, hB, hsz⟩
  case round =>
    obtain ⟨k, r, zs, hk, rfl, rfl, hRz, hinv, hBw, hgs⟩ := hrel
    have hzl := Lib.hid hinv.1
    by_cases h0 : k = 0
    · subst h0
      have hend := smallInv_end hinv
      have hnt := hRz.nt (n := xs.length) (cap := xs.length) hinv.1.symm (Nat.le_refl _) hinv.2.1
      have HE := Lib.hid hend.1
      have HE2 := Lib.hid hend.2
      clear hend hinv
      go_wp2_with (refine (natTrim _ _ _ _ _ g (val xs / b) hnt (by omega) HE.out).mono ?_; rintro e w' ⟨rfl, rfl⟩)
      have ht := hnt.trimS HE.out
      go_ret2
      exact RetNatInt.mk (by rw [HE2.out]) (by rw [HG.out]; exact ht) (by rw [HG.out]; exact hBw)
    · obtain ⟨i, rfl⟩ : ∃ i, k = i + 1 := ⟨k - 1, by omega⟩
      obtain ⟨b3, off, rfl, _, hb3, hcD⟩ := h.at_some (k := i) (by omega)
      have hd : wr.cell? ⟨b3, off + i, none⟩ = some (.int .u32 ((xs.getD i 0 : Nat) : Int)) := by rw [hBw.cell (by have := HG.out; show b3 < g; omega)]; exact hcD i (by omega)
      have bx := getD_lt X.out i
      have hr : r < b := hinv.2.2.2.1
      have hst := Lib.hid (smallInv_step hinv (by omega) rfl bx)
      clear hcD hinv
      generalize xs.getD i 0 = x at *
      have hi1 : ((i + 1 : Nat) : Int) - 1 = (i : Int) := by omega
      rw [hi1]
      clear hi1
      go_wp2_with fail
      refine (bitsDiv32 r x b _ hr bx hb1).mono ?_
      rintro e w3 ⟨rfl, hb3'⟩
      have hR3 := hRz.below hb3' hgs
      have hB3 := hBw.trans (hb3'.mono (by omega))
      have hgs3 := hR3.lt
      have hrow := hR3.cell (i := i) (by have := hzl.out; omega)
      have hfr := hR3.frozen i
      generalize zs.getD i 0 = z at *
      clear hb3' hRz hBw hgs hd
      go_wp2
      go_roundw
      case rel => exact ⟨i, _, _, by omega, rfl, rfl, hR3.storeI i _ _ rfl, hst.out, hB3.setCell (Nat.le_refl _) _, by simpa using hgs3⟩
      case measure => simp [intOf]

end Go.Proofs.Ytdojdghhbjjoeaa
