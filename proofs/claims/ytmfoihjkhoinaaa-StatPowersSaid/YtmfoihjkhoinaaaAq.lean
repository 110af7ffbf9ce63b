/- nat.Bits and root.Int (Newton's way) by the abstract walk. Condition: rows of at most 10^9 limbs. -/
import Derived.Test.YtmfoihjkhoinaaaAp
import Derived.Test.YtmfoihjkhoinaaaLen
import Derived.Test.YtmfoihjkhoinaaaGF
namespace Go.Proofs.Ytmfoihjkhoinaaa
open Go.RowKit
set_option linter.unusedSimpArgs false
set_option linter.unusedVariables false

theorem blen_bitLen : ∀ (x : Nat), x < 2 ^ 64 → Lib.bitLen x = blen x := by
  intro x
  induction x using Nat.strongRecOn with
  | _ x ih =>
    intro h
    by_cases h0 : x = 0
    · subst h0; rfl
    · rw [Lib.bitLen_half x h0 h, blen_half (Nat.pos_of_ne_zero h0), ih (x / 2) (by omega) (by omega)]
      omega

def d_nat_trim : Den := den1 aLim (fun a => a.length ≤ 8000000000000) fun a => natV (val a)
theorem s_nat_trim : Sound Try.prog 210 d_nat_trim :=
  told1 Try.call210 (fun _ => rfl) fun a X w u h hX hu => by
    have hl : limG X w u a := by
      have hu : (CV.lim none a).P X w u := hu
      simpa only [CV.P] using hu
    have hnt := lim_nt hu
    obtain ⟨ao, cap, rfl, h2, h3, h4, h5⟩ := hl
    refine (natTrim w ao a.length cap a 0 (val a) hnt h rfl).mono ?_
    rintro e w' ⟨rfl, rfl⟩
    refine ⟨_, rfl, ?_, Below.refl _ _⟩
    have hle := limbs_len_val h4
    have key : limG X w (.slice ao (limbs (val a)).length cap) (limbs (val a)) := by
      refine ⟨ao, cap, rfl, by omega, h3, limbs_lt _, fun hp => ?_⟩
      obtain ⟨b, off, e, hc⟩ := h5 (by omega)
      refine ⟨b, off, e, fun i hi => ?_⟩
      have e2 : (limbs (val a)).getD i 0 = a.getD i 0 := by
        rw [← limbs_prefix h4]
        simp only [List.getD_eq_getElem?_getD]
        rw [List.getElem?_take_of_lt hi]
      rw [e2]
      exact hc i (by omega)
    show CV.P X w (.lim none (limbs (val a))) _
    simpa only [CV.P] using key

def d_math_bits_Len32 : Den := den1 aU32 (fun n => 0 ≤ n ∧ n < 4294967296) fun n => intV ((blen n.toNat : Nat) : Int)
theorem s_math_bits_Len32 : Sound Try.prog 211 d_math_bits_Len32 :=
  told1 Try.call211 (fun _ => rfl) fun n X w u h hX hu => by
    have e : u = .int .u32 n := hu
    subst e
    refine (bitsLen32 n w h.1 (by omega)).mono ?_
    rintro e w' ⟨rfl, rfl⟩
    refine ⟨_, rfl, ?_, Below.refl _ _⟩
    show _ = _
    rw [blen_bitLen _ (by omega)]


def d_nat_Bits : Den := den1 aLim (fun a => a.length ≤ 1000000000000) fun a => intV ((blen (val a) : Nat) : Int)
set_option maxRecDepth 100000 in
set_option maxHeartbeats 1000000 in
theorem s_nat_Bits : Sound Try.prog 161 d_nat_Bits := by
  refine sound1 (fz := nofz) (l := [(210, d_nat_trim), (211, d_math_bits_Len32)]) TT_ok ⟨s_nat_trim, s_math_bits_Len32, trivial⟩ mixed Try.func161 Try.ntmps161 Try.results161 Try.call161 rfl (by omega) (fun _ => rfl) ?_
  intro a hp ha
  rw [codeK_start]
  simp only [go_sem, d_nat_trim, d_math_bits_Len32, Nat.reduceBEq, Nat.reduceBNe, Nat.reduceLT, Nat.reduceLeDiff, Nat.reduceAdd, Nat.reduceSub, Nat.reduceMul, Nat.reduceEqDiff, Int.reduceNeg, Int.reduceAdd, Int.reduceLT, Int.reduceLE, Int.reduceToNat, ↓reduceIte]
  have hle := limbs_len_val ha
  by_cases h0 : val a = 0
  · rw [h0]
    simp only [limbs_zero, List.length_nil]
    exact ⟨by omega, rfl⟩
  · obtain ⟨h1, h2, h3⟩ := blen_limbs h0
    have e : ((((limbs (val a)).length : Nat) : Int) - 1).toNat = (limbs (val a)).length - 1 := by omega
    have hlt : (limbs (val a)).getD ((limbs (val a)).length - 1) 0 < 4294967296 := limbs_lt (val a) _ (getD_mem (by omega))
    have hb : blen ((limbs (val a)).getD ((limbs (val a)).length - 1) 0) ≤ 32 := by
      rcases Nat.lt_or_ge 32 (blen ((limbs (val a)).getD ((limbs (val a)).length - 1) 0)) with h | h
      · have h4 := blen_le h2
        have : 2 ^ 32 ≤ 2 ^ (blen ((limbs (val a)).getD ((limbs (val a)).length - 1) 0) - 1) := Nat.pow_le_pow_right (by omega) (by omega)
        omega
      · exact h
    rw [e, if_neg (by omega)]
    and_intros <;> omega


/-- the root, rounded down -/
def rt : Nat → Nat
  | 0 => 0
  | n + 1 => if (rt n + 1) * (rt n + 1) ≤ n + 1 then rt n + 1 else rt n
theorem rt_spec : ∀ n, rt n * rt n ≤ n ∧ n < (rt n + 1) * (rt n + 1)
  | 0 => ⟨Nat.le_refl _, by decide⟩
  | n + 1 => by
    obtain ⟨h1, h2⟩ := rt_spec n
    unfold rt
    split
    · rename_i h
      refine ⟨h, ?_⟩
      have : (rt n + 1 + 1) * (rt n + 1 + 1) = (rt n + 1) * (rt n + 1) + 2 * (rt n + 1) + 1 := by
        simp only [Nat.add_mul, Nat.mul_add]; omega
      omega
    · rename_i h; exact ⟨by omega, by omega⟩
theorem rt_unique {n r : Nat} (h1 : r * r ≤ n) (h2 : n < (r + 1) * (r + 1)) : rt n = r := by
  obtain ⟨k1, k2⟩ := rt_spec n
  rcases Nat.lt_trichotomy (rt n) r with h | h | h
  · have := Nat.mul_le_mul (show rt n + 1 ≤ r from h) (show rt n + 1 ≤ r from h); omega
  · exact h
  · have := Nat.mul_le_mul (show r + 1 ≤ rt n from h) (show r + 1 ≤ rt n from h); omega
theorem rt_newton {n x : Nat} (hx : 0 < x) : rt n ≤ (x + n / x) / 2 := by
  obtain ⟨k1, _⟩ := rt_spec n
  have : 2 * rt n - x ≤ n / x := by
    rw [Nat.le_div_iff_mul_le hx]
    refine Nat.le_trans ?_ k1
    by_cases h : x ≤ 2 * rt n
    · obtain ⟨d, hd⟩ := Nat.le.dest h
      rw [show 2 * rt n - x = d by omega]
      have e : (rt n : Int) * 2 = x + d := by omega
      have : (d : Int) * x ≤ rt n * rt n := by
        have hsq : 0 ≤ ((rt n : Int) - x) * ((rt n : Int) - x) := by
          rcases Int.le_total 0 ((rt n : Int) - x) with h | h
          · exact Int.mul_nonneg h h
          · exact Int.mul_nonneg_of_nonpos_of_nonpos h h
        have e2 : (d : Int) = rt n * 2 - x := by omega
        rw [e2]
        have : ((rt n : Int) - x) * ((rt n : Int) - x) = rt n * rt n - (rt n * 2 - x) * x := by
          simp only [Int.sub_mul, Int.mul_sub]
          have c1 := Int.mul_comm (x : Int) (rt n : Int)
          have c2 : (rt n : Int) * 2 * x = rt n * x + rt n * x := by rw [Int.mul_assoc, Int.two_mul, Int.mul_add]
          omega
        omega
      exact_mod_cast this
    · rw [show 2 * rt n - x = 0 by omega]; omega
  omega
theorem rt_stop {n x : Nat} (hx : 0 < x) (hr : rt n ≤ x) (h : x ≤ (x + n / x) / 2) : x = rt n := by
  obtain ⟨k1, k2⟩ := rt_spec n
  have h1 : x ≤ n / x := by omega
  rw [Nat.le_div_iff_mul_le hx] at h1
  refine (rt_unique h1 ?_).symm
  have := Nat.mul_le_mul (show rt n + 1 ≤ x + 1 by omega) (show rt n + 1 ≤ x + 1 by omega)
  omega

def fz_root_Int : Nat → List Nat
  | 9 => [15]
  | _ => []

def d_root_Int : Den := den1 aLim (fun a => a.length ≤ 1000000000) fun a => natV (rt (val a))
set_option maxRecDepth 100000 in
set_option maxHeartbeats 1000000 in
theorem s_root_Int : Sound Try.prog 39 d_root_Int := by
  refine sound1 (fz := fz_root_Int) (l := [(161, d_nat_Bits), (162, d_nat_DivMod), (164, d_nat_Add), (163, d_nat_Shift), (165, d_nat_Cmp), (166, d_nat_Trim)]) TT_ok ⟨s_nat_Bits, s_nat_DivMod, s_nat_Add, s_nat_Shift, s_nat_Cmp, s_nat_Trim, trivial⟩ mixed Try.func39 Try.ntmps39 Try.results39 Try.call39 rfl (by omega) (fun _ => rfl) ?_
  intro a hp ha
  rw [codeK_start]
  simp only [go_sem, d_nat_Bits, d_nat_DivMod, d_nat_Add, d_nat_Shift, d_nat_Cmp, d_nat_Trim, fz_root_Int, Nat.reduceBEq, Nat.reduceBNe, Nat.reduceLT, Nat.reduceLeDiff, Nat.reduceAdd, Nat.reduceSub, Nat.reduceMul, Nat.reduceEqDiff, Int.reduceNeg, Int.reduceAdd, Int.reduceLT, Int.reduceLE, Int.reduceToNat, ↓reduceIte]
  generalize hn : val a = n at *
  have hbl : blen n ≤ 32 * a.length := by
    rcases Nat.eq_zero_or_pos n with h0 | h0
    · subst h0; rw [blen_zero]; omega
    · obtain ⟨b1, b2, b3⟩ := blen_limbs (m := n) (by omega)
      have hlt : (limbs n).getD ((limbs n).length - 1) 0 < 4294967296 := limbs_lt n _ (getD_mem (by omega))
      have hb : blen ((limbs n).getD ((limbs n).length - 1) 0) ≤ 32 := by
        rcases Nat.lt_or_ge 32 (blen ((limbs n).getD ((limbs n).length - 1) 0)) with h | h
        · have h4 := blen_le b2
          have : 2 ^ 32 ≤ 2 ^ (blen ((limbs n).getD ((limbs n).length - 1) 0) - 1) := Nat.pow_le_pow_right (by omega) (by omega)
          omega
        · exact h
      have hle := limbs_len_val (xs := a) ha
      rw [hn] at hle
      omega
  refine ⟨by omega, ?_⟩
  split
  · rename_i h0
    have : n = 0 := by
      rcases Nat.eq_zero_or_pos n with h | h
      · exact h
      · rw [blen_pos (by omega)] at h0; omega
    subst this
    rfl
  · rename_i hnz
    have e1 : ((blen n : Nat) : Int).tdiv 64 = ((blen n / 64 : Nat) : Int) := by rw [Int.tdiv_eq_ediv_of_nonneg (by omega)]; omega
    rw [e1]
    have e2 : (((blen n / 64 : Nat) : Int) + 2).toNat = blen n / 64 + 2 := by omega
    rw [e2]
    have e3 : (((blen n / 64 + 2 : Nat) : Int) - 1).toNat = blen n / 64 + 1 := by omega
    rw [e3]
    generalize hk : blen n / 64 + 1 = k at *
    have e4 : blen n / 64 + 2 = k + 1 := by omega
    rw [e4]
    have hlen : ((List.replicate (k + 1) 0).set k 1).length = k + 1 := by rw [List.length_set, List.length_replicate]
    have htk : ((List.replicate (k + 1) 0).set k 1).take (k + 1) = (List.replicate (k + 1) 0).set k 1 := List.take_of_length_le (by omega)
    rw [htk]
    have hval : val ((List.replicate (k + 1) 0).set k 1) = 4294967296 ^ k := by
      rw [val_set (by simp) (by simp), val_replicate, Nat.mul_one, Nat.zero_add]
    have hlo : limOk ((List.replicate (k + 1) 0).set k 1) := by
      intro x hx
      rcases List.mem_or_eq_of_mem_set hx with hx | rfl
      · have := (List.mem_replicate.1 hx).2; omega
      · omega
    have hrt : rt n ≤ 4294967296 ^ k := by
      obtain ⟨k1, _⟩ := rt_spec n
      rcases Nat.lt_or_ge (4294967296 ^ k) (rt n) with h | h
      · have h2 := Nat.mul_le_mul (Nat.le_of_lt h) (Nat.le_of_lt h)
        have h3 := blen_lt n
        have h4 : 2 ^ blen n ≤ 4294967296 ^ k * 4294967296 ^ k := by
          rw [← Nat.pow_two, ← Nat.pow_mul, show (4294967296 : Nat) = 2 ^ 32 from rfl, ← Nat.pow_mul]
          exact Nat.pow_le_pow_right (by omega) (by omega)
        omega
      · exact h
    refine ⟨by omega, by omega, by omega, by omega, by omega, by omega, by rw [List.length_replicate]; omega, by omega, ?_⟩
    refine codeK_loop (fun x : { x : List Nat // limOk x ∧ 0 < val x ∧ rt n ≤ val x ∧ x.length ≤ 1000000000 } => [(3, 0, .av (limV x.1)), (0, 0, .av (limV a))]) (fun x => val x.1) ⟨(List.replicate (k + 1) 0).set k 1, hlo, by rw [hval]; exact Nat.pow_pos (by omega), by rw [hval]; exact hrt, by omega⟩ (le_of ?_) ?_
    · simp only [go_sem, leL, Nat.reduceBEq, Nat.reduceBNe, Nat.reduceLT, Nat.reduceLeDiff, Nat.reduceAdd, Nat.reduceSub, Nat.reduceMul, Nat.reduceEqDiff, Int.reduceNeg, Int.reduceAdd, Int.reduceLT, Int.reduceLE, Int.reduceToNat, ↓reduceIte]
    · rintro ⟨x, hx1, hx2, hx3, hx4⟩
      have hsh : shiftN (val x + n / val x) (-1) = (val x + n / val x) / 2 := rfl
      have l0 := limbs_len_val (xs := a) ha
      rw [hn] at l0
      have l1 := limbs_len_mono (Nat.div_le_self n (val x))
      have l2 := limbs_len_val hx1
      have l3 := limbs_len_add (val x) (n / val x)
      have l4 := limbs_len_mono (Nat.div_le_self (val x + n / val x) 2)
      simp only [go_sem, d_nat_Bits, d_nat_DivMod, d_nat_Add, d_nat_Shift, d_nat_Cmp, d_nat_Trim, fz_root_Int, hn, Nat.reduceBEq, Nat.reduceBNe, Nat.reduceLT, Nat.reduceLeDiff, Nat.reduceAdd, Nat.reduceSub, Nat.reduceMul, Nat.reduceEqDiff, Int.reduceNeg, Int.reduceAdd, Int.reduceLT, Int.reduceLE, Int.reduceToNat, ↓reduceIte]
      rw [hsh]
      refine ⟨⟨by omega, by omega⟩, ⟨by omega, by omega⟩, by omega, ⟨by omega, by omega⟩, ?_⟩
      split
      · rename_i hge
        exact ⟨by omega, by rw [← rt_stop hx2 hx3 hge]⟩
      · rename_i hlt
        have hlt : (val x + n / val x) / 2 < val x := by omega
        have hnw := rt_newton (n := n) hx2
        have l5 := limbs_len_mono (Nat.le_of_lt hlt)
        have hpos : 0 < (val x + n / val x) / 2 := by
          rcases Nat.eq_zero_or_pos ((val x + n / val x) / 2) with h | h
          · exfalso
            have hr0 : rt n = 0 := by omega
            obtain ⟨_, k2⟩ := rt_spec n
            rw [hr0] at k2
            have hn0 : n = 0 := by omega
            apply hnz
            rw [hn0, blen_zero]; rfl
          · exact h
        refine ⟨⟨limbs ((val x + n / val x) / 2), limbs_lt _, by rw [val_limbs]; exact hpos, by rw [val_limbs]; exact hnw, by omega⟩, by show val (limbs _) < _; rw [val_limbs]; exact hlt, le_of ?_⟩
        simp only [go_sem, leL, Nat.reduceBEq, Nat.reduceBNe, Nat.reduceLT, Nat.reduceLeDiff, Nat.reduceAdd, Nat.reduceSub, Nat.reduceMul, Nat.reduceEqDiff, Int.reduceNeg, Int.reduceAdd, Int.reduceLT, Int.reduceLE, Int.reduceToNat, ↓reduceIte, hsh]


end Go.Proofs.Ytmfoihjkhoinaaa
