/- Division of rows of limbs, limb by limb: the plain arithmetic. No program. Contract of nat.long: a number by one of several limbs, and what is left. Conditions: both without noughts at the end, the divisor of two limbs at least and not longer; at most 10^12 limbs. Contract of nat.long: a number by one of several limbs, and what is left. Conditions: both without noughts at the end, the divisor of two limbs at least and not longer; at most 10^12 limbs. Contracts of nat.DivMod and nat.Gcd. Condition: at most 10^12 limbs each. Contract of nat.Gcd. Condition: at most 10^12 limbs each. -/
import Derived.Test.YtocpmekblkfdiaaGreatDoorGK
import Derived.Test.YtocpmekblkfdiaaGreatDoorGB
import Derived.Test.YtocpmekblkfdiaaGreatDoorShiftUp
import Derived.Test.YtocpmekblkfdiaaGreatDoorLen
import Derived.Deep.LoopGhost
namespace Go.Proofs.YtocpmekblkfdiaaGreatDoor
open Go.RowKit
theorem quot_le {P D2 dl U3 ul Q D U : Nat} (hul : ul < P) (hD : D = D2 * P + dl) (hU : U = U3 * P + ul) (h : Q * D ≤ U) : Q * D2 ≤ U3 := by
  have h1 : Q * D2 * P ≤ Q * D := by rw [hD, Nat.mul_add, Nat.mul_assoc]; omega
  have h2 : Q * D2 * P < (U3 + 1) * P := by rw [Nat.add_mul]; omega
  have := Nat.lt_of_mul_lt_mul_right h2
  omega
theorem over_le {P D2 dl U3 ul X D U : Nat} (hdl : dl < P) (hD : D = D2 * P + dl) (hU : U = U3 * P + ul) (hX : X * D2 ≤ U3) (hXB : X < 4294967296) (hB : 4294967296 ≤ D2) : X * D ≤ U + D := by
  have h1 : X * D2 * P ≤ U3 * P := Nat.mul_le_mul_right _ hX
  have h2 : X * dl ≤ X * P := Nat.mul_le_mul_left _ (Nat.le_of_lt hdl)
  have h3 : X * P ≤ D2 * P := Nat.mul_le_mul_right _ (by omega)
  have e : X * D = X * D2 * P + X * dl := by rw [hD, Nat.mul_add, Nat.mul_assoc]
  omega
/-- the guess, taken away, given back: just the quotient and what is left -/
theorem guess_right {U D X : Nat} (hD : 0 < D) (h1 : U / D ≤ X) (h2 : X * D ≤ U + D) :
    takenOf U D X + (if U < X * D then X - 1 else X) * D = U ∧ takenOf U D X < D := by
  unfold takenOf
  by_cases h : X * D ≤ U
  · rw [if_pos h, if_neg (by omega)]
    have h3 : X ≤ U / D := (Nat.le_div_iff_mul_le hD).2 h
    have e : X = U / D := by omega
    refine ⟨by omega, ?_⟩
    have := Nat.div_add_mod U D
    have hm := Nat.mod_lt U hD
    rw [e, Nat.mul_comm]
    omega
  · rw [if_neg h, if_pos (by omega)]
    have h0 : 0 < X := by
      rcases Nat.eq_zero_or_pos X with h0 | h0
      · subst h0; simp at h
      · exact h0
    obtain ⟨Y, rfl⟩ : ∃ Y, X = Y + 1 := ⟨X - 1, by omega⟩
    rw [Nat.add_mul, Nat.one_mul] at *
    rw [show Y + 1 - 1 = Y from rfl]
    have h3 : Y ≤ U / D := (Nat.le_div_iff_mul_le hD).2 (by omega)
    have h4 : ¬ Y + 1 ≤ U / D := fun h5 => by
      have := (Nat.le_div_iff_mul_le hD).1 h5
      rw [Nat.add_mul, Nat.one_mul] at this
      omega
    omega
theorem val_top1 {xs : List Nat} {n : Nat} (h : xs.length = n + 1) : val xs = val (xs.take n) + 4294967296 ^ n * xs.getD n 0 := by
  have := val_take_last (xs := xs) (k := n) (by omega)
  rwa [List.take_of_length_le (by omega)] at this
theorem val_top2 {ds : List Nat} {n : Nat} (h : ds.length = n + 2) : val ds = (ds.getD (n + 1) 0 * 4294967296 + ds.getD n 0) * 4294967296 ^ n + val (ds.take n) := by
  rw [val_top1 (n := n + 1) h, val_take_last (by omega), Nat.pow_succ, Nat.add_mul]
  rw [Nat.mul_comm (ds.getD n 0), show ds.getD (n + 1) 0 * 4294967296 * 4294967296 ^ n = 4294967296 ^ n * 4294967296 * ds.getD (n + 1) 0 from by rw [Nat.mul_assoc, Nat.mul_comm, Nat.mul_comm 4294967296]]
  omega
theorem val_top3 {us : List Nat} {n : Nat} (h : us.length = n + 3) :
    val us = ((us.getD (n + 2) 0 * 4294967296 + us.getD (n + 1) 0) * 4294967296 + us.getD n 0) * 4294967296 ^ n + val (us.take n) := by
  rw [val_top1 (n := n + 2) h]
  have h2 := val_top2 (ds := us.take (n + 2)) (n := n) (by simp; omega)
  have e1 : (us.take (n + 2)).getD (n + 1) 0 = us.getD (n + 1) 0 := by simp only [List.getD_eq_getElem?_getD]; rw [List.getElem?_take_of_lt (by omega)]
  have e2 : (us.take (n + 2)).getD n 0 = us.getD n 0 := by simp only [List.getD_eq_getElem?_getD]; rw [List.getElem?_take_of_lt (by omega)]
  have e3 : (us.take (n + 2)).take n = us.take n := by rw [List.take_take, Nat.min_eq_left (by omega)]
  rw [e1, e2, e3] at h2
  rw [h2]
  generalize us.getD (n + 2) 0 = a
  generalize us.getD (n + 1) 0 = b
  generalize us.getD n 0 = c
  rw [show 4294967296 ^ (n + 2) = 4294967296 * 4294967296 * 4294967296 ^ n from by rw [Nat.pow_succ, Nat.pow_succ, Nat.mul_assoc, Nat.mul_comm]]
  generalize 4294967296 ^ n = p
  generalize val (us.take n) = t
  have e4 : ((a * 4294967296 + b) * 4294967296 + c) * p = 4294967296 * 4294967296 * p * a + (b * 4294967296 + c) * p := by
    rw [Nat.add_mul, Nat.add_mul, Nat.add_mul, Nat.add_mul]
    have : a * 4294967296 * 4294967296 * p = 4294967296 * 4294967296 * p * a := by
      rw [Nat.mul_comm (4294967296 * 4294967296 * p) a, Nat.mul_assoc a, Nat.mul_assoc a]
    omega
  omega
theorem val_take_lt {xs : List Nat} {n : Nat} (hx : ∀ x ∈ xs, x < 4294967296) (h : n ≤ xs.length) : val (xs.take n) < 4294967296 ^ n := by
  have := val_lt (xs := xs.take n) (fun x h => hx x (List.mem_of_mem_take h))
  rwa [List.length_take, Nat.min_eq_left h] at this
/-- the guess for a piece that is below the divisor times a limb -/
theorem guess_piece {us ds : List Nat} {n : Nat} (hus : us.length = n + 3) (hds : ds.length = n + 2) (hlu : ∀ x ∈ us, x < 4294967296) (hld : ∀ x ∈ ds, x < 4294967296)
    (htop : 2147483648 ≤ ds.getD (n + 1) 0) (hlt : val us < 4294967296 * val ds) :
    us.getD (n + 2) 0 ≤ ds.getD (n + 1) 0 ∧
    guessOf (us.getD (n + 2) 0 * 4294967296 + us.getD (n + 1) 0) (us.getD n 0) (ds.getD (n + 1) 0) (ds.getD n 0) < 4294967296 ∧
    val us / val ds ≤ guessOf (us.getD (n + 2) 0 * 4294967296 + us.getD (n + 1) 0) (us.getD n 0) (ds.getD (n + 1) 0) (ds.getD n 0) ∧
    guessOf (us.getD (n + 2) 0 * 4294967296 + us.getD (n + 1) 0) (us.getD n 0) (ds.getD (n + 1) 0) (ds.getD n 0) * val ds ≤ val us + val ds := by
  have tu := val_top3 hus
  have td := val_top2 hds
  have hul := val_take_lt (n := n) hlu (by omega)
  have hdl := val_take_lt (n := n) hld (by omega)
  have b1 := getD_lt hlu (n + 2)
  have b2 := getD_lt hlu (n + 1)
  have b3 := getD_lt hlu n
  have b4 := getD_lt hld (n + 1)
  have b5 := getD_lt hld n
  generalize val (us.take n) = ul at *
  generalize val (ds.take n) = dl at *
  generalize us.getD (n + 2) 0 = u2 at *
  generalize us.getD (n + 1) 0 = u1 at *
  generalize us.getD n 0 = u0 at *
  generalize ds.getD (n + 1) 0 = d1 at *
  generalize ds.getD n 0 = d0 at *
  have hp : 0 < 4294967296 ^ n := Nat.pow_pos (by omega)
  generalize hP : 4294967296 ^ n = P at *
  have hDpos : 0 < val ds := by
    rw [td]
    have : 1 * P ≤ (d1 * 4294967296 + d0) * P := Nat.mul_le_mul_right _ (by omega)
    omega
  generalize val us = U at *
  generalize val ds = D at *
  have hUP : ((u2 * 4294967296 + u1) * 4294967296 + u0) * P < 4294967296 * ((d1 * 4294967296 + d0) + 1) * P := by
    have : D ≤ ((d1 * 4294967296 + d0) + 1) * P := by rw [Nat.add_mul]; omega
    have h2 := Nat.mul_le_mul_left 4294967296 this
    rw [← Nat.mul_assoc] at h2
    omega
  have hU3 := Nat.lt_of_mul_lt_mul_right hUP
  have hle : u2 ≤ d1 := by omega
  unfold guessOf
  generalize hX : min 4294967295 (((u2 * 4294967296 + u1) * 4294967296 + u0) / (d1 * 4294967296 + d0)) = X
  have hX1 : X ≤ 4294967295 := by rw [← hX]; exact Nat.min_le_left _ _
  have hX2 : X * (d1 * 4294967296 + d0) ≤ (u2 * 4294967296 + u1) * 4294967296 + u0 := by
    have : X ≤ ((u2 * 4294967296 + u1) * 4294967296 + u0) / (d1 * 4294967296 + d0) := by rw [← hX]; exact Nat.min_le_right _ _
    exact (Nat.le_div_iff_mul_le (by omega)).1 this
  refine ⟨hle, by omega, ?_, over_le hdl td tu hX2 (by omega) (by omega)⟩
  rw [← hX]
  refine Nat.le_min.2 ⟨?_, ?_⟩
  · have : U / D < 4294967296 := Nat.div_lt_of_lt_mul (by rw [Nat.mul_comm]; exact hlt)
    omega
  · rw [Nat.le_div_iff_mul_le (by omega)]
    exact quot_le hul td tu (Nat.div_mul_le_self U D)
/-- the long division behind all places from i on -/
def LongInv (zs qs : List Nat) (la n A D i : Nat) : Prop :=
  zs.length = la + 1 ∧ (∀ x ∈ zs, x < 4294967296) ∧ qs.length = la + 1 - n ∧ (∀ x ∈ qs, x < 4294967296) ∧ (∀ j, j < i → qs.getD j 0 = 0) ∧ A = val zs + D * val qs ∧ val zs < 4294967296 ^ i * D
theorem longInv_zero {zs ds : List Nat} {la n A : Nat} (hz : zs.length = la + 1) (hl : ∀ x ∈ zs, x < 4294967296) (hA : val zs = A) (hd : ds.length = n) (hn : 1 ≤ n) (hla : n ≤ la)
    (htop : 2147483648 ≤ ds.getD (n - 1) 0) (hfit : A < 4294967296 ^ la * 2147483648) : LongInv zs (List.replicate (la + 1 - n) 0) la n A (val ds) (la + 1 - n) := by
  refine ⟨hz, hl, by simp, replicate_lt _, fun j _ => getD_replicate _ _, by simp [val_replicate, hA], ?_⟩
  obtain ⟨m, rfl⟩ : ∃ m, n = m + 1 := ⟨n - 1, by omega⟩
  have h1 := val_top1 (xs := ds) (n := m) hd
  rw [show m + 1 - 1 = m from rfl] at htop
  have h2 : 4294967296 ^ m * 2147483648 ≤ val ds := by
    have := Nat.mul_le_mul_left (4294967296 ^ m) htop
    omega
  have h3 : 4294967296 ^ (la + 1 - (m + 1)) * (4294967296 ^ m * 2147483648) ≤ 4294967296 ^ (la + 1 - (m + 1)) * val ds := Nat.mul_le_mul_left _ h2
  rw [← Nat.mul_assoc, ← Nat.pow_add, show la + 1 - (m + 1) + m = la from by omega] at h3
  omega
theorem cut3 (zs : List Nat) (i m : Nat) : zs = zs.take i ++ (zs.drop i).take m ++ zs.drop (i + m) := by
  rw [List.append_assoc, ← List.drop_drop, List.take_append_drop, List.take_append_drop]
theorem longInv_piece {zs qs : List Nat} {la n A D i : Nat} (h : LongInv zs qs la n A D (i + 1)) (hi : i + n ≤ la) (hD : D < 4294967296 ^ n) :
    (zs.take i).length = i ∧ ((zs.drop i).take (n + 1)).length = n + 1 ∧ (∀ x ∈ (zs.drop i).take (n + 1), x < 4294967296) ∧ val ((zs.drop i).take (n + 1)) < 4294967296 * D ∧
      val zs = val (zs.take i) + 4294967296 ^ i * val ((zs.drop i).take (n + 1)) ∧ val (zs.drop (i + (n + 1))) = 0 := by
  obtain ⟨h1, h2, h3, h4, h5, h6, h7⟩ := h
  have hl : (zs.take i).length = i := by simp; omega
  have hl2 : ((zs.drop i).take (n + 1)).length = n + 1 := by simp; omega
  have hlt : ∀ x ∈ (zs.drop i).take (n + 1), x < 4294967296 := fun x hx => h2 x (List.mem_of_mem_drop (List.mem_of_mem_take hx))
  have hv : val zs = val (zs.take i) + 4294967296 ^ i * (val ((zs.drop i).take (n + 1)) + 4294967296 ^ (n + 1) * val (zs.drop (i + (n + 1)))) := by
    conv => lhs; rw [cut3 zs i (n + 1)]
    rw [List.append_assoc, val_append, val_append, hl, hl2]
  have hz : val (zs.drop (i + (n + 1))) = 0 := by
    rcases Nat.eq_zero_or_pos (val (zs.drop (i + (n + 1)))) with h0 | h0
    · exact h0
    · have e1 : 4294967296 ^ (n + 1) * 1 ≤ 4294967296 ^ (n + 1) * val (zs.drop (i + (n + 1))) := Nat.mul_le_mul_left _ h0
      have e2 : 4294967296 ^ i * 4294967296 ^ (n + 1) ≤ 4294967296 ^ i * (val ((zs.drop i).take (n + 1)) + 4294967296 ^ (n + 1) * val (zs.drop (i + (n + 1)))) := Nat.mul_le_mul_left _ (by omega)
      have e3 : 4294967296 ^ (i + 1) * D ≤ 4294967296 ^ i * 4294967296 ^ (n + 1) := by
        rw [Nat.pow_succ, Nat.mul_assoc]
        refine Nat.mul_le_mul_left _ ?_
        rw [Nat.pow_succ, Nat.mul_comm]
        exact Nat.mul_le_mul_right _ (Nat.le_of_lt hD)
      omega
  rw [hz, Nat.mul_zero, Nat.add_zero] at hv
  refine ⟨hl, hl2, hlt, ?_, hv, hz⟩
  rw [Nat.pow_succ, Nat.mul_assoc] at h7
  exact Nat.lt_of_mul_lt_mul_left (Nat.lt_of_le_of_lt (by omega) h7)
theorem longInv_step {zs qs us' : List Nat} {la n A D i x : Nat} (h : LongInv zs qs la n A D (i + 1)) (hi : i + n ≤ la) (hD : D < 4294967296 ^ n)
    (hl : us'.length = n + 1) (hlt : ∀ x ∈ us', x < 4294967296) (hx : x < 4294967296) (hU : val us' + x * D = val ((zs.drop i).take (n + 1))) (hlt2 : val us' < D) :
    LongInv (zs.take i ++ us' ++ zs.drop (i + (n + 1))) (qs.set i x) la n A D i := by
  obtain ⟨p1, p2, p3, p4, p5, p6⟩ := longInv_piece h hi hD
  obtain ⟨h1, h2, h3, h4, h5, h6, h7⟩ := h
  have hv : val (zs.take i ++ us' ++ zs.drop (i + (n + 1))) = val (zs.take i) + 4294967296 ^ i * val us' := by
    rw [List.append_assoc, val_append, val_append, p1, p6]; simp
  refine ⟨by simp [hl]; omega, ?_, by simpa using h3, mem_set_lt h4 hx, fun j hj => ?_, ?_, ?_⟩
  · intro y hy
    rcases List.mem_append.1 hy with hy | hy
    · rcases List.mem_append.1 hy with hy | hy
      · exact h2 y (List.mem_of_mem_take hy)
      · exact hlt y hy
    · exact h2 y (List.mem_of_mem_drop hy)
  · rw [getD_set_ne (by omega)]; exact h5 j (by omega)
  · rw [hv, val_set (by omega) (h5 i (by omega)), h6, p5, ← hU, Nat.mul_add, Nat.mul_add]
    have : 4294967296 ^ i * (x * D) = D * (4294967296 ^ i * x) := by rw [Nat.mul_comm x D, Nat.mul_left_comm]
    omega
  · rw [hv]
    have hp := val_take_lt (n := i) h2 (by omega)
    have : 4294967296 ^ i * (val us' + 1) ≤ 4294967296 ^ i * D := Nat.mul_le_mul_left _ hlt2
    rw [Nat.mul_add] at this
    omega
theorem longInv_end {zs qs : List Nat} {la n a b s : Nat} (h : LongInv zs qs la n (a * 2 ^ s) (b * 2 ^ s) 0) (hD : b * 2 ^ s < 4294967296 ^ n) (hn : n ≤ la) :
    val qs = a / b ∧ val (zs.take n) / 2 ^ s = a % b := by
  obtain ⟨h1, h2, h3, h4, h5, h6, h7⟩ := h
  rw [Nat.pow_zero, Nat.one_mul] at h7
  have hp : 0 < 2 ^ s := Nat.two_pow_pos s
  have hb : 0 < b * 2 ^ s := by omega
  have e1 : val qs = a / b := by
    rw [← Nat.mul_div_mul_right a b hp, h6, Nat.add_mul_div_left _ _ hb, Nat.div_eq_of_lt h7, Nat.zero_add]
  have e2 : val zs = a % b * 2 ^ s := by
    rw [← Nat.mul_mod_mul_right, h6, Nat.add_mul_mod_self_left, Nat.mod_eq_of_lt h7]
  refine ⟨e1, ?_⟩
  have e3 : val (zs.take n) = val zs := by
    have hs := val_split zs n (by omega)
    rcases Nat.eq_zero_or_pos (val (zs.drop n)) with h0 | h0
    · rw [h0] at hs; simpa using hs.symm
    · have : 4294967296 ^ n * 1 ≤ 4294967296 ^ n * val (zs.drop n) := Nat.mul_le_mul_left _ h0
      omega
  rw [e3, e2, Nat.mul_div_cancel _ hp]
end Go.Proofs.YtocpmekblkfdiaaGreatDoor
namespace Go.Proofs.YtocpmekblkfdiaaGreatDoor
open Go.RowKit
attribute [local go_sem ↓] Go.wp_at_zero Go.wp_at_succ
theorem bitLenAux_spec : ∀ (f x : Nat), x < 2 ^ f → x < 2 ^ Lib.bitLenAux f x ∧ (x ≠ 0 → 1 ≤ Lib.bitLenAux f x ∧ 2 ^ (Lib.bitLenAux f x - 1) ≤ x)
  | 0, x, h => by
    have : x = 0 := by simpa using h
    subst this
    simp [Lib.bitLenAux]
  | f + 1, x, h => by
    simp only [Lib.bitLenAux]
    by_cases h0 : x = 0
    · subst h0; simp
    · rw [if_neg h0]
      have ih := bitLenAux_spec f (x / 2) (by rw [Nat.pow_succ] at h; omega)
      have h00 : x / 2 = 0 → Lib.bitLenAux f (x / 2) = 0 := by intro h; rw [h]; cases f <;> simp [Lib.bitLenAux]
      generalize Lib.bitLenAux f (x / 2) = l at *
      refine ⟨by rw [Nat.add_comm, Nat.pow_succ]; omega, fun _ => ⟨by omega, ?_⟩⟩
      rw [show 1 + l - 1 = l from by omega]
      by_cases h2 : x / 2 = 0
      · have := h00 h2
        subst this
        simp; omega
      · have h3 := ih.2 h2
        obtain ⟨m, rfl⟩ : ∃ m, l = m + 1 := ⟨l - 1, by omega⟩
        rw [Nat.pow_succ]
        have := h3.2
        rw [show m + 1 - 1 = m from rfl] at this
        omega
def lz (t : Nat) : Nat := 32 - Lib.bitLen t
theorem bitLen_32 {t : Nat} (h : t < 4294967296) : Lib.bitLen t ≤ 32 ∧ t < 2 ^ Lib.bitLen t ∧ (t ≠ 0 → 1 ≤ Lib.bitLen t ∧ 2 ^ (Lib.bitLen t - 1) ≤ t) := by
  have hs := bitLenAux_spec 64 t (by omega)
  refine ⟨?_, hs⟩
  change t < 2 ^ Lib.bitLen t ∧ (t ≠ 0 → 1 ≤ Lib.bitLen t ∧ 2 ^ (Lib.bitLen t - 1) ≤ t) at hs
  by_cases h0 : t = 0
  · subst h0; simp [Lib.bitLen, Lib.bitLenAux]
  · obtain ⟨h1, h2⟩ := hs.2 h0
    generalize Lib.bitLen t = l at *
    rcases Nat.lt_or_ge 32 l with h3 | h3
    · have : 2 ^ 32 ≤ 2 ^ (l - 1) := Nat.pow_le_pow_right (by omega) (by omega)
      omega
    · exact h3
theorem lz_spec {t : Nat} (h0 : 0 < t) (h : t < 4294967296) : lz t < 32 ∧ 2147483648 ≤ t * 2 ^ lz t ∧ t * 2 ^ lz t < 4294967296 := by
  obtain ⟨h1, h2, h3⟩ := bitLen_32 h
  obtain ⟨h4, h5⟩ := h3 (by omega)
  unfold lz
  generalize Lib.bitLen t = l at *
  refine ⟨by omega, ?_, ?_⟩
  · have e : 2 ^ (l - 1) * 2 ^ (32 - l) = 2147483648 := by rw [← Nat.pow_add, show l - 1 + (32 - l) = 31 from by omega]
    have := Nat.mul_le_mul_right (2 ^ (32 - l)) h5
    omega
  · have e : 2 ^ l * 2 ^ (32 - l) = 4294967296 := by rw [← Nat.pow_add, show l + (32 - l) = 32 from by omega]
    rw [← e]
    exact Nat.mul_lt_mul_of_pos_right h2 (Nat.two_pow_pos _)
theorem bitsLZ (t : Nat) (w : World) (h : t < 4294967296) : Calls Tryz.prog 217 #[.int .u32 t] w fun e w' => e = .returned (.int .i64 (lz t)) ∧ w = w' := by
  have h1 := (bitLen_32 h).1
  refine (bitsLeadingZeros32 t w (by omega) (by omega)).mono ?_
  rintro e w' ⟨rfl, rfl⟩
  refine ⟨?_, rfl⟩
  rw [Int.toNat_natCast]
  unfold lz
  congr 2
  omega
/-- the divisor, shifted till its highest bit is set, fits its row, and its last limb has that bit -/
theorem norm_fits {C : List Nat} {n s : Nat} (hn : C.length = n + 1) (hl : ∀ x ∈ C, x < 4294967296) (hs : C.getD n 0 * 2 ^ s < 4294967296) (hs32 : s < 32) : val C * 2 ^ s < 4294967296 ^ (n + 1) := by
  have h1 := val_top1 hn
  have h2 := val_take_lt (n := n) hl (by omega)
  have h3 : C.getD n 0 * 2 ^ s + 2 ^ s ≤ 4294967296 := by
    have e : (4294967296 : Nat) = 2 ^ (32 - s) * 2 ^ s := by rw [← Nat.pow_add, show 32 - s + s = 32 from by omega]
    rw [e] at hs ⊢
    have := Nat.lt_of_mul_lt_mul_right hs
    have h4 := Nat.mul_le_mul_right (2 ^ s) this
    rw [Nat.succ_mul] at h4
    exact h4
  generalize C.getD n 0 = t at *
  generalize val (C.take n) = r at *
  rw [h1, Nat.pow_succ]
  have h5 : (r + 4294967296 ^ n * t) * 2 ^ s < (4294967296 ^ n + 4294967296 ^ n * t) * 2 ^ s := Nat.mul_lt_mul_of_pos_right (by omega) (Nat.two_pow_pos _)
  have h6 : (4294967296 ^ n + 4294967296 ^ n * t) * 2 ^ s = 4294967296 ^ n * (t * 2 ^ s + 2 ^ s) := by
    rw [Nat.add_mul, Nat.mul_add, Nat.mul_assoc, Nat.add_comm]
  have h7 := Nat.mul_le_mul_left (4294967296 ^ n) h3
  omega
theorem norm_top {C ds : List Nat} {n s : Nat} (hn : C.length = n + 1) (hd : ds.length = n + 1) (hld : ∀ x ∈ ds, x < 4294967296) (hv : val ds = val C * 2 ^ s) (hs : 2147483648 ≤ C.getD n 0 * 2 ^ s) : 2147483648 ≤ ds.getD n 0 := by
  have h1 := val_top1 hn
  have h2 := val_top1 hd
  have h3 := val_take_lt (n := n) hld (by omega)
  have h4 : 4294967296 ^ n * 2147483648 ≤ val ds := by
    have e1 := Nat.mul_le_mul_left (4294967296 ^ n) hs
    have e2 : 4294967296 ^ n * (C.getD n 0 * 2 ^ s) ≤ val C * 2 ^ s := by
      rw [← Nat.mul_assoc]
      exact Nat.mul_le_mul_right _ (by omega)
    omega
  have h5 : 4294967296 ^ n * 2147483648 < 4294967296 ^ n * (ds.getD n 0 + 1) := by rw [Nat.mul_add]; omega
  have := Nat.lt_of_mul_lt_mul_left h5
  omega
theorem norm_num {A : List Nat} {la s : Nat} (hn : A.length = la) (hl : ∀ x ∈ A, x < 4294967296) (hs : s < 32) : val A * 2 ^ s < 4294967296 ^ la * 2147483648 ∧ val A * 2 ^ s < 4294967296 ^ (la + 1) := by
  have h1 := val_lt hl
  rw [hn] at h1
  have h2 : 2 ^ s ≤ 2147483648 := by
    have : (2147483648 : Nat) = 2 ^ 31 := by decide
    rw [this]; exact Nat.pow_le_pow_right (by omega) (by omega)
  have h3 : val A * 2 ^ s < 4294967296 ^ la * 2 ^ s := Nat.mul_lt_mul_of_pos_right h1 (Nat.two_pow_pos _)
  have h4 : 4294967296 ^ la * 2 ^ s ≤ 4294967296 ^ la * 2147483648 := Nat.mul_le_mul_left _ h2
  refine ⟨by omega, ?_⟩
  rw [Nat.pow_succ]
  have : 0 < 4294967296 ^ la := Nat.pow_pos (by omega)
  omega
theorem limbs_top (n : Nat) : 0 < n → (limbs n).getD ((limbs n).length - 1) 0 ≠ 0 := by
  induction n using limbs_induct with
  | h0 => intro h; omega
  | h n hn ih =>
    intro _
    rw [limbs_pos hn]
    by_cases h0 : n / 4294967296 = 0
    · rw [h0, limbs_zero]
      simp; omega
    · have h1 := ih (by omega)
      have h2 : 0 < (limbs (n / 4294967296)).length := by
        rcases Nat.eq_zero_or_pos (limbs (n / 4294967296)).length with h | h
        · rw [limbs_len_zero] at h; omega
        · exact h
      obtain ⟨k, hk⟩ : ∃ k, (limbs (n / 4294967296)).length = k + 1 := ⟨(limbs (n / 4294967296)).length - 1, by omega⟩
      rw [hk, show k + 1 - 1 = k from rfl] at h1
      rw [List.length_cons, hk, show k + 1 + 1 - 1 = k + 1 from rfl, List.getD_cons_succ]
      exact h1
theorem natShiftNeg (w : World) (v : Value) (xs : List Nat) (base k : Nat) (N : Int) (hN : N = -(k : Int)) (h : Nt base w v xs) (hk2 : k ≤ 4096) (hL : xs.length ≤ 7000000000000) :
    Calls Tryz.prog 127 #[v, .int .i64 N] w (RetNat (val xs / 2 ^ k) w) := by
  subst hN
  by_cases h0 : k = 0
  · subst h0
    have := natShiftUp w v xs base 0 h (by omega) hL
    simpa using this
  · exact natShiftDown w v xs base k h (by omega) hk2 (by omega)
/-- What a function answers that hands back two naturals in new memory. -/
def RetNat2 (m n : Nat) (w : World) (e : Ending) (w' : World) : Prop :=
  ∃ v u, e = .returned (.tuple #[v, u]) ∧ Nt w.heap.size w' v (limbs m) ∧ Nt w.heap.size w' u (limbs n) ∧ Below w.heap.size w w'
end Go.Proofs.YtocpmekblkfdiaaGreatDoor
namespace Go.Proofs.YtocpmekblkfdiaaGreatDoor
open Go.RowKit
attribute [local go_sem ↓] Go.wp_at_zero Go.wp_at_succ
theorem piece_getD {zs : List Nat} {i n k : Nat} (h : k < n) : ((zs.drop i).take n).getD k 0 = zs.getD (i + k) 0 := by
  simp only [List.getD_eq_getElem?_getD]
  rw [List.getElem?_take_of_lt h, List.getElem?_drop]
set_option maxRecDepth 100000 in
set_option maxHeartbeats 2000000 in
theorem natLong (w : World) (v1 v2 : Value) (a b b1 b2 : Nat) (h1 : Nt b1 w v1 (limbs a)) (h2 : Nt b2 w v2 (limbs b)) (hn : 2 ≤ (limbs b).length) (hle : (limbs b).length ≤ (limbs a).length) (hL : (limbs a).length ≤ 1000000000000) :
    Calls Tryz.prog 173 #[v1, v2] w (RetNat2 (a / b) (a % b) w) := by
  have hb0 : 0 < b := by
    rcases Nat.eq_zero_or_pos b with h | h
    · subst h; simp [limbs_zero] at hn
    · exact h
  have TP := limbs_top b hb0
  have V1 := Lib.hid (val_limbs a)
  have V2 := Lib.hid (val_limbs b)
  have X1 := Lib.hid (limbs_lt a)
  have X2 := Lib.hid (limbs_lt b)
  generalize limbs a = A at *
  generalize limbs b = C at *
  obtain ⟨n, hn'⟩ : ∃ n, C.length = n + 2 := ⟨C.length - 2, by omega⟩
  obtain ⟨la, hla⟩ : ∃ la, A.length = la := ⟨_, rfl⟩
  obtain ⟨ao1, c1, rfl, hc1⟩ := h1.open
  obtain ⟨ao2, c2, rfl, hc2⟩ := h2.open
  obtain ⟨b4, off4, rfl, _, hb4, hcC⟩ := h2.at_some (k := n + 1) (by omega)
  have hd := hcC (n + 1) (by omega)
  rw [hn', show n + 2 - 1 = n + 1 from rfl] at TP
  have bt := getD_lt X2.out (n + 1)
  have LZ := lz_spec (by omega) bt
  have NF := norm_fits hn' X2.out LZ.2.2 LZ.1
  have NT := fun ds hd hld hv => norm_top (ds := ds) hn' hd hld hv LZ.2.1
  have NN := norm_num hla X1.out LZ.1
  rw [V2.out] at NF
  rw [V1.out] at NN
  have L1 := fun w1 (hb : Below w.heap.size w w1) B N hB hN => natLeftI w1 _ A b1 (lz (C.getD (n + 1) 0)) (la + 1) B N hB hN (h1.below hb (Nat.le_refl _)) LZ.1 (by omega) (by omega) (by omega) (by rw [V1.out]; exact NN.2)
  have L2 := fun w1 (hb : Below w.heap.size w w1) B N hB hN => natLeftI w1 _ C b2 (lz (C.getD (n + 1) 0)) (n + 2) B N hB hN (h2.below hb (Nat.le_refl _)) LZ.1 (by omega) (by omega) (by omega) (by rw [V2.out]; exact NF)
  rw [V1.out] at L1
  rw [V2.out] at L2
  have hs32 := LZ.1
  have NT' := Lib.hid NT
  rw [V2.out] at NT'
  have NF' := Lib.hid NF
  have NN' := Lib.hid NN
  have L1' := Lib.hid L1
  have L2' := Lib.hid L2
  clear NT NF NN L1 L2 LZ hcC
  have LZC := Lib.hid (bitsLZ (C.getD (n + 1) 0) w bt)
  generalize hs : lz (C.getD (n + 1) 0) = s at *
  clear hs
  generalize C.getD (n + 1) 0 = t at *
  have hle2 : n + 2 ≤ la := by omega
  have hL2 : la ≤ 1000000000000 := by omega
  rw [hn'] at *
  rw [hla] at *
  have hd' : w.cell? ⟨b4, off4 + (n + 2 - 1), none⟩ = some (.int .u32 (t : Int)) := hd
  clear h1 h2 TP
  go_enter Tryz.func173, Tryz.ntmps173
  go_wp2_with fail
  refine LZC.out.mono ?_
  rintro e w1 ⟨rfl, rfl⟩
  go_wp2_with fail
  refine (L1'.out w (Below.refl _ _) _ _ ?g1 ?g2).mono ?_
  case g1 => omega
  case g2 => omega
  rintro e w1 ⟨zs, rfl, hR1, hl1, hlt1, hv1, hB1, hsz1⟩
  go_wp2_with fail
  refine (L2'.out w1 hB1 _ _ ?g1 ?g2).mono ?_
  case g1 => omega
  case g2 => omega
  rintro e w2 ⟨ds, rfl, hR2, hl2, hlt2, hv2, hB2, hsz2⟩
  have htop := NT'.out ds hl2 hlt2 hv2
  have HTOP := Lib.hid htop
  clear htop L1' L2' LZC
  obtain ⟨m, hm⟩ : ∃ m, m = la + 1 - (n + 2) := ⟨_, rfl⟩
  have hm1 : la ≤ n + 1 + m := by omega
  have hm2 : n + 1 + m ≤ la := by omega
  have HM := Lib.hid hm
  clear hm
  go_wp2_with (refine wpList_make_row _ rfl _ _ 22 46 rfl Tryz.underlying22 Tryz.infoU32 m _ _ rfl rfl (by omega) (by omega) (by omega) ?_; intro w3 hR3 hB3 hsz3)
  have hI0 : LongInv zs (List.replicate m 0) la (n + 2) (a * 2 ^ s) (b * 2 ^ s) m := by
    have := longInv_zero (zs := zs) (ds := ds) (la := la) (n := n + 2) hl1 hlt1 hv1 hl2 (by omega) (by omega) HTOP.out NN'.out.1
    rw [← HM.out, hv2] at this
    exact this
  have HI0 := Lib.hid hI0
  clear hI0
  have HV2 := Lib.hid hv2
  have HL2 := Lib.hid hl2
  have hld' := hlt2
  have b01 : w.heap.size < w1.heap.size := hsz1
  have b12 : w1.heap.size < w2.heap.size := hsz2
  have hZ3 : RowIs 46 w3 w.heap.size zs := (hR1.below hB2 hsz1).below hB3 (by omega)
  have hD3 : RowIs 46 w3 w1.heap.size ds := hR2.below hB3 hsz2
  have hBB : Below w.heap.size w w3 := bthen (bthen hB1 hB2) hB3
  clear hR1 hR2 hB1 hB2 hB3 hv1 hl1 hlt1 hv2 hl2 NN' hd hd'
  generalize hg0 : w.heap.size = g0 at *
  generalize hg1 : w1.heap.size = g1 at *
  generalize hg2 : w2.heap.size = g2 at *
  have HG0 := Lib.hid hg0
  clear hg0 hg1 hg2
  go_loopw [10] (fun i wr => ∃ (k : Nat) (zs qs : List Nat), k ≤ m ∧ i = .int .i64 ((k : Int) - 1) ∧ RowIs 46 wr g0 zs ∧ RowIs 46 wr g1 ds ∧ RowIs 46 wr g2 qs ∧ LongInv zs qs la (n + 2) (a * 2 ^ s) (b * 2 ^ s) k ∧ Below g0 w wr ∧ g2 < wr.heap.size) (fun i _ => ((intOf i) + 1).toNat)
  case atStart => exact ⟨m, zs, _, Nat.le_refl _, rfl, hZ3, hD3, hR3, HI0.out, hBB, hsz3⟩
  case round =>
    clear hZ3 hD3 hR3 HI0 hBB hsz3 zs
    obtain ⟨k, zs, qs, hk, rfl, hZ, hD, hQ, hinv, hBw, hgs⟩ := hrel
    by_cases h0 : k = 0
    · subst h0
      have hend := longInv_end hinv NF'.out hle2
      have hq := hQ.nt (n := m) (cap := m) (by have := hinv.2.2.1; have := HM.out; omega) (Nat.le_refl _) hinv.2.2.2.1
      have hz := (hZ.nt (n := la + 1) (cap := la + 1) hinv.1.symm (Nat.le_refl _) hinv.2.1).take (n + 2) (by omega)
      have hlz : (zs.take (n + 2)).length ≤ 7000000000000 := by simp; omega
      have HE := Lib.hid hend
      have CQ := Lib.hid (fun w4 (hb : Below wr.heap.size wr w4) => natTrim w4 (some ⟨g2, 0, none⟩) m m qs g2 (a / b) (hq.below hb (Nat.le_refl _)) (by omega) hend.1)
      have tq := hq.trimS hend.1
      have CS := Lib.hid (fun w4 N hN (hb : Below wr.heap.size wr w4) => natShiftNeg w4 _ _ g0 s N hN (hz.below hb (Nat.le_refl _)) (by omega) hlz)
      rw [hend.2] at CS
      have bb1 : (0 : Int) ≤ (n : Int) + 2 := by omega
      have bb2 : (n : Int) + 2 ≤ (la : Int) + 1 := by omega
      have q1 : IntKind.i64.wrap (-(s : Int)) = -(s : Int) := by rw [IntWalk.i64_in _ (by omega)]
      have q2 : ((n : Int) + 2).toNat = n + 2 := by omega
      have q3 : IntKind.i64.wrap (s : Int) = (s : Int) := by rw [IntWalk.i64_in _ (by omega)]
      clear hinv hend hq hz hlz hD hQ hZ
      go_wp2_with fail
      go_region_held3 (fun _ => True) (trivial) (first | ((go_simp; go_at_call 121; refine (CQ.out _ (Below.refl _ _).drew).mono ?_; rintro e w4 ⟨rfl, rfl⟩)) | ((go_simp; go_at_call 127; (with_reducible refine (CS.out _ (-(s : Int)) rfl (Below.refl _ _).drew).mono ?_); rintro e w5 ⟨v5, rfl, hn5, hb5⟩)))
      clear q1 q2 q3
      have hbw : Below wr.heap.size wr w5 := ((Below.refl wr.heap.size wr).drew).trans hb5
      have hB5 : Below g0 w w5 := hBw.trans (hbw.mono (by omega))
      have tq5 := tq.below hbw (Nat.le_refl _)
      go_wp2
      go_ret2
      exact ⟨_, _, rfl, by rw [HG0.out]; exact tq5.mono (by omega), by rw [HG0.out]; exact hn5.mono (by show g0 ≤ wr.heap.size; omega), by rw [HG0.out]; exact hB5⟩
    · obtain ⟨i, rfl⟩ : ∃ i, k = i + 1 := ⟨k - 1, by omega⟩
      have hi1 : ((i + 1 : Nat) : Int) - 1 = (i : Int) := by omega
      rw [hi1]
      clear hi1
      have hzl := Lib.hid hinv.1
      have hdl := HL2.out
      have P := longInv_piece hinv (by omega) NF'.out
      obtain ⟨p1, p2, p3, p4, p5, p6⟩ := P
      rw [← HV2.out] at p4
      have GP := guess_piece (n := n) p2 hdl p3 hld' HTOP.out p4
      have hu2 : ((zs.drop i).take (n + 2 + 1)).getD (n + 2) 0 = zs.getD (i + (n + 2)) 0 := piece_getD (by omega)
      have hu1 : ((zs.drop i).take (n + 2 + 1)).getD (n + 1) 0 = zs.getD (i + (n + 1)) 0 := piece_getD (by omega)
      have hu0 : ((zs.drop i).take (n + 2 + 1)).getD n 0 = zs.getD (i + n) 0 := piece_getD (by omega)
      have bz2 := getD_lt hinv.2.1 (i + (n + 2))
      have bz1 := getD_lt hinv.2.1 (i + (n + 1))
      have bz0 := getD_lt hinv.2.1 (i + n)
      have be1 := getD_lt hld' (n + 1)
      have be0 := getD_lt hld' n
      rw [hu2, hu1, hu0] at GP
      have ht1 := HTOP.out
      have u2 := hZ.cell (i := i + (n + 2)) (by have := hzl.out; omega)
      have u1 := hZ.cell (i := i + (n + 1)) (by have := hzl.out; omega)
      have u0 := hZ.cell (i := i + n) (by have := hzl.out; omega)
      have d1 := hD.cell (i := n + 1) (by omega)
      have d0 := hD.cell (i := n) (by omega)
      generalize zs.getD (i + (n + 2)) 0 = z2 at *
      generalize zs.getD (i + (n + 1)) 0 = z1 at *
      generalize zs.getD (i + n) 0 = z0 at *
      generalize ds.getD (n + 1) 0 = e1 at *
      generalize ds.getD n 0 = e0 at *
      have CG := fun w => natGuess w z2 z1 z0 e1 e0 GP.1 bz1 bz0 ht1 be1 be0
      have hX0 := GP.2.1
      generalize hX : guessOf (z2 * 4294967296 + z1) z0 e1 e0 = X at *
      have GP' := Lib.hid GP
      have CG' := Lib.hid CG
      clear GP CG hX hu2 hu1 hu0 p4
      have HINV := Lib.hid hinv
      clear hinv hdl
      obtain ⟨J, hJ⟩ : ∃ J, J = i + (n + 2) := ⟨_, rfl⟩
      obtain ⟨J1, hJ1⟩ : ∃ J, J = i + (n + 1) := ⟨_, rfl⟩
      obtain ⟨J0, hJ0⟩ : ∃ J, J = i + n := ⟨_, rfl⟩
      obtain ⟨N1, hN1⟩ : ∃ J, J = n + 1 := ⟨_, rfl⟩
      rw [← hJ] at u2
      rw [← hJ1] at u1
      rw [← hJ0] at u0
      rw [← hN1] at d1
      have bb1 : (0 : Int) ≤ (J : Int) := by omega
      have bb2 : (J : Int) < (la : Int) + 1 := by omega
      have bb3 : (0 : Int) ≤ (J1 : Int) := by omega
      have bb4 : (J1 : Int) < (la : Int) + 1 := by omega
      have bb5 : (0 : Int) ≤ (J0 : Int) := by omega
      have bb6 : (J0 : Int) < (la : Int) + 1 := by omega
      have bb7 : (0 : Int) ≤ (N1 : Int) := by omega
      have bb8 : (N1 : Int) < (n : Int) + 2 := by omega
      have bb9 : (n : Int) < (n : Int) + 2 := by omega
      have q1 : IntKind.i64.wrap ((i : Int) + ((n : Int) + 2)) = (J : Int) := by rw [IntWalk.i64_in _ (by omega)]; omega
      have q2 : IntKind.i64.wrap ((J : Int) - 1) = (J1 : Int) := by rw [IntWalk.i64_in _ (by omega)]; omega
      have q3 : IntKind.i64.wrap ((J : Int) - 2) = (J0 : Int) := by rw [IntWalk.i64_in _ (by omega)]; omega
      have q4 : IntKind.i64.wrap ((n : Int) + 2 - 1) = (N1 : Int) := by rw [IntWalk.i64_in _ (by omega)]; omega
      have q5 : IntKind.i64.wrap ((n : Int) + 2 - 2) = (n : Int) := by rw [IntWalk.i64_in _ (by omega)]; omega
      have q6 : IntKind.i64.wrap (n : Int) = (n : Int) := by rw [IntWalk.i64_in _ (by omega)]
      have bb10 : (0 : Int) ≤ (n : Int) := by omega
      have HJ := Lib.hid (And.intro hJ (And.intro hJ1 (And.intro hJ0 hN1)))
      clear hJ hJ1 hJ0 hN1
      go_wp2_with fail
      have kz : g0 < wr.drew.heap.size := by show g0 < wr.heap.size; omega
      have kd : g1 < wr.drew.heap.size := by show g1 < wr.heap.size; omega
      go_region_held3 (fun w' => w'.cell? ⟨g0, J, none⟩ = some (.int .u32 z2) ∧ w'.cell? ⟨g0, J1, none⟩ = some (.int .u32 z1) ∧ w'.cell? ⟨g0, J0, none⟩ = some (.int .u32 z0) ∧ w'.cell? ⟨g1, N1, none⟩ = some (.int .u32 e1) ∧ w'.cell? ⟨g1, n, none⟩ = some (.int .u32 e0)) (first | exact ⟨(hbq.cell kz).trans u2, (hbq.cell kz).trans u1, (hbq.cell kz).trans u0, (hbq.cell kd).trans d1, (hbq.cell kd).trans d0⟩ | go_keep) (first | ((go_simp; go_at_call 218; refine (CG'.out _).mono ?_; rintro e w4 ⟨rfl, hbq⟩)))
      clear q1 q2 q3 q4 q5 q6 bb1 bb2 bb3 bb4 bb5 bb6 bb7 bb8 bb9 bb10 u2 u1 u0 d1 d0
      have hbr : Below wr.heap.size wr w4 := ((Below.refl wr.heap.size wr).drew).trans hbq
      have hZ4 := hZ.below hbr (by omega)
      have hD4 := hD.below hbr (by omega)
      have hQ4 := hQ.below hbr hgs
      have hB4 : Below g0 w w4 := hBw.trans (hbr.mono (by omega))
      have hgs4 : g2 < w4.heap.size := Nat.lt_of_lt_of_le hgs hbr.size
      clear hZ hD hQ hBw hgs kz kd hbq hbr
      rw [cut3 zs i (n + 2 + 1)] at hZ4
      have CT := Lib.hid (fun cap hcap => natTakes w4 g0 g1 i (n + 2) cap X (zs.take i) ((zs.drop i).take (n + 2 + 1)) (zs.drop (i + (n + 2 + 1))) ds hZ4 hD4 (by omega) p1 p2 HL2.out p3 hld' hX0 GP'.out.2.2.2 (by omega) (by omega) hcap)
      go_wp2_with fail
      rw [show i + (n + 2) + 1 - i = n + 2 + 1 from by omega]
      refine (CT.out (la + 1 - i) (by omega)).mono ?_
      rintro e w5 ⟨us', rfl, hZ5, hl5, hlt5, hv5, hO5⟩
      have GR := guess_right (U := val ((zs.drop i).take (n + 2 + 1))) (D := val ds) (X := X) (by have := NF'.out; have h := HV2.out; rw [h]; exact Nat.mul_pos hb0 (Nat.two_pow_pos _)) GP'.out.2.2.1 GP'.out.2.2.2
      rw [← hv5] at GR
      have hx5 : (if val ((zs.drop i).take (n + 2 + 1)) < X * val ds then X - 1 else X) < 4294967296 := by split <;> omega
      have ST := longInv_step HINV.out (by omega) NF'.out hl5 hlt5 hx5 (by rw [← HV2.out]; exact GR.1) (by rw [← HV2.out]; exact GR.2)
      have hD5 := hO5.row hD4 (by omega)
      have hQ5 := hO5.row hQ4 (by omega)
      have hB5 : Below g0 w w5 := hB4.trans (hO5.below (Nat.le_refl _))
      have hgs5 : g2 < w5.heap.size := by rw [hO5.size]; exact hgs4
      have hrow := hQ5.cell (i := i) (by have := HINV.out.2.2.1; rw [this]; omega)
      have hfr := hQ5.frozen i
      have hX1 : val ((zs.drop i).take (n + 2 + 1)) < X * val ds → 1 ≤ X := by
        intro h
        rcases Nat.eq_zero_or_pos X with h0 | h0
        · subst h0; simp at h
        · exact h0
      have HHJ := HJ.out
      clear CT GR hx5 hO5 hZ4 hD4 hQ4 hB4 hgs4 hv5
      generalize val ((zs.drop i).take (n + 2 + 1)) = U at *
      generalize val ds = D at *
      generalize qs.getD i 0 = q0 at *
      by_cases hover : U < X * D
      · have hif : (if U < X * D then X - 1 else X) = X - 1 := if_pos hover
        have hde : decide (U < X * D) = true := by simp; exact hover
        have hx1 := hX1 hover
        rw [hif] at ST
        have ST' := Lib.hid ST
        clear ST hif hX1 hover
        go_wp2
        go_roundw
        case rel => exact ⟨i, _, _, by omega, rfl, hZ5.below ((Below.refl _ _).setCell (show g0 + 1 ≤ _ by show g0 + 1 ≤ g2; omega) _) (by omega), hD5.below ((Below.refl _ _).setCell (show g1 + 1 ≤ _ by show g1 + 1 ≤ g2; omega) _) (by omega), hQ5.storeI i (X - 1) _ (by omega), ST'.out, hB5.setCell (by show g0 ≤ g2; omega) _, by simpa using hgs5⟩
        case measure => simp [intOf]
      · have hif : (if U < X * D then X - 1 else X) = X := if_neg hover
        have hde : decide (U < X * D) = false := by simp; omega
        rw [hif] at ST
        have ST' := Lib.hid ST
        clear ST hif hX1 hover
        go_wp2
        go_roundw
        case rel => exact ⟨i, _, _, by omega, rfl, hZ5.below ((Below.refl _ _).setCell (show g0 + 1 ≤ _ by show g0 + 1 ≤ g2; omega) _) (by omega), hD5.below ((Below.refl _ _).setCell (show g1 + 1 ≤ _ by show g1 + 1 ≤ g2; omega) _) (by omega), hQ5.storeI i X _ (by omega), ST'.out, hB5.setCell (by show g0 ≤ g2; omega) _, by simpa using hgs5⟩
        case measure => simp [intOf]
end Go.Proofs.YtocpmekblkfdiaaGreatDoor
namespace Go.Proofs.YtocpmekblkfdiaaGreatDoor
open Go.RowKit
/-- What a division answers: quotient and rest in new memory; nought twice and false if the divisor is 0. -/
def RetDivMod (m n : Nat) (w : World) (e : Ending) (w' : World) : Prop :=
  ∃ v u, e = .returned (.tuple #[v, u, .bool (decide (n ≠ 0))]) ∧ Nt w.heap.size w' v (limbs (m / n)) ∧ Nt w.heap.size w' u (limbs (if n = 0 then 0 else m % n)) ∧ Below w.heap.size w w'
theorem one_limb {n : Nat} (h : (limbs n).length = 1) : (limbs n).getD 0 0 = n ∧ 0 < n ∧ n < 4294967296 := by
  have h0 : 0 < n := by
    rcases Nat.eq_zero_or_pos n with h' | h'
    · subst h'; simp [limbs_zero] at h
    · exact h'
  have h1 := lt_of_limbs_len (Nat.le_of_eq h)
  rw [limbs_pos h0]
  simp only [Nat.pow_one] at h1
  exact ⟨by simpa using Nat.mod_eq_of_lt h1, h0, h1⟩
set_option maxRecDepth 100000 in
set_option maxHeartbeats 1000000 in
theorem natDivMod (w : World) (v1 v2 : Value) (xs ys : List Nat) (b1 b2 : Nat) (h1 : Nt b1 w v1 xs) (h2 : Nt b2 w v2 ys) (hL1 : xs.length ≤ 1000000000000) (hL2 : ys.length ≤ 1000000000000) :
    Calls Tryz.prog 120 #[v1, v2] w (RetDivMod (val xs) (val ys) w) := by
  obtain ⟨ao1, c1, rfl, hc1⟩ := h1.open
  obtain ⟨ao2, c2, rfl, hc2⟩ := h2.open
  have l1 := limbs_len_val h1.lt
  have l2 := limbs_len_val h2.lt
  have t1 := h1.trim
  have t2 := h2.trim
  have G1 := Lib.hid (natTrim w ao1 xs.length c1 xs b1 _ h1 (by omega) rfl)
  have G2 := Lib.hid (natTrim w ao2 ys.length c2 ys b2 _ h2 (by omega) rfl)
  clear h1 h2
  generalize val xs = m at *
  generalize val ys = n at *
  generalize xs.length = n1 at *
  generalize ys.length = n2 at *
  by_cases hn0 : n = 0
  · subst hn0
    rw [limbs_zero] at t2 G2
    have hz : ((([] : List Nat).length : Int) == 0) = true := by decide
    clear t1 t2 l1
    go_enter Tryz.func120, Tryz.ntmps120
    go_wp2_with (first | ((with_reducible refine G1.out.mono ?_); rintro e w1 ⟨rfl, rfl⟩) | ((with_reducible refine G2.out.mono ?_); rintro e w1 ⟨rfl, rfl⟩))
    go_ret3
    exact ⟨_, _, rfl, by rw [Nat.div_zero]; exact Nt.nil _ _, by rw [if_pos rfl]; exact Nt.nil _ _, Below.refl _ _⟩
  · have hl0 : (limbs n).length ≠ 0 := fun h => hn0 (limbs_len_zero.1 h)
    have hz : (((limbs n).length : Int) == 0) = false := beq_eq_false_iff_ne.2 (by omega)
    have hde : decide (n ≠ 0) = true := by simp; exact hn0
    have hif : (if n = 0 then 0 else m % n) = m % n := if_neg hn0
    have HRet : ∀ (e : Ending) (w' : World), (∃ v u, e = .returned (.tuple #[v, u, .bool true]) ∧ Nt w.heap.size w' v (limbs (m / n)) ∧ Nt w.heap.size w' u (limbs (m % n)) ∧ Below w.heap.size w w') → RetDivMod m n w e w' := by
      rintro e w' ⟨v, u, rfl, h1, h2, h3⟩
      exact ⟨v, u, by rw [hde], h1, by rw [hif]; exact h2, h3⟩
    have HR := Lib.hid HRet
    clear HRet hde hif
    have CC := Lib.hid (natCmp w _ _ (limbs m) (limbs n) b1 b2 t1 t2 (by omega) (by omega))
    rw [val_limbs, val_limbs] at CC
    unfold RetCmp at CC
    by_cases hlt : m < n
    · have e3 : decide (cmpI m n < 0) = true := by simp only [cmpI_lt_zero]; simp; exact hlt
      have CT := Lib.hid (fun w1 (hb : Below w.heap.size w w1) => natTrimC w1 _ (limbs m) b1 (t1.below hb (Nat.le_refl _)) (by omega))
      rw [val_limbs] at CT
      have hd : m / n = 0 := Nat.div_eq_of_lt hlt
      have hm : m % n = m := Nat.mod_eq_of_lt hlt
      rw [hd, hm] at HR
      clear hd hm t1 t2
      generalize cmpI m n = c at *
      generalize limbs n = C at *
      go_enter Tryz.func120, Tryz.ntmps120
      go_wp2_with (first | ((with_reducible refine G1.out.mono ?_); rintro e w1 ⟨rfl, rfl⟩) | ((with_reducible refine G2.out.mono ?_); rintro e w1 ⟨rfl, rfl⟩) | ((with_reducible refine CC.out.mono ?_); rintro e w1 ⟨rfl, hb1⟩) | ((with_reducible refine (CT.out _ hb1).mono ?_); rintro e w2 ⟨v2, rfl, hn2, hb2⟩))
      go_ret3
      exact HR.out _ _ ⟨_, _, rfl, Nt.nil _ _, hn2.mono hb1.size, bthen hb1 hb2⟩
    · have e3 : decide (cmpI m n < 0) = false := by simp only [cmpI_lt_zero]; simp; omega
      by_cases hone : (limbs n).length = 1
      · obtain ⟨hv, hn1, hn2⟩ := one_limb hone
        have hone' : (((limbs n).length : Int) == 1) = true := beq_iff_eq.2 (by omega)
        obtain ⟨b4, off4, rfl, _, hb4, hc4⟩ := t2.at_some (k := 0) (by omega)
        have hd := hc4 0 (by omega)
        rw [hv, Nat.add_zero] at hd
        have CS := Lib.hid (fun w1 (hb : Below w.heap.size w w1) => natSmall w1 _ (limbs m) b1 n (t1.below hb (Nat.le_refl _)) hn1 hn2 (by omega))
        have CO := Lib.hid (fun w1 => natOf w1 (m % n) (by have := Nat.mod_lt m hn1; omega))
        rw [val_limbs] at CS
        have hm2 : m % n < n := Nat.mod_lt _ hn1
        have hpos : 0 < (limbs n).length := by omega
        generalize hr : m % n = r at *
        generalize m / n = q at *
        clear hr
        generalize cmpI m n = c at *
        generalize limbs n = C at *
        clear hv t1 t2 hc4 hL2 l2 hone hl0
        go_enter Tryz.func120, Tryz.ntmps120
        go_wp2_with (first | ((with_reducible refine G1.out.mono ?_); rintro e w1 ⟨rfl, rfl⟩) | ((with_reducible refine G2.out.mono ?_); rintro e w1 ⟨rfl, rfl⟩) | ((with_reducible refine CC.out.mono ?_); rintro e w1 ⟨rfl, hb1⟩; have hd1 := cell_later hb1 hd) | ((with_reducible refine (CS.out _ hb1).mono ?_); rintro e w2 ⟨v2, rfl, hn2', hb2⟩))
        refine (CO.out w2).mono ?_
        rintro e w3 ⟨v3, rfl, hn3, hb3⟩
        go_wp2
        go_ret3
        exact HR.out _ _ ⟨_, _, rfl, (hn2'.mono hb1.size).below hb3 (Nat.le_refl _), hn3.mono (Nat.le_trans hb1.size hb2.size), bthen (bthen hb1 hb2) hb3⟩
      · have hone' : (((limbs n).length : Int) == 1) = false := beq_eq_false_iff_ne.2 (by omega)
        have CL := Lib.hid (fun w1 (hb : Below w.heap.size w w1) => natLong w1 _ _ m n b1 b2 (t1.below hb (Nat.le_refl _)) (t2.below hb (Nat.le_refl _)) (by omega) (limbs_len_mono (by omega)) (by omega))
        generalize m % n = r at *
        generalize m / n = q at *
        generalize cmpI m n = c at *
        generalize limbs n = C at *
        generalize limbs m = A at *
        clear t1 t2 hL2 l2 hone hl0
        go_enter Tryz.func120, Tryz.ntmps120
        go_wp2_with (first | ((with_reducible refine G1.out.mono ?_); rintro e w1 ⟨rfl, rfl⟩) | ((with_reducible refine G2.out.mono ?_); rintro e w1 ⟨rfl, rfl⟩) | ((with_reducible refine CC.out.mono ?_); rintro e w1 ⟨rfl, hb1⟩) | ((with_reducible refine (CL.out _ hb1).mono ?_); rintro e w2 ⟨v2, u2, rfl, hn2, hn3, hb2⟩))
        go_ret3
        exact HR.out _ _ ⟨_, _, rfl, hn2.mono hb1.size, hn3.mono hb1.size, bthen hb1 hb2⟩
end Go.Proofs.YtocpmekblkfdiaaGreatDoor
namespace Go.Proofs.YtocpmekblkfdiaaGreatDoor
open Go.RowKit
set_option maxRecDepth 100000 in
set_option maxHeartbeats 1000000 in
theorem natGcd (w : World) (v1 v2 : Value) (xs ys : List Nat) (b1 b2 : Nat) (h1 : Nt b1 w v1 xs) (h2 : Nt b2 w v2 ys) (hL1 : xs.length ≤ 1000000000000) (hL2 : ys.length ≤ 1000000000000) :
    Calls Tryz.prog 118 #[v1, v2] w (RetNat (Nat.gcd (val xs) (val ys)) w) := by
  have l1 := limbs_len_val h1.lt
  have l2 := limbs_len_val h2.lt
  have G1 := Lib.hid (natTrimC w v1 xs b1 h1 (by omega))
  have G2 := Lib.hid (fun w1 (hb : Below w.heap.size w w1) => natTrimC w1 v2 ys b2 (h2.below hb (Nat.le_refl _)) (by omega))
  clear h1 h2
  generalize val xs = m at *
  generalize val ys = n at *
  generalize xs.length = n1 at *
  generalize ys.length = n2 at *
  have hm : (limbs m).length ≤ 1000000000000 := by omega
  have hn : (limbs n).length ≤ 1000000000000 := by omega
  clear hL1 hL2 l1 l2
  go_enter Tryz.func118, Tryz.ntmps118
  go_wp2_with fail
  refine G1.out.mono ?_
  rintro e w1 ⟨u1, rfl, t1, hb1⟩
  go_wp2_with fail
  refine (G2.out w1 hb1).mono ?_
  rintro e w2 ⟨u2, rfl, t2, hb2⟩
  replace t1 := t1.below hb2 (Nat.le_refl _)
  replace t2 := t2.mono hb1.size
  have hb := bthen hb1 hb2
  clear hb1 hb2 G1 G2
  go_wp2
  generalize hg : w.heap.size = g0 at *
  have HG := Lib.hid hg
  clear hg
  go_loopg [0, 1] n (fun g s0 s1 wr => ∃ p q : Nat, g = q ∧ Nt g0 wr s0 (limbs p) ∧ Nt g0 wr s1 (limbs q) ∧ Hid (Nat.gcd p q = Nat.gcd m n) ∧ (limbs p).length ≤ 1000000000000 ∧ (limbs q).length ≤ 1000000000000 ∧ Below g0 w wr ∧ g0 ≤ wr.heap.size)
  case atStart => exact ⟨m, n, rfl, t1, t2, rfl, hm, hn, hb, by have := hb.size; have := HG.out; omega⟩
  case round =>
    obtain ⟨p, q, hgq, hp, hq, hpq, lp, lq, hBw, hgs⟩ := hrel
    obtain ⟨ao1, c1, rfl, hc1⟩ := hp.open
    obtain ⟨ao2, c2, rfl, hc2⟩ := hq.open
    by_cases hq0 : q = 0
    · subst hq0
      have hr : p = Nat.gcd m n := by rw [← hpq.out, Nat.gcd_zero_right]
      have HR := Lib.hid hr
      have hz : ((limbs 0).length : Nat) = 0 := rfl
      rw [limbs_zero]
      clear hr hz
      go_wp2
      go_ret
      exact ⟨_, rfl, by rw [HG.out, ← HR.out]; exact hp, by rw [HG.out]; exact hBw⟩
    · have hl0 : 0 < (limbs q).length := Nat.pos_of_ne_zero fun h => hq0 (limbs_len_zero.1 h)
      have CD := Lib.hid (natDivMod wr _ _ (limbs p) (limbs q) g0 g0 hp hq lp lq)
      rw [val_limbs, val_limbs] at CD
      have hlt : p % q < q := Nat.mod_lt _ (by omega)
      have hg2 : Nat.gcd q (p % q) = Nat.gcd m n := by rw [← hpq.out, Nat.gcd_comm p q, Nat.gcd_rec q p, Nat.gcd_comm]
      have HG2 := Lib.hid hg2
      have lr : (limbs (p % q)).length ≤ 1000000000000 := Nat.le_trans (limbs_len_mono (Nat.le_of_lt hlt)) lq
      have hif : (if q = 0 then 0 else p % q) = p % q := if_neg hq0
      unfold RetDivMod at CD
      rw [hif] at CD
      have HQ := Lib.hid hgq
      clear hif hg2 hpq hgq
      generalize p % q = r at *
      go_wp2_with (refine CD.out.mono ?_; rintro e w3 ⟨v3, u3, rfl, _, hn3, hb3⟩)
      go_roundg r
      case measure => have := HQ.out; omega
      case rel => exact ⟨q, r, rfl, hq.below hb3 (Nat.le_refl _), hn3.mono hgs, HG2.out, lq, lr, hBw.trans (hb3.mono hgs), Nat.le_trans hgs hb3.size⟩
end Go.Proofs.YtocpmekblkfdiaaGreatDoor
