/- Division of rows of limbs, limb by limb: the plain arithmetic. No program. -/
import Derived.Test.YtdojdghhbjjoeaaTakes
import Derived.Test.YtdojdghhbjjoeaaGuess
namespace Go.Proofs.Ytdojdghhbjjoeaa
open Go.RowKit

theorem quot_le {P D2 dl U3 ul Q D U : Nat} (hul : ul < P) (hD : D = D2 * P + dl) (hU : U = U3 * P + ul) (h : Q * D ≤ U) : Q * D2 ≤ U3 := by
  have h1 : Q * D2 * P ≤ Q * D := by rw [hD, Nat.mul_add, Nat.mul_assoc]; omega
  have h2 : Q * D2 * P < (U3 + 1) * P := by rw [Nat.add_mul]; omega
  have := Nat.lt_of_mul_lt_mul_right h2
  omega

theorem over_le {P D2 dl U3 ul X D U : Nat} (hdl : dl < P) (hD : D = D2 * P + dl) (hU : U = U3 * P + ul) (hX : X * D2 ≤ U3) (hXB : X < 4294967296) (hB : 4294967296 ≤ D2) : X * D ≤ U + D := by
  have h1 : X * D2 * P ≤ U3 * P := Nat.mul_le_mul_right _ hX
  have h2 : X * dl ≤ X * P := Nat.mul_le_mul_left _ (Nat.le_of_lt hdl)
  have h3 : X * P ≤ D2 * P := Nat.mul_le_mul_right _ (by omega)
  have e : X * D = X * D2 * P + X * dl := by rw [hD, Nat.mul_add, Nat.mul_assoc]
  omega

/-- the guess, taken away, given back: just the quotient and what is left -/
theorem guess_right {U D X : Nat} (hD : 0 < D) (h1 : U / D ≤ X) (h2 : X * D ≤ U + D) :
    takenOf U D X + (if U < X * D then X - 1 else X) * D = U ∧ takenOf U D X < D := by
  unfold takenOf
  by_cases h : X * D ≤ U
  · rw [if_pos h, if_neg (by omega)]
    have h3 : X ≤ U / D := (Nat.le_div_iff_mul_le hD).2 h
    have e : X = U / D := by omega
    refine ⟨by omega, ?_⟩
    have := Nat.div_add_mod U D
    have hm := Nat.mod_lt U hD
    rw [e, Nat.mul_comm]
    omega
  · rw [if_neg h, if_pos (by omega)]
    have h0 : 0 < X := by
      rcases Nat.eq_zero_or_pos X with h0 | h0
      · subst h0; simp at h
      · exact h0
    obtain ⟨Y, rfl⟩ : ∃ Y, X = Y + 1 := ⟨X - 1, by omega⟩
    rw [Nat.add_mul, Nat.one_mul] at *
    rw [show Y + 1 - 1 = Y from rfl]
    have h3 : Y ≤ U / D := (Nat.le_div_iff_mul_le hD).2 (by omega)
    have h4 : ¬ Y + 1 ≤ U / D := fun h5 => by
      have := (Nat.le_div_iff_mul_le hD).1 h5
      rw [Nat.add_mul, Nat.one_mul] at this
      omega
    omega

theorem val_top1 {xs : List Nat} {n : Nat} (h : xs.length = n + 1) : val xs = val (xs.take n) + 4294967296 ^ n * xs.getD n 0 := by
  have := val_take_last (xs := xs) (k := n) (by omega)
  rwa [List.take_of_length_le (by omega)] at this

theorem val_top2 {ds : List Nat} {n : Nat} (h : ds.length = n + 2) : val ds = (ds.getD (n + 1) 0 * 4294967296 + ds.getD n 0) * 4294967296 ^ n + val (ds.take n) := by
  rw [val_top1 (n := n + 1) h, val_take_last (by omega), Nat.pow_succ, Nat.add_mul]
  rw [Nat.mul_comm (ds.getD n 0), show ds.getD (n + 1) 0 * 4294967296 * 4294967296 ^ n = 4294967296 ^ n * 4294967296 * ds.getD (n + 1) 0 from by rw [Nat.mul_assoc, Nat.mul_comm, Nat.mul_comm 4294967296]]
  omega

theorem val_top3 {us : List Nat} {n : Nat} (h : us.length = n + 3) :
    val us = ((us.getD (n + 2) 0 * 4294967296 + us.getD (n + 1) 0) * 4294967296 + us.getD n 0) * 4294967296 ^ n + val (us.take n) := by
  rw [val_top1 (n := n + 2) h]
  have h2 := val_top2 (ds := us.take (n + 2)) (n := n) (by simp; omega)
  have e1 : (us.take (n + 2)).getD (n + 1) 0 = us.getD (n + 1) 0 := by simp only [List.getD_eq_getElem?_getD]; rw [List.getElem?_take_of_lt (by omega)]
  have e2 : (us.take (n + 2)).getD n 0 = us.getD n 0 := by simp only [List.getD_eq_getElem?_getD]; rw [List.getElem?_take_of_lt (by omega)]
  have e3 : (us.take (n + 2)).take n = us.take n := by rw [List.take_take, Nat.min_eq_left (by omega)]
  rw [e1, e2, e3] at h2
  rw [h2]
  generalize us.getD (n + 2) 0 = a
  generalize us.getD (n + 1) 0 = b
  generalize us.getD n 0 = c
  rw [show 4294967296 ^ (n + 2) = 4294967296 * 4294967296 * 4294967296 ^ n from by rw [Nat.pow_succ, Nat.pow_succ, Nat.mul_assoc, Nat.mul_comm]]
  generalize 4294967296 ^ n = p
  generalize val (us.take n) = t
  have e4 : ((a * 4294967296 + b) * 4294967296 + c) * p = 4294967296 * 4294967296 * p * a + (b * 4294967296 + c) * p := by
    rw [Nat.add_mul, Nat.add_mul, Nat.add_mul, Nat.add_mul]
    have : a * 4294967296 * 4294967296 * p = 4294967296 * 4294967296 * p * a := by
      rw [Nat.mul_comm (4294967296 * 4294967296 * p) a, Nat.mul_assoc a, Nat.mul_assoc a]
    omega
  omega

theorem val_take_lt {xs : List Nat} {n : Nat} (hx : ∀ x ∈ xs, x < 4294967296) (h : n ≤ xs.length) : val (xs.take n) < 4294967296 ^ n := by
  have := val_lt (xs := xs.take n) (fun x h => hx x (List.mem_of_mem_take h))
  rwa [List.length_take, Nat.min_eq_left h] at this

/-- the guess for a piece that is below the divisor times a limb -/
theorem guess_piece {us ds : List Nat} {n : Nat} (hus : us.length = n + 3) (hds : ds.length = n + 2) (hlu : ∀ x ∈ us, x < 4294967296) (hld : ∀ x ∈ ds, x < 4294967296)
    (htop : 2147483648 ≤ ds.getD (n + 1) 0) (hlt : val us < 4294967296 * val ds) :
    us.getD (n + 2) 0 ≤ ds.getD (n + 1) 0 ∧
    guessOf (us.getD (n + 2) 0 * 4294967296 + us.getD (n + 1) 0) (us.getD n 0) (ds.getD (n + 1) 0) (ds.getD n 0) < 4294967296 ∧
    val us / val ds ≤ guessOf (us.getD (n + 2) 0 * 4294967296 + us.getD (n + 1) 0) (us.getD n 0) (ds.getD (n + 1) 0) (ds.getD n 0) ∧
    guessOf (us.getD (n + 2) 0 * 4294967296 + us.getD (n + 1) 0) (us.getD n 0) (ds.getD (n + 1) 0) (ds.getD n 0) * val ds ≤ val us + val ds := by
  have tu := val_top3 hus
  have td := val_top2 hds
  have hul := val_take_lt (n := n) hlu (by omega)
  have hdl := val_take_lt (n := n) hld (by omega)
  have b1 := getD_lt hlu (n + 2)
  have b2 := getD_lt hlu (n + 1)
  have b3 := getD_lt hlu n
  have b4 := getD_lt hld (n + 1)
  have b5 := getD_lt hld n
  generalize val (us.take n) = ul at *
  generalize val (ds.take n) = dl at *
  generalize us.getD (n + 2) 0 = u2 at *
  generalize us.getD (n + 1) 0 = u1 at *
  generalize us.getD n 0 = u0 at *
  generalize ds.getD (n + 1) 0 = d1 at *
  generalize ds.getD n 0 = d0 at *
  have hp : 0 < 4294967296 ^ n := Nat.pow_pos (by omega)
  generalize hP : 4294967296 ^ n = P at *
  have hDpos : 0 < val ds := by
    rw [td]
    have : 1 * P ≤ (d1 * 4294967296 + d0) * P := Nat.mul_le_mul_right _ (by omega)
    omega
  generalize val us = U at *
  generalize val ds = D at *
  have hUP : ((u2 * 4294967296 + u1) * 4294967296 + u0) * P < 4294967296 * ((d1 * 4294967296 + d0) + 1) * P := by
    have : D ≤ ((d1 * 4294967296 + d0) + 1) * P := by rw [Nat.add_mul]; omega
    have h2 := Nat.mul_le_mul_left 4294967296 this
    rw [← Nat.mul_assoc] at h2
    omega
  have hU3 := Nat.lt_of_mul_lt_mul_right hUP
  have hle : u2 ≤ d1 := by omega
  unfold guessOf
  generalize hX : min 4294967295 (((u2 * 4294967296 + u1) * 4294967296 + u0) / (d1 * 4294967296 + d0)) = X
  have hX1 : X ≤ 4294967295 := by rw [← hX]; exact Nat.min_le_left _ _
  have hX2 : X * (d1 * 4294967296 + d0) ≤ (u2 * 4294967296 + u1) * 4294967296 + u0 := by
    have : X ≤ ((u2 * 4294967296 + u1) * 4294967296 + u0) / (d1 * 4294967296 + d0) := by rw [← hX]; exact Nat.min_le_right _ _
    exact (Nat.le_div_iff_mul_le (by omega)).1 this
  refine ⟨hle, by omega, ?_, over_le hdl td tu hX2 (by omega) (by omega)⟩
  rw [← hX]
  refine Nat.le_min.2 ⟨?_, ?_⟩
  · have : U / D < 4294967296 := Nat.div_lt_of_lt_mul (by rw [Nat.mul_comm]; exact hlt)
    omega
  · rw [Nat.le_div_iff_mul_le (by omega)]
    exact quot_le hul td tu (Nat.div_mul_le_self U D)

/-- the long division behind all places from i on -/
def LongInv (zs qs : List Nat) (la n A D i : Nat) : Prop :=
  zs.length = la + 1 ∧ (∀ x ∈ zs, x < 4294967296) ∧ qs.length = la + 1 - n ∧ (∀ x ∈ qs, x < 4294967296) ∧ (∀ j, j < i → qs.getD j 0 = 0) ∧ A = val zs + D * val qs ∧ val zs < 4294967296 ^ i * D

theorem longInv_zero {zs ds : List Nat} {la n A : Nat} (hz : zs.length = la + 1) (hl : ∀ x ∈ zs, x < 4294967296) (hA : val zs = A) (hd : ds.length = n) (hn : 1 ≤ n) (hla : n ≤ la)
    (htop : 2147483648 ≤ ds.getD (n - 1) 0) (hfit : A < 4294967296 ^ la * 2147483648) : LongInv zs (List.replicate (la + 1 - n) 0) la n A (val ds) (la + 1 - n) := by
  refine ⟨hz, hl, by simp, replicate_lt _, fun j _ => getD_replicate _ _, by simp [val_replicate, hA], ?_⟩
  obtain ⟨m, rfl⟩ : ∃ m, n = m + 1 := ⟨n - 1, by omega⟩
  have h1 := val_top1 (xs := ds) (n := m) hd
  rw [show m + 1 - 1 = m from rfl] at htop
  have h2 : 4294967296 ^ m * 2147483648 ≤ val ds := by
    have := Nat.mul_le_mul_left (4294967296 ^ m) htop
    omega
  have h3 : 4294967296 ^ (la + 1 - (m + 1)) * (4294967296 ^ m * 2147483648) ≤ 4294967296 ^ (la + 1 - (m + 1)) * val ds := Nat.mul_le_mul_left _ h2
  rw [← Nat.mul_assoc, ← Nat.pow_add, show la + 1 - (m + 1) + m = la from by omega] at h3
  omega

theorem cut3 (zs : List Nat) (i m : Nat) : zs = zs.take i ++ (zs.drop i).take m ++ zs.drop (i + m) := by
  rw [List.append_assoc, ← List.drop_drop, List.take_append_drop, List.take_append_drop]

theorem longInv_piece {zs qs : List Nat} {la n A D i : Nat} (h : LongInv zs qs la n A D (i + 1)) (hi : i + n ≤ la) (hD : D < 4294967296 ^ n) :
    (zs.take i).length = i ∧ ((zs.drop i).take (n + 1)).length = n + 1 ∧ (∀ x ∈ (zs.drop i).take (n + 1), x < 4294967296) ∧ val ((zs.drop i).take (n + 1)) < 4294967296 * D ∧
      val zs = val (zs.take i) + 4294967296 ^ i * val ((zs.drop i).take (n + 1)) ∧ val (zs.drop (i + (n + 1))) = 0 := by
  obtain ⟨h1, h2, h3, h4, h5, h6, h7⟩ := h
  have hl : (zs.take i).length = i := by simp; omega
  have hl2 : ((zs.drop i).take (n + 1)).length = n + 1 := by simp; omega
  have hlt : ∀ x ∈ (zs.drop i).take (n + 1), x < 4294967296 := fun x hx => h2 x (List.mem_of_mem_drop (List.mem_of_mem_take hx))
  have hv : val zs = val (zs.take i) + 4294967296 ^ i * (val ((zs.drop i).take (n + 1)) + 4294967296 ^ (n + 1) * val (zs.drop (i + (n + 1)))) := by
    conv => lhs; rw [cut3 zs i (n + 1)]
    rw [List.append_assoc, val_append, val_append, hl, hl2]
  have hz : val (zs.drop (i + (n + 1))) = 0 := by
    rcases Nat.eq_zero_or_pos (val (zs.drop (i + (n + 1)))) with h0 | h0
    · exact h0
    · have e1 : 4294967296 ^ (n + 1) * 1 ≤ 4294967296 ^ (n + 1) * val (zs.drop (i + (n + 1))) := Nat.mul_le_mul_left _ h0
      have e2 : 4294967296 ^ i * 4294967296 ^ (n + 1) ≤ 4294967296 ^ i * (val ((zs.drop i).take (n + 1)) + 4294967296 ^ (n + 1) * val (zs.drop (i + (n + 1)))) := Nat.mul_le_mul_left _ (by omega)
      have e3 : 4294967296 ^ (i + 1) * D ≤ 4294967296 ^ i * 4294967296 ^ (n + 1) := by
        rw [Nat.pow_succ, Nat.mul_assoc]
        refine Nat.mul_le_mul_left _ ?_
        rw [Nat.pow_succ, Nat.mul_comm]
        exact Nat.mul_le_mul_right _ (Nat.le_of_lt hD)
      omega
  rw [hz, Nat.mul_zero, Nat.add_zero] at hv
  refine ⟨hl, hl2, hlt, ?_, hv, hz⟩
  rw [Nat.pow_succ, Nat.mul_assoc] at h7
  exact Nat.lt_of_mul_lt_mul_left (Nat.lt_of_le_of_lt (by omega) h7)

theorem longInv_step {zs qs us' : List Nat} {la n A D i x : Nat} (h : LongInv zs qs la n A D (i + 1)) (hi : i + n ≤ la) (hD : D < 4294967296 ^ n)
    (hl : us'.length = n + 1) (hlt : ∀ x ∈ us', x < 4294967296) (hx : x < 4294967296) (hU : val us' + x * D = val ((zs.drop i).take (n + 1))) (hlt2 : val us' < D) :
    LongInv (zs.take i ++ us' ++ zs.drop (i + (n + 1))) (qs.set i x) la n A D i := by
  obtain ⟨p1, p2, p3, p4, p5, p6⟩ := longInv_piece h hi hD
  obtain ⟨h1, h2, h3, h4, h5, h6, h7⟩ := h
  have hv : val (zs.take i ++ us' ++ zs.drop (i + (n + 1))) = val (zs.take i) + 4294967296 ^ i * val us' := by
    rw [List.append_assoc, val_append, val_append, p1, p6]; simp
  refine ⟨by simp [hl]; omega, ?_, by simpa using h3, mem_set_lt h4 hx, fun j hj => ?_, ?_, ?_⟩
  · intro y hy
    rcases List.mem_append.1 hy with hy | hy
    · rcases List.mem_append.1 hy with hy | hy
      · exact h2 y (List.mem_of_mem_take hy)
      · exact hlt y hy
    · exact h2 y (List.mem_of_mem_drop hy)
  · rw [getD_set_ne (by omega)]; exact h5 j (by omega)
  · rw [hv, val_set (by omega) (h5 i (by omega)), h6, p5, ← hU, Nat.mul_add, Nat.mul_add]
    have : 4294967296 ^ i * (x * D) = D * (4294967296 ^ i * x) := by rw [Nat.mul_comm x D, Nat.mul_left_comm]
    omega
  · rw [hv]
    have hp := val_take_lt (n := i) h2 (by omega)
    have : 4294967296 ^ i * (val us' + 1) ≤ 4294967296 ^ i * D := Nat.mul_le_mul_left _ hlt2
    rw [Nat.mul_add] at this
    omega

theorem longInv_end {zs qs : List Nat} {la n a b s : Nat} (h : LongInv zs qs la n (a * 2 ^ s) (b * 2 ^ s) 0) (hD : b * 2 ^ s < 4294967296 ^ n) (hn : n ≤ la) :
    val qs = a / b ∧ val (zs.take n) / 2 ^ s = a % b := by
  obtain ⟨h1, h2, h3, h4, h5, h6, h7⟩ := h
  rw [Nat.pow_zero, Nat.one_mul] at h7
  have hp : 0 < 2 ^ s := Nat.two_pow_pos s
  have hb : 0 < b * 2 ^ s := by omega
  have e1 : val qs = a / b := by
    rw [← Nat.mul_div_mul_right a b hp, h6, Nat.add_mul_div_left _ _ hb, Nat.div_eq_of_lt h7, Nat.zero_add]
  have e2 : val zs = a % b * 2 ^ s := by
    rw [← Nat.mul_mod_mul_right, h6, Nat.add_mul_mod_self_left, Nat.mod_eq_of_lt h7]
  refine ⟨e1, ?_⟩
  have e3 : val (zs.take n) = val zs := by
    have hs := val_split zs n (by omega)
    rcases Nat.eq_zero_or_pos (val (zs.drop n)) with h0 | h0
    · rw [h0] at hs; simpa using hs.symm
    · have : 4294967296 ^ n * 1 ≤ 4294967296 ^ n * val (zs.drop n) := Nat.mul_le_mul_left _ h0
      omega
  rw [e3, e2, Nat.mul_div_cancel _ hp]

end Go.Proofs.Ytdojdghhbjjoeaa
