/- disc: tries, sum, by the abstract walk. Conditions: numbers of at most 1000 limbs. disc: sum, Binom, BinomCdf, BinomTwo, by the abstract walk. Conditions: numbers of at most 1000 limbs. -/
import Derived.Test.YtocpmekblkfdiaaGreatDoorHa
namespace Go.Proofs.YtocpmekblkfdiaaGreatDoor
open Go.RowKit
set_option linter.unusedSimpArgs false
set_option linter.unusedVariables false
def fz_disc_tries : Nat → List Nat
  | 26 => [1011]
  | 1000003 => [22]
  | _ => []
@[go_sem] theorem load_rpu {ti : TI} {id t i : Nat} {xs : List Nat} : loadAV (some ti) [.one (.cel (.rp id t i))] [some (.row (.u32 xs))] = (t = (RC.u32 xs).t ∧ ti.size = (RC.u32 xs).t ∧ i < (RC.u32 xs).len, ofCells ti.agg (((RC.u32 xs).at i).map CV.strip)) := rfl
@[go_sem] theorem load_rp1 {ti : TI} {id t i : Nat} {xs : List (List CV)} : loadAV (some ti) [.one (.cel (.rp id t i))] [some (.row (.gen 1 xs))] = (t = (RC.gen 1 xs).t ∧ ti.size = (RC.gen 1 xs).t ∧ i < (RC.gen 1 xs).len, ofCells ti.agg (((RC.gen 1 xs).at i).map CV.strip)) := rfl
@[go_sem] theorem load_rp2 {ti : TI} {id t i : Nat} {xs : List (List CV)} : loadAV (some ti) [.one (.cel (.rp id t i))] [some (.row (.gen 2 xs))] = (t = (RC.gen 2 xs).t ∧ ti.size = (RC.gen 2 xs).t ∧ i < (RC.gen 2 xs).len, ofCells ti.agg (((RC.gen 2 xs).at i).map CV.strip)) := rfl
theorem ch_le (n k : Nat) : ch n k ≤ 2 ^ n := by
  have h := bin_sum 1 1 n
  have e : ∀ j, bin 1 1 n j = ch n j := fun j => by unfold bin; rw [Nat.one_pow, Nat.one_pow, Nat.one_mul, Nat.mul_one]
  rcases Nat.lt_or_ge n k with hk | hk
  · rw [ch_above hk]; exact Nat.zero_le _
  · have := sumN_le (f := bin 1 1 n) (n := n + 1) (i := k) (by omega)
    rw [h, e] at this
    exact this
theorem ways_next (n j u : Nat) : ch n j * u ^ j * u * (n - j) / (j + 1) = ch n (j + 1) * u ^ (j + 1) := by
  have h := ch_next n j
  have e : ch n j * u ^ j * u * (n - j) = (ch n (j + 1) * u ^ (j + 1)) * (j + 1) := by
    rw [Nat.pow_succ]
    calc ch n j * u ^ j * u * (n - j) = (ch n j * (n - j)) * (u ^ j * u) := by grind
      _ = (ch n (j + 1) * (j + 1)) * (u ^ j * u) := by rw [h]
      _ = _ := by grind
  rw [e]
  exact Nat.mul_div_cancel _ (by omega)
theorem ll_ways {n j u : Nat} (hn : n ≤ 256) (hj : j ≤ 257) (hu : ll u ≤ 1000) : ll (ch n j * u ^ j) ≤ 258000 := by
  have h1 := ll_mul (ch n j) (u ^ j)
  have h2 : ll (ch n j) ≤ 257 := Nat.le_trans (ll_mono (ch_le n j)) (Nat.le_trans (ll_pow_le (K := 1) (M := 256) (by rw [ll_two]; omega) hn) (by omega))
  have h3 : ll (u ^ j) ≤ 257 * 1000 + 1 := ll_pow_le hu hj
  omega
theorem ll_den {x : RR} (h : x.ok) (h2 : x.sz ≤ 1000) : ll (nm x.q) ≤ 1000 ∧ ll x.q.den ≤ 1000 := by
  have h3 : rs x.q ≤ 1000 := rs_ok h h2 (by omega)
  unfold rs at h3
  exact ⟨by show (limbs _).length ≤ _; omega, by show (limbs _).length ≤ _; omega⟩
def d_disc_tries : Den := den3 aInt aInt aRat (fun n k x => (0 ≤ k ∧ k ≤ n ∧ n ≤ 256) ∧ (0 ≤ x.q ∧ x.q ≤ 1) ∧ x.sz ≤ 1000) fun n k x => rowV celLim (natRow (binN x.q n.toNat) (k.toNat + 1))
set_option maxRecDepth 100000 in
set_option maxHeartbeats 1000000 in
theorem s_disc_tries : Sound Tryz.prog 112 d_disc_tries := by
  refine sound3 (fz := fz_disc_tries) (l := [(66, d_rat_Norm), (169, d_fix_Less), (64, d_nat_Of), (67, d_nat_Mul), (170, d_fix_Over)]) TT_ok ⟨s_rat_Norm, s_fix_Less, s_nat_Of, s_nat_Mul, s_fix_Over, trivial⟩ mixed Tryz.func112 Tryz.ntmps112 Tryz.results112 Tryz.call112 rfl (by omega) (fun _ _ _ => rfl) ?_
  intro a b c hp ha hb hc
  rw [codeK_start]
  obtain ⟨⟨hk0, hkn, hn⟩, ⟨hq0, hq1⟩, hsz⟩ := hp
  obtain ⟨n, rfl⟩ := Int.eq_ofNat_of_zero_le (show 0 ≤ a by omega)
  obtain ⟨k, rfl⟩ := Int.eq_ofNat_of_zero_le hk0
  have hkn' : k ≤ n := by omega
  have hn' : n ≤ 256 := by omega
  obtain ⟨lu, ld⟩ := ll_den hc hsz
  have ldw : ll (c.q.den - nm c.q) ≤ 1000 := Nat.le_trans (ll_mono (Nat.sub_le _ _)) ld
  have lu' : (limbs (nm c.q)).length ≤ 1000 := lu
  have ld' : (limbs c.q.den).length ≤ 1000 := ld
  have ldw' : (limbs (c.q.den - nm c.q)).length ≤ 1000 := ldw
  have hpw : ∀ m, m ≤ 256 → (limbs ((c.q.den - nm c.q) ^ m)).length ≤ 256 * 1000 + 1 := fun m hm => ll_pow_le ldw hm
  have hww : ∀ j, j ≤ 257 → (limbs (ch n j * nm c.q ^ j)).length ≤ 258000 := fun j hj => ll_ways hn' hj lu
  simp only [go_sem, d_rat_Norm, d_fix_Less, d_nat_Of, d_nat_Mul, d_fix_Over, int0, int1, decide_true, decide_false, val_limbs, Int.toNat_natCast, cr_n, cr_d, fz_disc_tries, beq_self_eq_true, Nat.reduceBEq, Nat.reduceBNe, Nat.reduceLT, Nat.reduceLeDiff, Nat.reduceAdd, Nat.reduceSub, Nat.reduceMul, Nat.reduceEqDiff, Int.reduceNeg, Int.reduceAdd, Int.reduceLT, Int.reduceLE, Int.reduceToNat, ↓reduceIte]
  and_intros
  all_goals try (first | assumption | omega | (show okDraw _ _ = true; kernel_rfl))
  refine codeK_loop (fun m : { m : Nat // 1 ≤ m ∧ m ≤ n + 1 } => [(9, 0, .av (.one (.cel (.rf 1009 (m.1))))), (1009, 1, .row (.gen 1 ((natRow ((fun i => (c.q.den - nm c.q) ^ i)) (m.1)).map celLim.uc))), (7, 0, .av (natV (nm c.q))), (8, 0, .av (natV (c.q.den - nm c.q))), (0, 0, .av (intV ((n : Nat)))), (1, 0, .av (intV ((k : Nat))))]) (fun m => n + 1 - m.1) ⟨1, by omega, by omega⟩ ?_ ?_
  · refine le_ren 22 1009 (c := .gen 1 [[.lim none (limbs 1)]]) (by rfl) (by kernel_rfl) (le_of ?_)
    have hr1 : (natRow (fun i => (c.q.den - nm c.q) ^ i) 1).map celLim.uc = [[.lim none (limbs 1)]] := rfl
    simp only [go_sem, leL, hr1, Nat.reduceBEq, Nat.reduceBNe, Nat.reduceLT, Nat.reduceLeDiff, Nat.reduceAdd, Nat.reduceSub, Nat.reduceMul, Nat.reduceEqDiff, Int.reduceNeg, Int.reduceAdd, Int.reduceLT, Int.reduceLE, Int.reduceToNat, ↓reduceIte]
  · rintro ⟨m, hm1, hm2⟩
    have hln := natRow_len (fun i => (c.q.den - nm c.q) ^ i) m
    have hln2 := natRow_len (fun i => (c.q.den - nm c.q) ^ i) (m + 1)
    by_cases hm : m ≤ n
    · have hmt : (((m : Nat) : Int) ≤ ((n : Nat) : Int)) = True := eq_true (by omega)
      have hti : (((m : Nat) : Int) - 1).toNat = m - 1 := by omega
      have hgd : ((natRow (fun i => (c.q.den - nm c.q) ^ i) m).map celLim.uc).getD (m - 1) [] = [.lim none (limbs ((c.q.den - nm c.q) ^ (m - 1)))] := by rw [getD_lims (by omega), natRow_get _ (by omega)]; rfl
      have hmul : (c.q.den - nm c.q) ^ (m - 1) * (c.q.den - nm c.q) = (c.q.den - nm c.q) ^ m := by rw [← Nat.pow_succ, show (m - 1).succ = m by omega]
      have hrow : (natRow (fun i => (c.q.den - nm c.q) ^ i) m).map celLim.uc ++ [[.lim none (limbs ((c.q.den - nm c.q) ^ m))]] = (natRow (fun i => (c.q.den - nm c.q) ^ i) (m + 1)).map celLim.uc := natRow_cells (fun i => (c.q.den - nm c.q) ^ i) m
      have hp1 := hpw (m - 1) (by omega)
      simp only [go_sem, d_rat_Norm, d_fix_Less, d_nat_Of, d_nat_Mul, d_fix_Over, int0, int1, decide_true, decide_false, val_limbs, Int.toNat_natCast, cr_n, cr_d, fz_disc_tries, beq_self_eq_true, hmt, hti, hgd, hmul, Nat.reduceBEq, Nat.reduceBNe, Nat.reduceLT, Nat.reduceLeDiff, Nat.reduceAdd, Nat.reduceSub, Nat.reduceMul, Nat.reduceEqDiff, Int.reduceNeg, Int.reduceAdd, Int.reduceLT, Int.reduceLE, Int.reduceToNat, ↓reduceIte]
      and_intros
      all_goals try (first | assumption | omega | exact hln.symm | (show okDraw _ _ = true; kernel_rfl))
      refine ⟨⟨m + 1, by omega, by omega⟩, by show n + 1 - (m + 1) < n + 1 - m; omega, Le.trans (b := [(9, 0, .av (.one (.cel (.rf 37 (m + 1))))), (37, 1, .row (.gen 1 ((natRow ((fun i => (c.q.den - nm c.q) ^ i)) (m + 1)).map celLim.uc))), (7, 0, .av (natV (nm c.q))), (8, 0, .av (natV (c.q.den - nm c.q))), (0, 0, .av (intV ((n : Nat)))), (1, 0, .av (intV ((k : Nat))))]) (le_of ?_) (le_ren 37 1009 (c := .gen 1 ((natRow (fun i => (c.q.den - nm c.q) ^ i) (m + 1)).map celLim.uc)) (by rfl) (by kernel_rfl) (le_of ?_))⟩
      · simp only [go_sem, leL, hrow, hln2, Nat.reduceBEq, Nat.reduceBNe, Nat.reduceLT, Nat.reduceLeDiff, Nat.reduceAdd, Nat.reduceSub, Nat.reduceMul, Nat.reduceEqDiff, Int.reduceNeg, Int.reduceAdd, Int.reduceLT, Int.reduceLE, Int.reduceToNat, ↓reduceIte]
        try omega
      · simp only [go_sem, leL, Nat.reduceBEq, Nat.reduceBNe, Nat.reduceLT, Nat.reduceLeDiff, Nat.reduceAdd, Nat.reduceSub, Nat.reduceMul, Nat.reduceEqDiff, Int.reduceNeg, Int.reduceAdd, Int.reduceLT, Int.reduceLE, Int.reduceToNat, ↓reduceIte]
    · have hmt : (((m : Nat) : Int) ≤ ((n : Nat) : Int)) = False := eq_false (by omega)
      have em : m = n + 1 := by omega
      subst em
      simp only [go_sem, d_rat_Norm, d_fix_Less, d_nat_Of, d_nat_Mul, d_fix_Over, int0, int1, decide_true, decide_false, val_limbs, Int.toNat_natCast, cr_n, cr_d, fz_disc_tries, beq_self_eq_true, hmt, Nat.reduceBEq, Nat.reduceBNe, Nat.reduceLT, Nat.reduceLeDiff, Nat.reduceAdd, Nat.reduceSub, Nat.reduceMul, Nat.reduceEqDiff, Int.reduceNeg, Int.reduceAdd, Int.reduceLT, Int.reduceLE, Int.reduceToNat, ↓reduceIte]
      have hln := natRow_len (binN c.q n) (k + 1)
      have htake : List.take (k + 1) ((natRow (binN c.q n) (k + 1)).map celLim.uc) = (natRow (binN c.q n) (k + 1)).map celLim.uc := List.take_of_length_le (by rw [List.length_map]; omega)
      have hone : ch n 0 * nm c.q ^ 0 = 1 := by rw [ch_zero, Nat.pow_zero]
      refine codeK_loop (fun j : { j : Nat // j ≤ k + 1 } => [(12, 0, .av (intV ((j.1 : Nat)))), (11, 0, .av (.one (.cel (.rf 1011 (j.1))))), (1011, 1, .row (.gen 1 ((natRow (binN c.q n) (j.1)).map celLim.uc))), (10, 0, .av (natV (ch n (j.1) * nm c.q ^ (j.1)))), (9, 0, .av (.one (.cel (.rf 1009 (n + 1))))), (1009, 1, .row (.gen 1 ((natRow ((fun i => (c.q.den - nm c.q) ^ i)) (n + 1)).map celLim.uc))), (7, 0, .av (natV (nm c.q))), (0, 0, .av (intV ((n : Nat)))), (1, 0, .av (intV ((k : Nat))))]) (fun j => k + 1 - j.1) ⟨0, by omega⟩ ?_ ?_
      · refine le_nil 11 1011 (.gen 1 []) (by rfl) (by kernel_rfl) ⟨by omega, trivial⟩ rfl (le_of ?_)
        have hr0 : (natRow (binN c.q n) 0).map celLim.uc = [] := rfl
        simp only [go_sem, leL, hone, hr0, Nat.reduceBEq, Nat.reduceBNe, Nat.reduceLT, Nat.reduceLeDiff, Nat.reduceAdd, Nat.reduceSub, Nat.reduceMul, Nat.reduceEqDiff, Int.reduceNeg, Int.reduceAdd, Int.reduceLT, Int.reduceLE, Int.reduceToNat, ↓reduceIte, Int.ofNat_zero, Int.natCast_zero, Int.cast_ofNat_Int]
      · rintro ⟨j, hj0⟩
        have hlj := natRow_len (binN c.q n) j
        have hlj2 := natRow_len (binN c.q n) (j + 1)
        by_cases hj : j ≤ k
        · have hjt : (((j : Nat) : Int) ≤ ((k : Nat) : Int)) = True := eq_true (by omega)
          have hti : (((n : Nat) : Int) - ((j : Nat) : Int)).toNat = n - j := by omega
          have hti2 : (((j : Nat) : Int) + 1).toNat = j + 1 := by omega
          have hw1 := wrap_u64 (x := ((n : Nat) : Int) - ((j : Nat) : Int)) (by omega) (by omega)
          have hw2 := wrap_u64 (x := ((j : Nat) : Int) + 1) (by omega) (by omega)
          have hgd : ((natRow (fun i => (c.q.den - nm c.q) ^ i) (n + 1)).map celLim.uc).getD (n - j) [] = [.lim none (limbs ((c.q.den - nm c.q) ^ (n - j)))] := by rw [getD_lims (by rw [natRow_len]; omega), natRow_get _ (by omega)]; rfl
          have hmul : ch n j * nm c.q ^ j * (c.q.den - nm c.q) ^ (n - j) = binN c.q n j := by unfold binN bin upQ dwn; rw [Nat.mul_assoc]
          have hwn := ways_next n j (nm c.q)
          have hrow : (natRow (binN c.q n) j).map celLim.uc ++ [[.lim none (limbs (binN c.q n j))]] = (natRow (binN c.q n) (j + 1)).map celLim.uc := natRow_cells _ j
          have hp1 := hpw (n - j) (by omega)
          have hp2 := hww j (by omega)
          have hp3 : (limbs (ch n j * nm c.q ^ j * nm c.q)).length ≤ 259000 := Nat.le_trans (ll_mul _ _) (by show (limbs _).length + (limbs _).length ≤ _; omega)
          have hp4 : (limbs (n - j)).length ≤ 2 := ll_u64 (by omega)
          have hp5 : (limbs (ch n j * nm c.q ^ j * nm c.q * (n - j))).length ≤ 260000 := Nat.le_trans (ll_mul _ _) (by show (limbs _).length + (limbs _).length ≤ _; omega)
          have hp6 : (limbs (j + 1)).length ≤ 2 := ll_u64 (by omega)
          simp only [go_sem, d_rat_Norm, d_fix_Less, d_nat_Of, d_nat_Mul, d_fix_Over, int0, int1, decide_true, decide_false, val_limbs, Int.toNat_natCast, cr_n, cr_d, fz_disc_tries, beq_self_eq_true, hjt, hti, hti2, hw1, hw2, hgd, hmul, hwn, Nat.reduceBEq, Nat.reduceBNe, Nat.reduceLT, Nat.reduceLeDiff, Nat.reduceAdd, Nat.reduceSub, Nat.reduceMul, Nat.reduceEqDiff, Int.reduceNeg, Int.reduceAdd, Int.reduceLT, Int.reduceLE, Int.reduceToNat, ↓reduceIte]
          and_intros
          all_goals try (first | omega | exact hlj.symm | (show okDraw _ _ = true; kernel_rfl))
          refine ⟨⟨j + 1, by omega⟩, by show k + 1 - (j + 1) < k + 1 - j; omega, Le.trans (b := [(12, 0, .av (intV ((j + 1 : Nat)))), (11, 0, .av (.one (.cel (.rf 54 (j + 1))))), (54, 1, .row (.gen 1 ((natRow (binN c.q n) (j + 1)).map celLim.uc))), (10, 0, .av (natV (ch n (j + 1) * nm c.q ^ (j + 1)))), (9, 0, .av (.one (.cel (.rf 1009 (n + 1))))), (1009, 1, .row (.gen 1 ((natRow ((fun i => (c.q.den - nm c.q) ^ i)) (n + 1)).map celLim.uc))), (7, 0, .av (natV (nm c.q))), (0, 0, .av (intV ((n : Nat)))), (1, 0, .av (intV ((k : Nat))))]) (le_of ?_) (le_ren 54 1011 (c := .gen 1 ((natRow (binN c.q n) (j + 1)).map celLim.uc)) (by rfl) (by kernel_rfl) (le_of ?_))⟩
          · simp only [go_sem, leL, hrow, hlj2, hwn, Nat.reduceBEq, Nat.reduceBNe, Nat.reduceLT, Nat.reduceLeDiff, Nat.reduceAdd, Nat.reduceSub, Nat.reduceMul, Nat.reduceEqDiff, Int.reduceNeg, Int.reduceAdd, Int.reduceLT, Int.reduceLE, Int.reduceToNat, ↓reduceIte]
            try omega
          · simp only [go_sem, leL, Nat.reduceBEq, Nat.reduceBNe, Nat.reduceLT, Nat.reduceLeDiff, Nat.reduceAdd, Nat.reduceSub, Nat.reduceMul, Nat.reduceEqDiff, Int.reduceNeg, Int.reduceAdd, Int.reduceLT, Int.reduceLE, Int.reduceToNat, ↓reduceIte]
        · have hjt : (((j : Nat) : Int) ≤ ((k : Nat) : Int)) = False := eq_false (by omega)
          have ej : j = k + 1 := by omega
          subst ej
          simp only [go_sem, d_rat_Norm, d_fix_Less, d_nat_Of, d_nat_Mul, d_fix_Over, int0, int1, decide_true, decide_false, val_limbs, Int.toNat_natCast, cr_n, cr_d, fz_disc_tries, beq_self_eq_true, hjt, htake, Nat.reduceBEq, Nat.reduceBNe, Nat.reduceLT, Nat.reduceLeDiff, Nat.reduceAdd, Nat.reduceSub, Nat.reduceMul, Nat.reduceEqDiff, Int.reduceNeg, Int.reduceAdd, Int.reduceLT, Int.reduceLE, Int.reduceToNat, ↓reduceIte]
          try and_intros
          all_goals first | omega | (show okDraw _ _ = true; kernel_rfl) | rfl | (rw [hlj]; exact Nat.le_refl _)
end Go.Proofs.YtocpmekblkfdiaaGreatDoor
namespace Go.Proofs.YtocpmekblkfdiaaGreatDoor
open Go.RowKit
set_option linter.unusedSimpArgs false
set_option linter.unusedVariables false
def d_disc_sum : Den := den3 aInt aRat aLims (fun n x l => (0 ≤ n ∧ n ≤ 256) ∧ x.sz ≤ 1000 ∧ l.length ≤ 1000 ∧ ∀ r ∈ l, r.length ≤ 1000000) fun n x l => ratV (cr (qv false (rowSum l l.length) (x.q.den ^ n.toNat)))
set_option maxRecDepth 100000 in
set_option maxHeartbeats 1000000 in
theorem s_disc_sum : Sound Tryz.prog 111 d_disc_sum := by
  refine sound3 (fz := nofz) (l := [(68, d_nat_Add), (66, d_rat_Norm), (168, d_disc_power), (63, d_rat_Of)]) TT_ok ⟨s_nat_Add, s_rat_Norm, s_disc_power, s_rat_Of, trivial⟩ mixed Tryz.func111 Tryz.ntmps111 Tryz.results111 Tryz.call111 rfl (by omega) (fun _ _ _ => rfl) ?_
  intro a b c hp ha hb hc
  rw [codeK_start]
  obtain ⟨⟨hn0, hn⟩, hsz, hlen, hrl⟩ := hp
  obtain ⟨n, rfl⟩ := Int.eq_ofNat_of_zero_le hn0
  obtain ⟨lu, ld⟩ := ll_den hb hsz
  have ld' : (limbs b.q.den).length ≤ 1000 := ld
  have hsum : ∀ m, m ≤ c.length → (limbs (rowSum c m)).length ≤ 1000000 + m := fun m hm => ll_rowSum hc hrl m hm
  have hpw : (limbs (b.q.den ^ n)).length ≤ 256 * 1000 + 1 := ll_pow_le ld (by omega)
  have hz0 : limbs (rowSum c 0) = [] := by rw [rowSum_zero]; exact limbs_zero'
  simp only [go_sem, d_nat_Add, d_rat_Norm, d_disc_power, d_rat_Of, int0, int1, decide_true, decide_false, val_limbs, Int.toNat_natCast, cr_n, cr_d, Int.ofNat_lt, val, Nat.reduceBEq, Nat.reduceBNe, Nat.reduceLT, Nat.reduceLeDiff, Nat.reduceAdd, Nat.reduceSub, Nat.reduceMul, Nat.reduceEqDiff, Int.reduceNeg, Int.reduceAdd, Int.reduceLT, Int.reduceLE, Int.reduceToNat, ↓reduceIte]
  refine codeK_loop (fun i : { i : Nat // i ≤ c.length } => [(12, 0, .av (intV ((i.1 : Nat)))), (11, 0, .av (intV ((c.length : Nat)))), (10, 0, .av (rowV celLim (c))), (7, 0, .av (natV (rowSum c i.1))), (4, 0, .av (.one (.cel (.ptr 4 0)))), (4, 1, .cv (.bool (b).s)), (4, 2, .cv (.lim none (b).n)), (4, 3, .cv (.lim none (b).d)), (0, 0, .av (intV ((n : Nat)))), (6, 0, .av (.one (.cel (.ptr 6 0)))), (6, 1, .cv (.bool false)), (6, 2, .cv .nil), (6, 3, .cv .nil)]) (fun i => c.length - i.1) ⟨0, by omega⟩ ?_ ?_
  · refine Le.trans (b := [(12, 0, .av (intV ((0 : Nat)))), (11, 0, .av (intV ((c.length : Nat)))), (10, 0, .av (rowV celLim (c))), (7, 0, .av (limV [])), (4, 0, .av (.one (.cel (.ptr 4 0)))), (4, 1, .cv (.bool (b).s)), (4, 2, .cv (.lim none (b).n)), (4, 3, .cv (.lim none (b).d)), (0, 0, .av (intV ((n : Nat)))), (6, 0, .av (.one (.cel (.ptr 6 0)))), (6, 1, .cv (.bool false)), (6, 2, .cv .nil), (6, 3, .cv .nil)]) (le_ofW ?_) (le_of ?_)
    · simp only [go_sem, leW, Nat.reduceBEq, Nat.reduceBNe, Nat.reduceLT, Nat.reduceLeDiff, Nat.reduceAdd, Nat.reduceSub, Nat.reduceMul, Nat.reduceEqDiff, Int.reduceNeg, Int.reduceAdd, Int.reduceLT, Int.reduceLE, Int.reduceToNat, ↓reduceIte, Option.some.injEq, exists_eq_left', and_true]
      and_intros
      all_goals first | exact RVle.refl _ | exact RVle_nilH | exact ⟨_, rfl, RVle.refl _⟩ | exact ⟨_, rfl, RVle_nilH⟩
    · simp only [go_sem, leL, hz0, Nat.reduceBEq, Nat.reduceBNe, Nat.reduceLT, Nat.reduceLeDiff, Nat.reduceAdd, Nat.reduceSub, Nat.reduceMul, Nat.reduceEqDiff, Int.reduceNeg, Int.reduceAdd, Int.reduceLT, Int.reduceLE, Int.reduceToNat, ↓reduceIte, Int.ofNat_zero, Int.natCast_zero, Int.cast_ofNat_Int]
  · rintro ⟨i, hi0⟩
    have hi0 : i ≤ c.length := hi0
    have hs1 := hsum i hi0
    by_cases hi : i < c.length
    · have hm := hrl _ (getD_mem (d := ([] : List Nat)) hi)
      have hgl := getD_lims hi
      have hnx := rowSum_next c i
      simp only [go_sem, d_nat_Add, d_rat_Norm, d_disc_power, d_rat_Of, int0, int1, decide_true, decide_false, val_limbs, Int.toNat_natCast, cr_n, cr_d, Int.ofNat_lt, val, hi, hgl, Nat.reduceBEq, Nat.reduceBNe, Nat.reduceLT, Nat.reduceLeDiff, Nat.reduceAdd, Nat.reduceSub, Nat.reduceMul, Nat.reduceEqDiff, Int.reduceNeg, Int.reduceAdd, Int.reduceLT, Int.reduceLE, Int.reduceToNat, ↓reduceIte]
      ((try and_intros) <;> first | exact trivial | omega | (show okDraw _ _ = true; kernel_rfl) | (show ∃ _, _; exact ⟨⟨i + 1, by omega⟩, by show c.length - (i + 1) < c.length - i; omega, le_of (by simp only [go_sem, leL, hnx, Nat.reduceBEq, Nat.reduceBNe, Nat.reduceLT, Nat.reduceLeDiff, Nat.reduceAdd, Nat.reduceSub, Nat.reduceMul, Nat.reduceEqDiff, Int.reduceNeg, Int.reduceAdd, Int.reduceLT, Int.reduceLE, Int.reduceToNat, ↓reduceIte]; try omega)⟩) | assumption)
    · have e : i = c.length := by omega
      subst e
      simp only [go_sem, d_nat_Add, d_rat_Norm, d_disc_power, d_rat_Of, int0, int1, decide_true, decide_false, val_limbs, Int.toNat_natCast, cr_n, cr_d, Int.ofNat_lt, val, Int.lt_irrefl, Nat.lt_irrefl, Nat.reduceBEq, Nat.reduceBNe, Nat.reduceLT, Nat.reduceLeDiff, Nat.reduceAdd, Nat.reduceSub, Nat.reduceMul, Nat.reduceEqDiff, Int.reduceNeg, Int.reduceAdd, Int.reduceLT, Int.reduceLE, Int.reduceToNat, ↓reduceIte]
      ((try and_intros) <;> first | exact trivial | omega | (show okDraw _ _ = true; kernel_rfl) | assumption)
def cQ (n k : Int) (q : Rat) : Rat := if tryB n q = true ∧ 0 ≤ k then (if n ≤ k then 1 else cdfQ q n.toNat k.toNat) else 0
theorem ll_bin {x : RR} (h : x.ok) (h2 : x.sz ≤ 1000) (h0 : 0 ≤ x.q) (h1 : x.q ≤ 1) {n : Nat} (hn : n ≤ 256) (k : Nat) : (limbs (binN x.q n k)).length ≤ 256 * 1000 + 1 :=
  Nat.le_trans (ll_mono (binN_le h0 h1 n k)) (ll_pow_le (ll_den h h2).2 hn)
def d_disc_BinomCdf : Den := den3 aInt aInt aRat (fun _ _ x => x.sz ≤ 1000) fun n k x => ratOkV (cr (cQ n k x.q)) (tryB n x.q)
set_option maxRecDepth 100000 in
set_option maxHeartbeats 1000000 in
theorem s_disc_BinomCdf : Sound Tryz.prog 54 d_disc_BinomCdf := by
  refine sound3 (fz := nofz) (l := [(110, d_disc_isTry), (27, d_rat_Int), (112, d_disc_tries), (111, d_disc_sum)]) TT_ok ⟨s_disc_isTry, s_rat_Int, s_disc_tries, s_disc_sum, trivial⟩ mixed Tryz.func54 Tryz.ntmps54 Tryz.results54 Tryz.call54 rfl (by omega) (fun _ _ _ => rfl) ?_
  intro a b c hp ha hb hc
  rw [codeK_start]
  have hsz : c.sz ≤ 1000 := hp
  have t0 : rs (0 : Rat) ≤ 1 := rs0 (by omega)
  have t1 : rs (1 : Rat) ≤ 1 := rs1 (by omega)
  unfold cQ
  by_cases ht : tryB a c.q = true
  · by_cases h1 : b < 0
    · have e : ¬ (tryB a c.q = true ∧ 0 ≤ b) := fun h => by omega
      rw [if_neg e]
      simp only [go_sem, d_disc_isTry, d_rat_Int, d_disc_tries, d_disc_sum, int0, int1, decide_true, decide_false, val_limbs, Int.toNat_natCast, Bool.not_true, Bool.not_false, ht, h1, Nat.reduceBEq, Nat.reduceBNe, Nat.reduceLT, Nat.reduceLeDiff, Nat.reduceAdd, Nat.reduceSub, Nat.reduceMul, Nat.reduceEqDiff, Int.reduceNeg, Int.reduceAdd, Int.reduceLT, Int.reduceLE, Int.reduceToNat, ↓reduceIte]
      ((try and_intros) <;> first | exact trivial | omega | (show okDraw _ _ = true; kernel_rfl) | exact hall | rfl | (rw [hln]; omega) | assumption)
    rw [if_pos ⟨ht, by omega⟩]
    by_cases h2 : a ≤ b
    · have h2' := eq_true h2
      rw [if_pos h2]
      simp only [go_sem, d_disc_isTry, d_rat_Int, d_disc_tries, d_disc_sum, int0, int1, decide_true, decide_false, val_limbs, Int.toNat_natCast, Bool.not_true, Bool.not_false, ht, h1, h2', Nat.reduceBEq, Nat.reduceBNe, Nat.reduceLT, Nat.reduceLeDiff, Nat.reduceAdd, Nat.reduceSub, Nat.reduceMul, Nat.reduceEqDiff, Int.reduceNeg, Int.reduceAdd, Int.reduceLT, Int.reduceLE, Int.reduceToNat, ↓reduceIte]
      ((try and_intros) <;> first | exact trivial | omega | (show okDraw _ _ = true; kernel_rfl) | exact hall | rfl | (rw [hln]; omega) | assumption)
    have h2' := eq_false h2
    rw [if_neg h2]
    obtain ⟨hn0, hn, hq0, hq1⟩ := try_of ht
    obtain ⟨n, rfl⟩ := Int.eq_ofNat_of_zero_le hn0
    obtain ⟨k, rfl⟩ := Int.eq_ofNat_of_zero_le (show 0 ≤ b by omega)
    have hln := natRow_len (binN c.q n) (k + 1)
    have hso := rowSum_natRow (binN c.q n) (k + 1)
    have hall : ∀ r ∈ natRow (binN c.q n) (k + 1), r.length ≤ 1000000 := natRow_len_le fun i _ => Nat.le_trans (ll_bin hc hsz hq0 hq1 (show n ≤ 256 by omega) i) (by omega)
    simp only [go_sem, d_disc_isTry, d_rat_Int, d_disc_tries, d_disc_sum, int0, int1, decide_true, decide_false, val_limbs, Int.toNat_natCast, Bool.not_true, Bool.not_false, ht, h1, h2', hln, hso, Nat.reduceBEq, Nat.reduceBNe, Nat.reduceLT, Nat.reduceLeDiff, Nat.reduceAdd, Nat.reduceSub, Nat.reduceMul, Nat.reduceEqDiff, Int.reduceNeg, Int.reduceAdd, Int.reduceLT, Int.reduceLE, Int.reduceToNat, ↓reduceIte]
    ((try and_intros) <;> first | exact trivial | omega | (show okDraw _ _ = true; kernel_rfl) | exact hall | rfl | (rw [hln]; omega) | assumption)
  · have ht' : tryB a c.q = false := by simpa using ht
    have e : ¬ (tryB a c.q = true ∧ 0 ≤ b) := fun h => ht h.1
    rw [if_neg e]
    simp only [go_sem, d_disc_isTry, d_rat_Int, d_disc_tries, d_disc_sum, int0, int1, decide_true, decide_false, val_limbs, Int.toNat_natCast, Bool.not_true, Bool.not_false, ht', Nat.reduceBEq, Nat.reduceBNe, Nat.reduceLT, Nat.reduceLeDiff, Nat.reduceAdd, Nat.reduceSub, Nat.reduceMul, Nat.reduceEqDiff, Int.reduceNeg, Int.reduceAdd, Int.reduceLT, Int.reduceLE, Int.reduceToNat, ↓reduceIte]
    ((try and_intros) <;> first | exact trivial | omega | (show okDraw _ _ = true; kernel_rfl) | exact hall | rfl | (rw [hln]; omega) | assumption)
end Go.Proofs.YtocpmekblkfdiaaGreatDoor
