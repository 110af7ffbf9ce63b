/- disc: counts, told, Pois, PoisCdf, by the abstract walk; fix.Rat, fix.Ball, fix.Told. Conditions: counts up to 100, means of at most 1000 limbs. -/
import Derived.Test.YtnjgliojkoeneaaGreatMc
import Derived.Test.YtnjgliojkoeneaaGreatPi
import Derived.Test.YtnjgliojkoeneaaGreatBa
import Derived.Test.YtnjgliojkoeneaaGreatCb
namespace Go.Proofs.YtnjgliojkoeneaaGreat
open Go.RowKit
set_option linter.unusedSimpArgs false
set_option linter.unusedVariables false
theorem cellsSpan_split {l : List CV} {x : SpL} (h : cellsSpan l = some x) : ∃ a b, l = [a, b] ∧ a.lims = some x.lo ∧ b.lims = some x.hi := by
  unfold cellsSpan at h
  split at h
  · split at h
    · rename_i n d hx hy
      cases h
      exact ⟨_, _, rfl, hx, hy⟩
    · cases h
  · cases h
theorem cellsP_two {X : Nat → Nat → Prop} {w : World} {b off : Nat} {x y : CV} : cellsP X w b off [x, y] ↔ (∃ v, seenAt X w b off v ∧ x.P X w v) ∧ ∃ v, seenAt X w b (off + 1) v ∧ y.P X w v := by
  simp only [cellsP, and_true]
def celSpan : Cel SpL where
  k := 2
  pc := cellsSpan
  uc := spanCells
  va := SpL.ok
  len := fun h => by obtain ⟨_, _, rfl, _⟩ := cellsSpan_split h; rfl
  lenU := fun _ => rfl
  ok := fun {l x} {X w b off} h hp => by
    obtain ⟨a1, a2, rfl, h1, h2⟩ := cellsSpan_split h
    rw [cellsP_two] at hp
    obtain ⟨⟨v1, s1, p1⟩, v2, s2, p2⟩ := hp
    exact cellsP_two.2 ⟨⟨v1, s1, by simpa only [CV.P] using CV.lims_P h1 p1⟩, v2, s2, by simpa only [CV.P] using CV.lims_P h2 p2⟩
  rt := fun _ => rfl
  vd := fun {x} {X w b off} h => by
    obtain ⟨⟨v1, s1, p1⟩, v2, s2, p2⟩ := cellsP_two.1 h
    exact ⟨limV_ok (X := X) (w := w) (v := v1) p1, limV_ok (X := X) (w := w) (v := v2) p2⟩
@[go_sem] theorem celSpan_k : celSpan.k = 2 := rfl
@[go_sem] theorem celSpan_pc (l : List CV) : celSpan.pc l = cellsSpan l := rfl
@[go_sem] theorem celSpan_uc (x : SpL) : celSpan.uc x = spanCells x := rfl
def spRow (f : Nat → Nat × Nat) (m : Nat) : List SpL := (List.range m).map fun i => spN (f i)
theorem spRow_len (f : Nat → Nat × Nat) (m : Nat) : (spRow f m).length = m := by unfold spRow; simp
theorem spRow_next (f : Nat → Nat × Nat) (m : Nat) : spRow f (m + 1) = spRow f m ++ [spN (f m)] := by unfold spRow; rw [List.range_succ, List.map_append]; rfl
theorem spRow_cells (f : Nat → Nat × Nat) (m : Nat) : (spRow f m).map celSpan.uc ++ [[.lim none (limbs (f m).1), .lim none (limbs (f m).2)]] = (spRow f (m + 1)).map celSpan.uc := by rw [spRow_next, List.map_append]; rfl
theorem spRow_at (f : Nat → Nat × Nat) {m i : Nat} (h : i < m) : ((spRow f m).map celSpan.uc).getD i [] = [.lim none (limbs (f i).1), .lim none (limbs (f i).2)] := by
  unfold spRow
  rw [List.getD_eq_getElem?_getD, List.map_map, List.getElem?_map, List.getElem?_range h]
  rfl
theorem spRow_take (f : Nat → Nat × Nat) {k m : Nat} (h : k ≤ m) : ((spRow f m).map celSpan.uc).take k = (spRow f k).map celSpan.uc := by
  unfold spRow
  rw [← List.map_take, ← List.map_take, List.take_range, Nat.min_eq_left h]
@[go_sem] theorem load_rp2u {ti : TI} {id t i : Nat} {xs : List Nat} : loadAV (some ti) [.one (.cel (.rp id t i))] [some (.row (.u32 xs))] = (t = (RC.u32 xs).t ∧ ti.size = (RC.u32 xs).t ∧ i < (RC.u32 xs).len, ofCells ti.agg (((RC.u32 xs).at i).map CV.strip)) := rfl
@[go_sem] theorem load_rp21 {ti : TI} {id t i : Nat} {xs : List (List CV)} : loadAV (some ti) [.one (.cel (.rp id t i))] [some (.row (.gen 1 xs))] = (t = (RC.gen 1 xs).t ∧ ti.size = (RC.gen 1 xs).t ∧ i < (RC.gen 1 xs).len, ofCells ti.agg (((RC.gen 1 xs).at i).map CV.strip)) := rfl
@[go_sem] theorem load_rp22 {ti : TI} {id t i : Nat} {xs : List (List CV)} : loadAV (some ti) [.one (.cel (.rp id t i))] [some (.row (.gen 2 xs))] = (t = (RC.gen 2 xs).t ∧ ti.size = (RC.gen 2 xs).t ∧ i < (RC.gen 2 xs).len, ofCells ti.agg (((RC.gen 2 xs).at i).map CV.strip)) := rfl
theorem cut_bs2 {E : Env} {Q : AEx → AS → Prop} {k : List It} {s : AS} {id : Nat} {c c2 : Code} (h : ∀ C, C = c2 → codeK E Q (.block id :: .seq C :: k) c s) : codeK E Q (.block id :: .seq c2 :: k) c s := h c2 rfl
theorem spN_sz2 {p : Nat × Nat} {B L : Nat} (h : p.1 ≤ p.2) (h2 : p.2 < 2 ^ B) (hL : B / 32 + 1 ≤ L) : (spN p).sz ≤ L := by
  have := len_bits (Nat.lt_of_le_of_lt h h2)
  have := len_bits h2
  exact spN_sz (by omega) (by omega)
def d_fix_Rat : Den := den2 aRat aInt (fun a w => a.sz ≤ 4000000000 ∧ 0 ≤ w ∧ w ≤ 100000000000) fun a w => spanV (spN (P.spOf (val a.n) (val a.d) w.toNat))
set_option maxRecDepth 100000 in
set_option maxHeartbeats 1000000 in
theorem s_fix_Rat : Sound Tryz.prog 59 d_fix_Rat := by
  refine sound2 (fz := nofz) (l := [(94, d_fix_Of)]) TT_ok ⟨s_fix_Of, trivial⟩ mixed Tryz.func59 Tryz.ntmps59 Tryz.results59 Tryz.call59 rfl (by omega) (fun _ _ => rfl) ?_
  intro a b hp ha hb
  rw [codeK_start]
  simp only [go_sem, d_fix_Of, Nat.reduceBEq, Nat.reduceBNe, Nat.reduceLT, Nat.reduceLeDiff, Nat.reduceAdd, Nat.reduceSub, Nat.reduceMul, Nat.reduceEqDiff, Int.reduceNeg, Int.reduceAdd, Int.reduceLT, Int.reduceLE, Int.reduceToNat, ↓reduceIte]
  have hl := RR.lens hp.1
  and_intros
  all_goals first | omega | rfl
def ballSp (b : BB) (w : Nat) : Nat × Nat := ((P.spOf (val b.lo.n) (val b.lo.d) w).1, (P.spOf (val b.hi.n) (val b.hi.d) w).2)
def d_fix_Ball : Den := den2 aBall aInt (fun a w => a.sz ≤ 4000000000 ∧ 0 ≤ w ∧ w ≤ 100000000000) fun a w => spanV (spN (ballSp a w.toNat))
set_option maxRecDepth 100000 in
set_option maxHeartbeats 1000000 in
theorem s_fix_Ball : Sound Tryz.prog 38 d_fix_Ball := by
  refine sound2 (fz := nofz) (l := [(59, d_fix_Rat)]) TT_ok ⟨s_fix_Rat, trivial⟩ mixed Tryz.func38 Tryz.ntmps38 Tryz.results38 Tryz.call38 rfl (by omega) (fun _ _ => rfl) ?_
  intro a b hp ha hb
  rw [codeK_start]
  simp only [go_sem, d_fix_Rat, Nat.reduceBEq, Nat.reduceBNe, Nat.reduceLT, Nat.reduceLeDiff, Nat.reduceAdd, Nat.reduceSub, Nat.reduceMul, Nat.reduceEqDiff, Int.reduceNeg, Int.reduceAdd, Int.reduceLT, Int.reduceLE, Int.reduceToNat, ↓reduceIte]
  have hl := BB.lens hp.1
  and_intros
  all_goals first | omega | rfl | (show okDraw _ _ = true; kernel_rfl)
def toldB (a : Nat × Nat) (w k : Nat) : BB := bb (qv false (a.1 / 2 ^ (w - k)) (2 ^ k)) (qv false (a.2 / 2 ^ (w - k) + 1) (2 ^ k))
def d_fix_Told : Den := den3 aSpan aInt aInt (fun a w k => a.sz ≤ 1000000 ∧ 0 ≤ k ∧ k ≤ w ∧ w ≤ 100000) fun a w k => ballV (toldB a.v w.toNat k.toNat)
set_option maxRecDepth 100000 in
set_option maxHeartbeats 1000000 in
theorem s_fix_Told : Sound Tryz.prog 36 d_fix_Told := by
  refine sound3 (fz := nofz) (l := [(62, d_fix_One), (68, d_fix_Shift), (56, d_rat_Of), (69, d_fix_Next)]) TT_ok ⟨s_fix_One, s_fix_Shift, s_rat_Of, s_fix_Next, trivial⟩ mixed Tryz.func36 Tryz.ntmps36 Tryz.results36 Tryz.call36 rfl (by omega) (fun _ _ _ => rfl) ?_
  intro a b c hp ha hb hc
  rw [codeK_start]
  simp only [go_sem, d_fix_One, d_fix_Shift, d_rat_Of, d_fix_Next, Nat.reduceBEq, Nat.reduceBNe, Nat.reduceLT, Nat.reduceLeDiff, Nat.reduceAdd, Nat.reduceSub, Nat.reduceMul, Nat.reduceEqDiff, Int.reduceNeg, Int.reduceAdd, Int.reduceLT, Int.reduceLE, Int.reduceToNat, ↓reduceIte]
  have hs1 : a.lo.length ≤ 1000000 := by have := hp.1; unfold SpL.sz at this; omega
  have hs2 : a.hi.length ≤ 1000000 := by have := hp.1; unfold SpL.sz at this; omega
  have hv1 := limbs_len_val ha.1
  have hv2 := limbs_len_val ha.2
  obtain ⟨_, h0, h1, h2⟩ := hp
  have h3 := len_div (m := val a.lo) (2 ^ (b.toNat - c.toNat))
  have h4 := len_div (m := val a.hi) (2 ^ (b.toNat - c.toNat))
  have h5 := limbs_len_add (val a.hi / 2 ^ (b.toNat - c.toNat)) 1
  have h6 := len_one
  have h7 := pow_bits c.toNat
  rw [shiftN_sub h0 h1, shiftN_sub h0 h1, shiftN_up h0, Nat.one_mul]
  and_intros
  all_goals first | omega | rfl | (show okDraw _ _ = true; kernel_rfl)
/-- the spans of counts -/
def cF (n d w : Nat) : Nat → Nat × Nat := P.cs (P.spOf n d w) w
theorem cF_by {n d w : Nat} (hd : 0 < d) (hn : n ≤ 64 * d) : (P.spOf n d w).1 ≤ (P.spOf n d w).2 ∧ (P.spOf n d w).2 ≤ 65 * 2 ^ w := by
  have hw := P.pow_pos2 w
  have h1 : n * 2 ^ w / d ≤ 64 * 2 ^ w := by
    have a1 : n * 2 ^ w ≤ 64 * d * 2 ^ w := Nat.mul_le_mul_right _ hn
    rw [Nat.mul_right_comm] at a1
    have := Nat.div_le_div_right (c := d) a1
    rwa [Nat.mul_div_cancel _ hd] at this
  simp only [P.spOf]
  omega
theorem cF_sz {n d w : Nat} (hd : 0 < d) (hn : n ≤ 64 * d) (hw : w ≤ 1000) {j : Nat} (hj : j ≤ 200) : (spN (cF n d w j)).sz ≤ 200 ∧ (limbs (cF n d w j).1).length ≤ 200 ∧ (limbs (cF n d w j).2).length ≤ 200 := by
  obtain ⟨b1, b2⟩ := cF_by (w := w) hd hn
  have h1 := P.cs_sp (w := w) b1 j
  have h2 := P.cs_short b2 j
  have h3 : 2 ^ (w + 1 + 8 * j) < 2 ^ (w + 1 + 8 * j + 1) := P.pw_lt _
  have h4 : (cF n d w j).2 < 2 ^ (w + 1 + 8 * j + 1) := Nat.lt_of_le_of_lt h2 h3
  have h5 := len_bits (Nat.lt_of_le_of_lt h1 h4)
  have h6 := len_bits h4
  exact ⟨spN_sz (by unfold cF at *; omega) (by unfold cF at *; omega), by unfold cF at *; omega, by unfold cF at *; omega⟩
def fz_disc_counts : Nat → List Nat
  | 14 => [1008]
  | 1000003 => [15]
  | _ => []
def d_disc_counts : Den := den3 aInt aRat aInt (fun k m w => 0 ≤ k ∧ k ≤ 100 ∧ m.sz ≤ 1000 ∧ 0 < val m.d ∧ val m.n ≤ 64 * val m.d ∧ 64 ≤ w ∧ w ≤ 1000) fun k m w => rowV celSpan (spRow (cF (val m.n) (val m.d) w.toNat) (k.toNat + 1))
set_option maxRecDepth 100000 in
set_option maxHeartbeats 1000000 in
theorem s_disc_counts : Sound Tryz.prog 32 d_disc_counts := by
  refine sound3 (fz := fz_disc_counts) (l := [(59, d_fix_Rat), (60, d_fix_Unit), (37, d_fix_Mul), (62, d_fix_One), (58, d_nat_Of), (61, d_fix_Times)]) TT_ok ⟨s_fix_Rat, s_fix_Unit, s_fix_Mul, s_fix_One, s_nat_Of, s_fix_Times, trivial⟩ mixed Tryz.func32 Tryz.ntmps32 Tryz.results32 Tryz.call32 rfl (by omega) (fun _ _ _ => rfl) ?_
  intro a b c hp ha hb hc
  rw [codeK_start]
  simp only [go_sem, d_fix_Rat, d_fix_Unit, d_fix_Mul, d_fix_One, d_nat_Of, d_fix_Times, Nat.reduceBEq, Nat.reduceBNe, Nat.reduceLT, Nat.reduceLeDiff, Nat.reduceAdd, Nat.reduceSub, Nat.reduceMul, Nat.reduceEqDiff, Int.reduceNeg, Int.reduceAdd, Int.reduceLT, Int.reduceLE, Int.reduceToNat, ↓reduceIte]
  obtain ⟨hk0, hk1, hsz, hd, hn, hw1, hw2⟩ := hp
  obtain ⟨k, rfl⟩ := Int.eq_ofNat_of_zero_le hk0
  obtain ⟨w, rfl⟩ := Int.eq_ofNat_of_zero_le (show 0 ≤ c by omega)
  have hl := RR.lens hsz
  have htk : ((k : Nat) : Int).toNat = k := rfl
  have htw : ((w : Nat) : Int).toNat = w := rfl
  have key := fun j hj => cF_sz (w := w) hd hn (by omega) (j := j) hj
  have hby : (spN (P.spOf (val b.n) (val b.d) w)).sz ≤ 200 := by
    obtain ⟨b1, b2⟩ := cF_by (w := w) hd hn
    have h3 : 65 * 2 ^ w < 2 ^ (w + 8) := by rw [Nat.pow_add]; have := P.pow_pos2 w; omega
    exact spN_sz2 b1 (Nat.lt_of_le_of_lt b2 h3) (by omega)
  have hl1 := len_one
  simp only [go_sem, d_fix_Rat, d_fix_Unit, d_fix_Mul, d_fix_One, d_nat_Of, d_fix_Times, fz_disc_counts, beq_self_eq_true, htw, htk, Nat.reduceBEq, Nat.reduceBNe, Nat.reduceLT, Nat.reduceLeDiff, Nat.reduceAdd, Nat.reduceSub, Nat.reduceMul, Nat.reduceEqDiff, Int.reduceNeg, Int.reduceAdd, Int.reduceLT, Int.reduceLE, Int.reduceToNat, ↓reduceIte]
  and_intros
  all_goals try (first | assumption | omega | (show okDraw _ _ = true; kernel_rfl))
  refine codeK_loop (fun m : { m : Nat // 1 ≤ m ∧ m ≤ k + 1 } => [(9, 0, .av (intV ((m.1 : Nat) : Int))), (8, 0, .av (.one (.cel (.rf 1008 (m.1))))), (1008, 1, .row (.gen 2 ((spRow (cF (val b.n) (val b.d) w) (m.1)).map celSpan.uc))), (7, 0, .av (.one (.cel (.ptr 7 0)))), (7, 1, .cv (.lim none (limbs (P.spOf (val b.n) (val b.d) w).1))), (7, 2, .cv (.lim none (limbs (P.spOf (val b.n) (val b.d) w).2))), (2, 0, .av (intV (w : Int))), (0, 0, .av (intV (k : Int)))]) (fun m => k + 1 - m.1) ⟨1, by omega, by omega⟩ ?_ ?_
  · refine le_ren 15 1008 (c := .gen 2 [[.lim none (limbs (P.spOne w).1), .lim none (limbs (P.spOne w).2)]]) (by rfl) (by kernel_rfl) (le_of ?_)
    have hr1 : (spRow (cF (val b.n) (val b.d) w) 1).map celSpan.uc = [[.lim none (limbs (P.spOne w).1), .lim none (limbs (P.spOne w).2)]] := rfl
    simp only [go_sem, leL, hr1, Nat.reduceBEq, Nat.reduceBNe, Nat.reduceLT, Nat.reduceLeDiff, Nat.reduceAdd, Nat.reduceSub, Nat.reduceMul, Nat.reduceEqDiff, Int.reduceNeg, Int.reduceAdd, Int.reduceLT, Int.reduceLE, Int.reduceToNat, ↓reduceIte]
    try rfl
  · rintro ⟨m, hm1, hm2⟩
    have hln := spRow_len (cF (val b.n) (val b.d) w) m
    have hln2 := spRow_len (cF (val b.n) (val b.d) w) (m + 1)
    by_cases hm : m ≤ k
    · have hmt : (((m : Nat) : Int) ≤ ((k : Nat) : Int)) = True := eq_true (by omega)
      have hti : (((m : Nat) : Int) - 1).toNat = m - 1 := by omega
      have htm : ((m : Nat) : Int).toNat = m := rfl
      have hwm : IntKind.u64.wrap ((m : Nat) : Int) = ((m : Nat) : Int) := u64_wrap (by omega) (by omega)
      have hgd := spRow_at (cF (val b.n) (val b.d) w) (m := m) (i := m - 1) (by omega)
      have hstep : P.spTimes (P.spMul (cF (val b.n) (val b.d) w (m - 1)) (P.spOf (val b.n) (val b.d) w) w) 1 m = cF (val b.n) (val b.d) w m := by
        obtain ⟨j, rfl⟩ : ∃ j, m = j + 1 := ⟨m - 1, by omega⟩
        rfl
      have hrow := spRow_cells (cF (val b.n) (val b.d) w) m
      obtain ⟨z1, z2, z3⟩ := key (m - 1) (by omega)
      have hlm : (limbs m).length ≤ 2 := limbs_len_le (by rw [show (4294967296 : Nat) ^ 2 = 18446744073709551616 by decide]; omega)
      have hms : (spN (P.spMul (cF (val b.n) (val b.d) w (m - 1)) (P.spOf (val b.n) (val b.d) w) w)).sz ≤ 1000 := mul_sz (L := 200) (M := 200) z2 z3 (Nat.le_trans (Nat.le_max_left _ _) hby) (Nat.le_trans (Nat.le_max_right _ _) hby) (by omega)
      simp only [go_sem, d_fix_Rat, d_fix_Unit, d_fix_Mul, d_fix_One, d_nat_Of, d_fix_Times, fz_disc_counts, beq_self_eq_true, htw, hmt, hti, htm, hwm, hgd, hstep, Nat.reduceBEq, Nat.reduceBNe, Nat.reduceLT, Nat.reduceLeDiff, Nat.reduceAdd, Nat.reduceSub, Nat.reduceMul, Nat.reduceEqDiff, Int.reduceNeg, Int.reduceAdd, Int.reduceLT, Int.reduceLE, Int.reduceToNat, ↓reduceIte]
      and_intros
      all_goals try (first | omega | exact hln.symm | (show okDraw _ _ = true; kernel_rfl))
      refine ⟨⟨m + 1, by omega, by omega⟩, by show k + 1 - (m + 1) < k + 1 - m; omega, Le.trans (b := [(9, 0, .av (intV ((m + 1 : Nat) : Int))), (8, 0, .av (.one (.cel (.rf 36 (m + 1))))), (36, 1, .row (.gen 2 ((spRow (cF (val b.n) (val b.d) w) (m + 1)).map celSpan.uc))), (7, 0, .av (.one (.cel (.ptr 7 0)))), (7, 1, .cv (.lim none (limbs (P.spOf (val b.n) (val b.d) w).1))), (7, 2, .cv (.lim none (limbs (P.spOf (val b.n) (val b.d) w).2))), (2, 0, .av (intV (w : Int))), (0, 0, .av (intV (k : Int)))]) (le_of ?_) (le_ren 36 1008 (c := .gen 2 ((spRow (cF (val b.n) (val b.d) w) (m + 1)).map celSpan.uc)) (by rfl) (by kernel_rfl) (le_of ?_))⟩
      · simp only [go_sem, leL, hrow, hln2, Nat.reduceBEq, Nat.reduceBNe, Nat.reduceLT, Nat.reduceLeDiff, Nat.reduceAdd, Nat.reduceSub, Nat.reduceMul, Nat.reduceEqDiff, Int.reduceNeg, Int.reduceAdd, Int.reduceLT, Int.reduceLE, Int.reduceToNat, ↓reduceIte]
        try omega
      · simp only [go_sem, leL, Nat.reduceBEq, Nat.reduceBNe, Nat.reduceLT, Nat.reduceLeDiff, Nat.reduceAdd, Nat.reduceSub, Nat.reduceMul, Nat.reduceEqDiff, Int.reduceNeg, Int.reduceAdd, Int.reduceLT, Int.reduceLE, Int.reduceToNat, ↓reduceIte]
    · have hmt : (((m : Nat) : Int) ≤ ((k : Nat) : Int)) = False := eq_false (by omega)
      have em : m = k + 1 := by omega
      subst em
      have htake : List.take (k + 1) ((spRow (cF (val b.n) (val b.d) w) (k + 1)).map celSpan.uc) = (spRow (cF (val b.n) (val b.d) w) (k + 1)).map celSpan.uc := List.take_of_length_le (by rw [List.length_map]; omega)
      simp only [go_sem, d_fix_Rat, d_fix_Unit, d_fix_Mul, d_fix_One, d_nat_Of, d_fix_Times, fz_disc_counts, beq_self_eq_true, htw, htk, hmt, htake, Nat.reduceBEq, Nat.reduceBNe, Nat.reduceLT, Nat.reduceLeDiff, Nat.reduceAdd, Nat.reduceSub, Nat.reduceMul, Nat.reduceEqDiff, Int.reduceNeg, Int.reduceAdd, Int.reduceLT, Int.reduceLE, Int.reduceToNat, ↓reduceIte]
      omega
theorem ballSp_sz {x y : Rat} {W : Nat} (h1 : rs x ≤ 30) (h2 : rs y ≤ 30) (hW : W ≤ 328) : (limbs (ballSp (bb x y) W).1).length ≤ 100 ∧ (limbs (ballSp (bb x y) W).2).length ≤ 100 := by
  have p1 := rs_parts h1
  have p2 := rs_parts h2
  have e1 : val (cr x).n = nm x := val_limbs _
  have e2 : val (cr x).d = x.den := val_limbs _
  have e3 : val (cr y).n = nm y := val_limbs _
  have e4 : val (cr y).d = y.den := val_limbs _
  have a1 := len_up (k := W) (limbs_lt (nm x)) (val_limbs _).symm
  have a2 := len_up (k := W) (limbs_lt (nm y)) (val_limbs _).symm
  have a3 := len_div (m := nm x * 2 ^ W) x.den
  have a4 := len_div (m := nm y * 2 ^ W) y.den
  have a5 := limbs_len_add (nm y * 2 ^ W / y.den) 1
  have a6 := len_one
  unfold ballSp P.spOf
  simp only [bb, e1, e2, e3, e4]
  omega
/-- what counts tell: is the mean one that is asked? -/
def tOk (q : Rat) : Bool := !ng q && decide (q ≤ 64)
/-- the digits -/
def tP (p : Int) : Nat := (min (max p 0) 200).toNat
def tS (all : Bool) (q : Rat) (p : Int) (k : Nat) : Nat × Nat := if all = true then P.csS (P.spOf (nm q) q.den (tP p + 128)) (tP p + 128) k k else cF (nm q) q.den (tP p + 128) k
def tE (q : Rat) (p : Int) : Nat × Nat := ballSp (bb (expLo (-q) ((tP p + 128 : Nat) : Int)) (expHi (-q) ((tP p + 128 : Nat) : Int))) (tP p + 128)
def tBall (all : Bool) (q : Rat) (p : Int) (k : Nat) : BB := toldB (P.spMul (tS all q p k) (tE q p) (tP p + 128)) (tP p + 128) (tP p + 2)
def tB (all : Bool) (k : Int) (q : Rat) (p : Int) : BB := if tOk q = true then if k < 0 ∨ (q = 0 ∧ 0 < k ∧ all = false) then bb ((0 : Int) : Rat) ((0 : Int) : Rat) else if q = 0 then bb ((1 : Int) : Rat) ((1 : Int) : Rat) else tBall all q p k.toNat else bb ((0 : Int) : Rat) ((0 : Int) : Rat)
def sAt (all : Bool) (b : Nat × Nat) (w k i : Nat) : Nat × Nat := if all = true then P.csS b w k i else P.cs b w k
theorem sAt_sz {all : Bool} {B : Nat × Nat} {W K i : Nat} (h1 : B.1 ≤ B.2) (h2 : B.2 ≤ 65 * 2 ^ W) (hW : W ≤ 328) (hK : K ≤ 100) (hi : i ≤ K) : (spN (sAt all B W K i)).sz ≤ 200 ∧ (limbs (sAt all B W K i).1).length ≤ 200 ∧ (limbs (sAt all B W K i).2).length ≤ 200 := by
  have key : (sAt all B W K i).1 ≤ (sAt all B W K i).2 ∧ (sAt all B W K i).2 < 2 ^ (W + 1 + 8 * K + 8) := by
    have hp := P.pow_pos2 (W + 1 + 8 * K)
    rw [Nat.pow_add _ (W + 1 + 8 * K)]
    unfold sAt
    cases all with
    | true =>
      refine ⟨P.csS_sp h1 i, Nat.lt_of_le_of_lt (P.csS_short h2 (Nat.le_refl K) i hi) ?_⟩
      have : (i + 1) * 2 ^ (W + 1 + 8 * K) ≤ 101 * 2 ^ (W + 1 + 8 * K) := Nat.mul_le_mul_right _ (by omega)
      omega
    | false =>
      have := P.cs_short h2 K
      refine ⟨P.cs_sp h1 K, ?_⟩
      simp only [Bool.false_eq_true, if_false]
      omega
  have h5 := len_bits (Nat.lt_of_le_of_lt key.1 key.2)
  have h6 := len_bits key.2
  exact ⟨spN_sz (by omega) (by omega), by omega, by omega⟩
end Go.Proofs.YtnjgliojkoeneaaGreat
