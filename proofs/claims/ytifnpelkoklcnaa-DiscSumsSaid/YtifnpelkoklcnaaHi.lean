/- disc: counts, told, Pois, PoisCdf, by the abstract walk; fix.Rat, fix.Ball, fix.Told. Conditions: counts up to 100, means of at most 1000 limbs. -/
import Derived.Test.YtifnpelkoklcnaaMc
import Derived.Test.YtifnpelkoklcnaaPi
import Derived.Test.YtifnpelkoklcnaaBa
import Derived.Test.YtifnpelkoklcnaaCb
namespace Go.Proofs.Ytifnpelkoklcnaa
open Go.RowKit
set_option linter.unusedSimpArgs false
set_option linter.unusedVariables false

theorem cellsSpan_split {l : List CV} {x : SpL} (h : cellsSpan l = some x) : ∃ a b, l = [a, b] ∧ a.lims = some x.lo ∧ b.lims = some x.hi := by
  unfold cellsSpan at h
  split at h
  · split at h
    · rename_i n d hx hy
      cases h
      exact ⟨_, _, rfl, hx, hy⟩
    · cases h
  · cases h
theorem cellsP_two {X : Nat → Nat → Prop} {w : World} {b off : Nat} {x y : CV} : cellsP X w b off [x, y] ↔ (∃ v, seenAt X w b off v ∧ x.P X w v) ∧ ∃ v, seenAt X w b (off + 1) v ∧ y.P X w v := by
  simp only [cellsP, and_true]
def celSpan : Cel SpL where
  k := 2
  pc := cellsSpan
  uc := spanCells
  va := SpL.ok
  len := fun h => by obtain ⟨_, _, rfl, _⟩ := cellsSpan_split h; rfl
  lenU := fun _ => rfl
  ok := fun {l x} {X w b off} h hp => by
    obtain ⟨a1, a2, rfl, h1, h2⟩ := cellsSpan_split h
    rw [cellsP_two] at hp
    obtain ⟨⟨v1, s1, p1⟩, v2, s2, p2⟩ := hp
    exact cellsP_two.2 ⟨⟨v1, s1, by simpa only [CV.P] using CV.lims_P h1 p1⟩, v2, s2, by simpa only [CV.P] using CV.lims_P h2 p2⟩
  rt := fun _ => rfl
  vd := fun {x} {X w b off} h => by
    obtain ⟨⟨v1, s1, p1⟩, v2, s2, p2⟩ := cellsP_two.1 h
    exact ⟨limV_ok (X := X) (w := w) (v := v1) p1, limV_ok (X := X) (w := w) (v := v2) p2⟩
@[go_sem] theorem celSpan_k : celSpan.k = 2 := rfl
@[go_sem] theorem celSpan_pc (l : List CV) : celSpan.pc l = cellsSpan l := rfl
@[go_sem] theorem celSpan_uc (x : SpL) : celSpan.uc x = spanCells x := rfl
/-! rows of spans -/
def spRow (f : Nat → Nat × Nat) (m : Nat) : List SpL := (List.range m).map fun i => spN (f i)
theorem spRow_len (f : Nat → Nat × Nat) (m : Nat) : (spRow f m).length = m := by unfold spRow; simp
theorem spRow_next (f : Nat → Nat × Nat) (m : Nat) : spRow f (m + 1) = spRow f m ++ [spN (f m)] := by unfold spRow; rw [List.range_succ, List.map_append]; rfl
theorem spRow_cells (f : Nat → Nat × Nat) (m : Nat) : (spRow f m).map celSpan.uc ++ [[.lim none (limbs (f m).1), .lim none (limbs (f m).2)]] = (spRow f (m + 1)).map celSpan.uc := by rw [spRow_next, List.map_append]; rfl
theorem spRow_at (f : Nat → Nat × Nat) {m i : Nat} (h : i < m) : ((spRow f m).map celSpan.uc).getD i [] = [.lim none (limbs (f i).1), .lim none (limbs (f i).2)] := by
  unfold spRow
  rw [List.getD_eq_getElem?_getD, List.map_map, List.getElem?_map, List.getElem?_range h]
  rfl
theorem spRow_take (f : Nat → Nat × Nat) {k m : Nat} (h : k ≤ m) : ((spRow f m).map celSpan.uc).take k = (spRow f k).map celSpan.uc := by
  unfold spRow
  rw [← List.map_take, ← List.map_take, List.take_range, Nat.min_eq_left h]
@[go_sem] theorem load_rp2 {ti : TI} {id t i : Nat} {c : RC} : loadAV (some ti) [.one (.cel (.rp id t i))] [some (.row c)] = (t = c.t ∧ ti.size = c.t ∧ i < c.len, ofCells ti.agg ((c.at i).map CV.strip)) := rfl
theorem cut_bs2 {E : Env} {Q : AEx → AS → Prop} {k : List It} {s : AS} {id : Nat} {c c2 : Code} (h : ∀ C, C = c2 → codeK E Q (.block id :: .seq C :: k) c s) : codeK E Q (.block id :: .seq c2 :: k) c s := h c2 rfl
theorem spN_sz2 {p : Nat × Nat} {B L : Nat} (h : p.1 ≤ p.2) (h2 : p.2 < 2 ^ B) (hL : B / 32 + 1 ≤ L) : (spN p).sz ≤ L := by
  have := len_bits (Nat.lt_of_le_of_lt h h2)
  have := len_bits h2
  exact spN_sz (by omega) (by omega)

def d_fix_Rat : Den := den2 aRat aInt (fun a w => a.sz ≤ 4000000000 ∧ 0 ≤ w ∧ w ≤ 100000000000) fun a w => spanV (spN (P.spOf (val a.n) (val a.d) w.toNat))
set_option maxRecDepth 100000 in
set_option maxHeartbeats 1000000 in
theorem s_fix_Rat : Sound Try.prog 153 d_fix_Rat := by
  refine sound2 (fz := nofz) (l := [(122, d_fix_Of)]) TT_ok ⟨s_fix_Of, trivial⟩ mixed Try.func153 Try.ntmps153 Try.results153 Try.call153 rfl (by omega) (fun _ _ => rfl) ?_
  intro a b hp ha hb
  rw [codeK_start]
  simp only [go_sem, d_fix_Of, Nat.reduceBEq, Nat.reduceBNe, Nat.reduceLT, Nat.reduceLeDiff, Nat.reduceAdd, Nat.reduceSub, Nat.reduceMul, Nat.reduceEqDiff, Int.reduceNeg, Int.reduceAdd, Int.reduceLT, Int.reduceLE, Int.reduceToNat, ↓reduceIte]
  have hl := RR.lens hp.1
  and_intros
  all_goals first | omega | rfl


def ballSp (b : BB) (w : Nat) : Nat × Nat := ((P.spOf (val b.lo.n) (val b.lo.d) w).1, (P.spOf (val b.hi.n) (val b.hi.d) w).2)

def d_fix_Ball : Den := den2 aBall aInt (fun a w => a.sz ≤ 4000000000 ∧ 0 ≤ w ∧ w ≤ 100000000000) fun a w => spanV (spN (ballSp a w.toNat))
set_option maxRecDepth 100000 in
set_option maxHeartbeats 1000000 in
theorem s_fix_Ball : Sound Try.prog 138 d_fix_Ball := by
  refine sound2 (fz := nofz) (l := [(153, d_fix_Rat)]) TT_ok ⟨s_fix_Rat, trivial⟩ mixed Try.func138 Try.ntmps138 Try.results138 Try.call138 rfl (by omega) (fun _ _ => rfl) ?_
  intro a b hp ha hb
  rw [codeK_start]
  simp only [go_sem, d_fix_Rat, Nat.reduceBEq, Nat.reduceBNe, Nat.reduceLT, Nat.reduceLeDiff, Nat.reduceAdd, Nat.reduceSub, Nat.reduceMul, Nat.reduceEqDiff, Int.reduceNeg, Int.reduceAdd, Int.reduceLT, Int.reduceLE, Int.reduceToNat, ↓reduceIte]
  have hl := BB.lens hp.1
  and_intros
  all_goals first | omega | rfl | (show okDraw _ _ = true; kernel_rfl)


def toldB (a : Nat × Nat) (w k : Nat) : BB := bb (qv false (a.1 / 2 ^ (w - k)) (2 ^ k)) (qv false (a.2 / 2 ^ (w - k) + 1) (2 ^ k))

def d_fix_Told : Den := den3 aSpan aInt aInt (fun a w k => a.sz ≤ 1000000 ∧ 0 ≤ k ∧ k ≤ w ∧ w ≤ 100000) fun a w k => ballV (toldB a.v w.toNat k.toNat)
set_option maxRecDepth 100000 in
set_option maxHeartbeats 1000000 in
theorem s_fix_Told : Sound Try.prog 137 d_fix_Told := by
  refine sound3 (fz := nofz) (l := [(115, d_fix_One), (114, d_fix_Shift), (108, d_rat_Of), (116, d_fix_Next)]) TT_ok ⟨s_fix_One, s_fix_Shift, s_rat_Of, s_fix_Next, trivial⟩ mixed Try.func137 Try.ntmps137 Try.results137 Try.call137 rfl (by omega) (fun _ _ _ => rfl) ?_
  intro a b c hp ha hb hc
  rw [codeK_start]
  simp only [go_sem, d_fix_One, d_fix_Shift, d_rat_Of, d_fix_Next, Nat.reduceBEq, Nat.reduceBNe, Nat.reduceLT, Nat.reduceLeDiff, Nat.reduceAdd, Nat.reduceSub, Nat.reduceMul, Nat.reduceEqDiff, Int.reduceNeg, Int.reduceAdd, Int.reduceLT, Int.reduceLE, Int.reduceToNat, ↓reduceIte]
  have hs1 : a.lo.length ≤ 1000000 := by have := hp.1; unfold SpL.sz at this; omega
  have hs2 : a.hi.length ≤ 1000000 := by have := hp.1; unfold SpL.sz at this; omega
  have hv1 := limbs_len_val ha.1
  have hv2 := limbs_len_val ha.2
  obtain ⟨_, h0, h1, h2⟩ := hp
  have h3 := len_div (m := val a.lo) (2 ^ (b.toNat - c.toNat))
  have h4 := len_div (m := val a.hi) (2 ^ (b.toNat - c.toNat))
  have h5 := limbs_len_add (val a.hi / 2 ^ (b.toNat - c.toNat)) 1
  have h6 := len_one
  have h7 := pow_bits c.toNat
  rw [shiftN_sub h0 h1, shiftN_sub h0 h1, shiftN_up h0, Nat.one_mul]
  and_intros
  all_goals first | omega | rfl | (show okDraw _ _ = true; kernel_rfl)


theorem shiftN_up' : True := trivial
/-- the spans of counts -/
def cF (n d w : Nat) : Nat → Nat × Nat := P.cs (P.spOf n d w) w
theorem cF_by {n d w : Nat} (hd : 0 < d) (hn : n ≤ 64 * d) : (P.spOf n d w).1 ≤ (P.spOf n d w).2 ∧ (P.spOf n d w).2 ≤ 65 * 2 ^ w := by
  have hw := P.pow_pos2 w
  have h1 : n * 2 ^ w / d ≤ 64 * 2 ^ w := by
    have a1 : n * 2 ^ w ≤ 64 * d * 2 ^ w := Nat.mul_le_mul_right _ hn
    rw [Nat.mul_right_comm] at a1
    have := Nat.div_le_div_right (c := d) a1
    rwa [Nat.mul_div_cancel _ hd] at this
  simp only [P.spOf]
  omega
theorem cF_sz {n d w : Nat} (hd : 0 < d) (hn : n ≤ 64 * d) (hw : w ≤ 1000) {j : Nat} (hj : j ≤ 200) : (spN (cF n d w j)).sz ≤ 200 ∧ (limbs (cF n d w j).1).length ≤ 200 ∧ (limbs (cF n d w j).2).length ≤ 200 := by
  obtain ⟨b1, b2⟩ := cF_by (w := w) hd hn
  have h1 := P.cs_sp (w := w) b1 j
  have h2 := P.cs_short b2 j
  have h3 : 2 ^ (w + 1 + 8 * j) < 2 ^ (w + 1 + 8 * j + 1) := P.pw_lt _
  have h4 : (cF n d w j).2 < 2 ^ (w + 1 + 8 * j + 1) := Nat.lt_of_le_of_lt h2 h3
  have h5 := len_bits (Nat.lt_of_le_of_lt h1 h4)
  have h6 := len_bits h4
  exact ⟨spN_sz (by unfold cF at *; omega) (by unfold cF at *; omega), by unfold cF at *; omega, by unfold cF at *; omega⟩
def fz_disc_counts : Nat → List Nat
  | 14 => [1008]
  | 1000003 => [15]
  | _ => []

def d_disc_counts : Den := den3 aInt aRat aInt (fun k m w => 0 ≤ k ∧ k ≤ 100 ∧ m.sz ≤ 1000 ∧ 0 < val m.d ∧ val m.n ≤ 64 * val m.d ∧ 64 ≤ w ∧ w ≤ 1000) fun k m w => rowV celSpan (spRow (cF (val m.n) (val m.d) w.toNat) (k.toNat + 1))
set_option maxRecDepth 100000 in
set_option maxHeartbeats 1000000 in
theorem s_disc_counts : Sound Try.prog 136 d_disc_counts := by
  refine sound3 (fz := fz_disc_counts) (l := [(153, d_fix_Rat), (150, d_fix_Unit), (124, d_fix_Mul), (115, d_fix_One), (121, d_nat_Of), (120, d_fix_Times)]) TT_ok ⟨s_fix_Rat, s_fix_Unit, s_fix_Mul, s_fix_One, s_nat_Of, s_fix_Times, trivial⟩ mixed Try.func136 Try.ntmps136 Try.results136 Try.call136 rfl (by omega) (fun _ _ _ => rfl) ?_
  intro a b c hp ha hb hc
  rw [codeK_start]
  simp only [go_sem, d_fix_Rat, d_fix_Unit, d_fix_Mul, d_fix_One, d_nat_Of, d_fix_Times, Nat.reduceBEq, Nat.reduceBNe, Nat.reduceLT, Nat.reduceLeDiff, Nat.reduceAdd, Nat.reduceSub, Nat.reduceMul, Nat.reduceEqDiff, Int.reduceNeg, Int.reduceAdd, Int.reduceLT, Int.reduceLE, Int.reduceToNat, ↓reduceIte]
  obtain ⟨hk0, hk1, hsz, hd, hn, hw1, hw2⟩ := hp
  obtain ⟨k, rfl⟩ := Int.eq_ofNat_of_zero_le hk0
  obtain ⟨w, rfl⟩ := Int.eq_ofNat_of_zero_le (show 0 ≤ c by omega)
  have hl := RR.lens hsz
  have htk : ((k : Nat) : Int).toNat = k := rfl
  have htw : ((w : Nat) : Int).toNat = w := rfl
  have key := fun j hj => cF_sz (w := w) hd hn (by omega) (j := j) hj
  have hby : (spN (P.spOf (val b.n) (val b.d) w)).sz ≤ 200 := by
    obtain ⟨b1, b2⟩ := cF_by (w := w) hd hn
    have h3 : 65 * 2 ^ w < 2 ^ (w + 8) := by rw [Nat.pow_add]; have := P.pow_pos2 w; omega
    exact spN_sz2 b1 (Nat.lt_of_le_of_lt b2 h3) (by omega)
  have hl1 := len_one
  simp only [go_sem, d_fix_Rat, d_fix_Unit, d_fix_Mul, d_fix_One, d_nat_Of, d_fix_Times, fz_disc_counts, beq_self_eq_true, htw, htk, Nat.reduceBEq, Nat.reduceBNe, Nat.reduceLT, Nat.reduceLeDiff, Nat.reduceAdd, Nat.reduceSub, Nat.reduceMul, Nat.reduceEqDiff, Int.reduceNeg, Int.reduceAdd, Int.reduceLT, Int.reduceLE, Int.reduceToNat, ↓reduceIte]
  and_intros
  all_goals try (first | assumption | omega | (show okDraw _ _ = true; kernel_rfl))
  refine codeK_loop (fun m : { m : Nat // 1 ≤ m ∧ m ≤ k + 1 } => [(9, 0, .av (intV ((m.1 : Nat) : Int))), (8, 0, .av (.one (.cel (.rf 1008 (m.1))))), (1008, 1, .row (.gen 2 ((spRow (cF (val b.n) (val b.d) w) (m.1)).map celSpan.uc))), (7, 0, .av (.one (.cel (.ptr 7 0)))), (7, 1, .cv (.lim none (limbs (P.spOf (val b.n) (val b.d) w).1))), (7, 2, .cv (.lim none (limbs (P.spOf (val b.n) (val b.d) w).2))), (2, 0, .av (intV (w : Int))), (0, 0, .av (intV (k : Int)))]) (fun m => k + 1 - m.1) ⟨1, by omega, by omega⟩ ?_ ?_
  · refine le_ren 15 1008 (c := .gen 2 [[.lim none (limbs (P.spOne w).1), .lim none (limbs (P.spOne w).2)]]) (by rfl) (by kernel_rfl) (le_of ?_)
    have hr1 : (spRow (cF (val b.n) (val b.d) w) 1).map celSpan.uc = [[.lim none (limbs (P.spOne w).1), .lim none (limbs (P.spOne w).2)]] := rfl
    simp only [go_sem, leL, hr1, Nat.reduceBEq, Nat.reduceBNe, Nat.reduceLT, Nat.reduceLeDiff, Nat.reduceAdd, Nat.reduceSub, Nat.reduceMul, Nat.reduceEqDiff, Int.reduceNeg, Int.reduceAdd, Int.reduceLT, Int.reduceLE, Int.reduceToNat, ↓reduceIte]
    try rfl
  · rintro ⟨m, hm1, hm2⟩
    have hln := spRow_len (cF (val b.n) (val b.d) w) m
    have hln2 := spRow_len (cF (val b.n) (val b.d) w) (m + 1)
    by_cases hm : m ≤ k
    · have hmt : (((m : Nat) : Int) ≤ ((k : Nat) : Int)) = True := eq_true (by omega)
      have hti : (((m : Nat) : Int) - 1).toNat = m - 1 := by omega
      have htm : ((m : Nat) : Int).toNat = m := rfl
      have hwm : IntKind.u64.wrap ((m : Nat) : Int) = ((m : Nat) : Int) := u64_wrap (by omega) (by omega)
      have hgd := spRow_at (cF (val b.n) (val b.d) w) (m := m) (i := m - 1) (by omega)
      have hstep : P.spTimes (P.spMul (cF (val b.n) (val b.d) w (m - 1)) (P.spOf (val b.n) (val b.d) w) w) 1 m = cF (val b.n) (val b.d) w m := by
        obtain ⟨j, rfl⟩ : ∃ j, m = j + 1 := ⟨m - 1, by omega⟩
        rfl
      have hrow := spRow_cells (cF (val b.n) (val b.d) w) m
      obtain ⟨z1, z2, z3⟩ := key (m - 1) (by omega)
      have hlm : (limbs m).length ≤ 2 := limbs_len_le (by rw [show (4294967296 : Nat) ^ 2 = 18446744073709551616 by decide]; omega)
      have hms : (spN (P.spMul (cF (val b.n) (val b.d) w (m - 1)) (P.spOf (val b.n) (val b.d) w) w)).sz ≤ 1000 := mul_sz (L := 200) (M := 200) z2 z3 (Nat.le_trans (Nat.le_max_left _ _) hby) (Nat.le_trans (Nat.le_max_right _ _) hby) (by omega)
      simp only [go_sem, d_fix_Rat, d_fix_Unit, d_fix_Mul, d_fix_One, d_nat_Of, d_fix_Times, fz_disc_counts, beq_self_eq_true, htw, hmt, hti, htm, hwm, hgd, hstep, Nat.reduceBEq, Nat.reduceBNe, Nat.reduceLT, Nat.reduceLeDiff, Nat.reduceAdd, Nat.reduceSub, Nat.reduceMul, Nat.reduceEqDiff, Int.reduceNeg, Int.reduceAdd, Int.reduceLT, Int.reduceLE, Int.reduceToNat, ↓reduceIte]
      and_intros
      all_goals try (first | omega | exact hln.symm | (show okDraw _ _ = true; kernel_rfl))
      refine ⟨⟨m + 1, by omega, by omega⟩, by show k + 1 - (m + 1) < k + 1 - m; omega, Le.trans (b := [(9, 0, .av (intV ((m + 1 : Nat) : Int))), (8, 0, .av (.one (.cel (.rf 36 (m + 1))))), (36, 1, .row (.gen 2 ((spRow (cF (val b.n) (val b.d) w) (m + 1)).map celSpan.uc))), (7, 0, .av (.one (.cel (.ptr 7 0)))), (7, 1, .cv (.lim none (limbs (P.spOf (val b.n) (val b.d) w).1))), (7, 2, .cv (.lim none (limbs (P.spOf (val b.n) (val b.d) w).2))), (2, 0, .av (intV (w : Int))), (0, 0, .av (intV (k : Int)))]) (le_of ?_) (le_ren 36 1008 (c := .gen 2 ((spRow (cF (val b.n) (val b.d) w) (m + 1)).map celSpan.uc)) (by rfl) (by kernel_rfl) (le_of ?_))⟩
      · simp only [go_sem, leL, hrow, hln2, Nat.reduceBEq, Nat.reduceBNe, Nat.reduceLT, Nat.reduceLeDiff, Nat.reduceAdd, Nat.reduceSub, Nat.reduceMul, Nat.reduceEqDiff, Int.reduceNeg, Int.reduceAdd, Int.reduceLT, Int.reduceLE, Int.reduceToNat, ↓reduceIte]
        try omega
      · simp only [go_sem, leL, Nat.reduceBEq, Nat.reduceBNe, Nat.reduceLT, Nat.reduceLeDiff, Nat.reduceAdd, Nat.reduceSub, Nat.reduceMul, Nat.reduceEqDiff, Int.reduceNeg, Int.reduceAdd, Int.reduceLT, Int.reduceLE, Int.reduceToNat, ↓reduceIte]
    · have hmt : (((m : Nat) : Int) ≤ ((k : Nat) : Int)) = False := eq_false (by omega)
      have em : m = k + 1 := by omega
      subst em
      have htake : List.take (k + 1) ((spRow (cF (val b.n) (val b.d) w) (k + 1)).map celSpan.uc) = (spRow (cF (val b.n) (val b.d) w) (k + 1)).map celSpan.uc := List.take_of_length_le (by rw [List.length_map]; omega)
      simp only [go_sem, d_fix_Rat, d_fix_Unit, d_fix_Mul, d_fix_One, d_nat_Of, d_fix_Times, fz_disc_counts, beq_self_eq_true, htw, htk, hmt, htake, Nat.reduceBEq, Nat.reduceBNe, Nat.reduceLT, Nat.reduceLeDiff, Nat.reduceAdd, Nat.reduceSub, Nat.reduceMul, Nat.reduceEqDiff, Int.reduceNeg, Int.reduceAdd, Int.reduceLT, Int.reduceLE, Int.reduceToNat, ↓reduceIte]
      omega


theorem ballSp_sz {x y : Rat} {W : Nat} (h1 : rs x ≤ 30) (h2 : rs y ≤ 30) (hW : W ≤ 328) : (limbs (ballSp (bb x y) W).1).length ≤ 100 ∧ (limbs (ballSp (bb x y) W).2).length ≤ 100 := by
  have p1 := rs_parts h1
  have p2 := rs_parts h2
  have e1 : val (cr x).n = nm x := val_limbs _
  have e2 : val (cr x).d = x.den := val_limbs _
  have e3 : val (cr y).n = nm y := val_limbs _
  have e4 : val (cr y).d = y.den := val_limbs _
  have a1 := len_up (k := W) (limbs_lt (nm x)) (val_limbs _).symm
  have a2 := len_up (k := W) (limbs_lt (nm y)) (val_limbs _).symm
  have a3 := len_div (m := nm x * 2 ^ W) x.den
  have a4 := len_div (m := nm y * 2 ^ W) y.den
  have a5 := limbs_len_add (nm y * 2 ^ W / y.den) 1
  have a6 := len_one
  unfold ballSp P.spOf
  simp only [bb, e1, e2, e3, e4]
  omega

/-- what counts tell: is the mean one that is asked? -/
def tOk (q : Rat) : Bool := !ng q && decide (q ≤ 64)
/-- the digits -/
def tP (p : Int) : Nat := (min (max p 0) 200).toNat
def tS (all : Bool) (q : Rat) (p : Int) (k : Nat) : Nat × Nat := if all = true then P.csS (P.spOf (nm q) q.den (tP p + 128)) (tP p + 128) k k else cF (nm q) q.den (tP p + 128) k
def tE (q : Rat) (p : Int) : Nat × Nat := ballSp (bb (expLo (-q) ((tP p + 128 : Nat) : Int)) (expHi (-q) ((tP p + 128 : Nat) : Int))) (tP p + 128)
def tBall (all : Bool) (q : Rat) (p : Int) (k : Nat) : BB := toldB (P.spMul (tS all q p k) (tE q p) (tP p + 128)) (tP p + 128) (tP p + 2)
def tB (all : Bool) (k : Int) (q : Rat) (p : Int) : BB := if tOk q = true then if k < 0 ∨ (q = 0 ∧ 0 < k ∧ all = false) then bb ((0 : Int) : Rat) ((0 : Int) : Rat) else if q = 0 then bb ((1 : Int) : Rat) ((1 : Int) : Rat) else tBall all q p k.toNat else bb ((0 : Int) : Rat) ((0 : Int) : Rat)
def sAt (all : Bool) (b : Nat × Nat) (w k i : Nat) : Nat × Nat := if all = true then P.csS b w k i else P.cs b w k
theorem sAt_sz {all : Bool} {B : Nat × Nat} {W K i : Nat} (h1 : B.1 ≤ B.2) (h2 : B.2 ≤ 65 * 2 ^ W) (hW : W ≤ 328) (hK : K ≤ 100) (hi : i ≤ K) : (spN (sAt all B W K i)).sz ≤ 200 ∧ (limbs (sAt all B W K i).1).length ≤ 200 ∧ (limbs (sAt all B W K i).2).length ≤ 200 := by
  have key : (sAt all B W K i).1 ≤ (sAt all B W K i).2 ∧ (sAt all B W K i).2 < 2 ^ (W + 1 + 8 * K + 8) := by
    have hp := P.pow_pos2 (W + 1 + 8 * K)
    rw [Nat.pow_add _ (W + 1 + 8 * K)]
    unfold sAt
    cases all with
    | true =>
      refine ⟨P.csS_sp h1 i, Nat.lt_of_le_of_lt (P.csS_short h2 (Nat.le_refl K) i hi) ?_⟩
      have : (i + 1) * 2 ^ (W + 1 + 8 * K) ≤ 101 * 2 ^ (W + 1 + 8 * K) := Nat.mul_le_mul_right _ (by omega)
      omega
    | false =>
      have := P.cs_short h2 K
      refine ⟨P.cs_sp h1 K, ?_⟩
      simp only [Bool.false_eq_true, if_false]
      omega
  have h5 := len_bits (Nat.lt_of_le_of_lt key.1 key.2)
  have h6 := len_bits key.2
  exact ⟨spN_sz (by omega) (by omega), by omega, by omega⟩
def fz_disc_told : Nat → List Nat
  | _ => []

def d_disc_told : Den := den4 aInt aRat aInt aBool (fun k m z all => k ≤ 100 ∧ -10 ≤ k ∧ m.sz ≤ 1000 ∧ m.q.den ≤ 2 ^ 200) fun k m z all => ballOkV (tB all k m.q z) (tOk m.q)
set_option maxRecDepth 100000 in
set_option maxHeartbeats 2000000 in
theorem s_disc_told : Sound Try.prog 97 d_disc_told := by
  refine sound4 (fz := nofz) (l := [(64, d_rat_Norm), (84, d_rat_Int), (83, d_rat_Cmp), (14, d_ball_Of), (72, d_rat_Zero), (136, d_disc_counts), (132, d_fix_Add), (65, d_rat_Neg), (39, d_exps_Exp), (138, d_fix_Ball), (124, d_fix_Mul), (137, d_fix_Told)]) TT_ok ⟨s_rat_Norm, s_rat_Int, s_rat_Cmp, s_ball_Of, s_rat_Zero, s_disc_counts, s_fix_Add, s_rat_Neg, s_exps_Exp, s_fix_Ball, s_fix_Mul, s_fix_Told, trivial⟩ mixed Try.func97 Try.ntmps97 Try.results97 Try.call97 rfl (by omega) (fun _ _ _ _ => rfl) ?_
  intro k m z all hp hk hm hz hall
  rw [codeK_start]
  obtain ⟨hk1, hk0, hsz, hden⟩ := hp
  have hr : rs m.q ≤ 1000 := rs_ok hm hsz (by omega)
  have hrp := rs_parts hr
  have hv1 : val (cr m.q).n = nm m.q := val_limbs _
  have hv2 : val (cr m.q).d = m.q.den := val_limbs _
  have hv3 : (cr m.q).s = ng m.q := rfl
  have r0 : rs ((0 : Int) : Rat) ≤ 10 := by decide +kernel
  have r1 : rs ((1 : Int) : Rat) ≤ 10 := by decide +kernel
  have r64 : rs ((64 : Int) : Rat) ≤ 10 := by decide +kernel
  have hkb : ((1024 : Int) < k) = False := eq_false (by omega)
  cases hn : ng m.q with
  | true =>
    have hfold : (⟨true, (cr m.q).n, (cr m.q).d⟩ : RR) = cr m.q := by rw [← hn]; rfl
    have hO : tOk m.q = false := by unfold tOk; rw [hn]; rfl
    have hT : tB all k m.q z = bb ((0 : Int) : Rat) ((0 : Int) : Rat) := by unfold tB; rw [hO, if_neg (by decide)]
    simp only [go_sem, d_rat_Norm, d_rat_Int, d_rat_Cmp, d_ball_Of, d_rat_Zero, d_disc_counts, d_fix_Add, d_rat_Neg, d_exps_Exp, d_fix_Ball, d_fix_Mul, d_fix_Told, hv3, hkb, decide_true, decide_false, Bool.not_true, Bool.not_false, beq_self_eq_true, eq_self, hn, hfold, hO, hT, Nat.reduceBEq, Nat.reduceBNe, Nat.reduceLT, Nat.reduceLeDiff, Nat.reduceAdd, Nat.reduceSub, Nat.reduceMul, Nat.reduceEqDiff, Int.reduceNeg, Int.reduceAdd, Int.reduceLT, Int.reduceLE, Int.reduceToNat, ↓reduceIte]
    ((try and_intros) <;> first | exact trivial | omega | (show okDraw _ _ = true; kernel_rfl) | rfl | assumption)
  | false =>
    have hfold : (⟨false, (cr m.q).n, (cr m.q).d⟩ : RR) = cr m.q := by rw [← hn]; rfl
    by_cases h64 : ((64 : Int) : Rat) < m.q
    · have h64t : (((64 : Int) : Rat) < m.q) = True := eq_true h64
      have hO : tOk m.q = false := by unfold tOk; rw [hn, decide_eq_false (show ¬ m.q ≤ 64 from fun h => absurd (show (64 : Rat) < m.q from h64) (Rat.not_lt.2 h))]; rfl
      have hT : tB all k m.q z = bb ((0 : Int) : Rat) ((0 : Int) : Rat) := by unfold tB; rw [hO, if_neg (by decide)]
      simp only [go_sem, d_rat_Norm, d_rat_Int, d_rat_Cmp, d_ball_Of, d_rat_Zero, d_disc_counts, d_fix_Add, d_rat_Neg, d_exps_Exp, d_fix_Ball, d_fix_Mul, d_fix_Told, hv3, hkb, decide_true, decide_false, Bool.not_true, Bool.not_false, beq_self_eq_true, eq_self, hn, hfold, hO, hT, h64t, Nat.reduceBEq, Nat.reduceBNe, Nat.reduceLT, Nat.reduceLeDiff, Nat.reduceAdd, Nat.reduceSub, Nat.reduceMul, Nat.reduceEqDiff, Int.reduceNeg, Int.reduceAdd, Int.reduceLT, Int.reduceLE, Int.reduceToNat, ↓reduceIte]
      ((try and_intros) <;> first | exact trivial | omega | (show okDraw _ _ = true; kernel_rfl) | rfl | assumption)
    have h64f : (((64 : Int) : Rat) < m.q) = False := eq_false h64
    have hle : m.q ≤ 64 := Rat.not_lt.1 h64
    have hO : tOk m.q = true := by unfold tOk; rw [hn, decide_eq_true hle]; rfl
    by_cases hkn : k < 0
    · have hT : tB all k m.q z = bb ((0 : Int) : Rat) ((0 : Int) : Rat) := by unfold tB; rw [if_pos hO, if_pos (.inl hkn)]
      have hknt : (k < 0) = True := eq_true hkn
      simp only [go_sem, d_rat_Norm, d_rat_Int, d_rat_Cmp, d_ball_Of, d_rat_Zero, d_disc_counts, d_fix_Add, d_rat_Neg, d_exps_Exp, d_fix_Ball, d_fix_Mul, d_fix_Told, hv3, hkb, decide_true, decide_false, Bool.not_true, Bool.not_false, beq_self_eq_true, eq_self, hn, hfold, hO, h64f, hT, hknt, Nat.reduceBEq, Nat.reduceBNe, Nat.reduceLT, Nat.reduceLeDiff, Nat.reduceAdd, Nat.reduceSub, Nat.reduceMul, Nat.reduceEqDiff, Int.reduceNeg, Int.reduceAdd, Int.reduceLT, Int.reduceLE, Int.reduceToNat, ↓reduceIte]
      ((try and_intros) <;> first | exact trivial | omega | (show okDraw _ _ = true; kernel_rfl) | rfl | assumption)
    have hknf : (k < 0) = False := eq_false hkn
    by_cases hq0 : m.q = 0
    · have hq0t : (m.q = 0) = True := eq_true hq0
      by_cases hk2 : 0 < k
      · have hk2t : (0 < k) = True := eq_true hk2
        cases all with
        | false =>
          have hT : tB false k m.q z = bb ((0 : Int) : Rat) ((0 : Int) : Rat) := by unfold tB; rw [if_pos hO, if_pos (.inr ⟨hq0, hk2, rfl⟩)]
          simp only [go_sem, d_rat_Norm, d_rat_Int, d_rat_Cmp, d_ball_Of, d_rat_Zero, d_disc_counts, d_fix_Add, d_rat_Neg, d_exps_Exp, d_fix_Ball, d_fix_Mul, d_fix_Told, hv3, hkb, decide_true, decide_false, Bool.not_true, Bool.not_false, beq_self_eq_true, eq_self, hn, hfold, hO, h64f, hknf, hT, hq0t, hk2t, Nat.reduceBEq, Nat.reduceBNe, Nat.reduceLT, Nat.reduceLeDiff, Nat.reduceAdd, Nat.reduceSub, Nat.reduceMul, Nat.reduceEqDiff, Int.reduceNeg, Int.reduceAdd, Int.reduceLT, Int.reduceLE, Int.reduceToNat, ↓reduceIte]
          ((try and_intros) <;> first | exact trivial | omega | (show okDraw _ _ = true; kernel_rfl) | rfl | assumption)
        | true =>
          have hT : tB true k m.q z = bb ((1 : Int) : Rat) ((1 : Int) : Rat) := by unfold tB; rw [if_pos hO, if_neg (by intro h; rcases h with h | ⟨_, _, h⟩; exact hkn h; cases h), if_pos hq0]
          simp only [go_sem, d_rat_Norm, d_rat_Int, d_rat_Cmp, d_ball_Of, d_rat_Zero, d_disc_counts, d_fix_Add, d_rat_Neg, d_exps_Exp, d_fix_Ball, d_fix_Mul, d_fix_Told, hv3, hkb, decide_true, decide_false, Bool.not_true, Bool.not_false, beq_self_eq_true, eq_self, hn, hfold, hO, h64f, hknf, hT, hq0t, hk2t, Nat.reduceBEq, Nat.reduceBNe, Nat.reduceLT, Nat.reduceLeDiff, Nat.reduceAdd, Nat.reduceSub, Nat.reduceMul, Nat.reduceEqDiff, Int.reduceNeg, Int.reduceAdd, Int.reduceLT, Int.reduceLE, Int.reduceToNat, ↓reduceIte]
          ((try and_intros) <;> first | exact trivial | omega | (show okDraw _ _ = true; kernel_rfl) | rfl | assumption)
      have hk2f : (0 < k) = False := eq_false hk2
      have hT : tB all k m.q z = bb ((1 : Int) : Rat) ((1 : Int) : Rat) := by unfold tB; rw [if_pos hO, if_neg (by intro h; rcases h with h | ⟨_, h, _⟩; exact hkn h; exact hk2 h), if_pos hq0]
      simp only [go_sem, d_rat_Norm, d_rat_Int, d_rat_Cmp, d_ball_Of, d_rat_Zero, d_disc_counts, d_fix_Add, d_rat_Neg, d_exps_Exp, d_fix_Ball, d_fix_Mul, d_fix_Told, hv3, hkb, decide_true, decide_false, Bool.not_true, Bool.not_false, beq_self_eq_true, eq_self, hn, hfold, hO, h64f, hknf, hT, hq0t, hk2f, Nat.reduceBEq, Nat.reduceBNe, Nat.reduceLT, Nat.reduceLeDiff, Nat.reduceAdd, Nat.reduceSub, Nat.reduceMul, Nat.reduceEqDiff, Int.reduceNeg, Int.reduceAdd, Int.reduceLT, Int.reduceLE, Int.reduceToNat, ↓reduceIte]
      ((try and_intros) <;> first | exact trivial | omega | (show okDraw _ _ = true; kernel_rfl) | rfl | assumption)
    have hq0f : (m.q = 0) = False := eq_false hq0
    have hT : tB all k m.q z = tBall all m.q z k.toNat := by unfold tB; rw [if_pos hO, if_neg (by intro h; rcases h with h | ⟨h, _⟩; exact hkn h; exact hq0 h), if_neg hq0]
    obtain ⟨K, rfl⟩ := Int.eq_ofNat_of_zero_le (show 0 ≤ k by omega)
    have hKt : ((K : Nat) : Int).toNat = K := rfl
    have hK : K ≤ 100 := by omega
    have hPP : tP z ≤ 200 := by unfold tP; omega
    have hPm : min (max z 0) 200 = ((tP z : Nat) : Int) := by unfold tP; omega
    have hPw : ((tP z : Nat) : Int) + 128 = ((tP z + 128 : Nat) : Int) := by omega
    have hPe : ((tP z : Nat) : Int) + 2 = ((tP z + 2 : Nat) : Int) := by omega
    generalize hW : tP z + 128 = W at *
    have hW1 : W ≤ 328 := by omega
    have hWt : ((W : Nat) : Int).toNat = W := rfl
    have hm0 : 0 ≤ m.q := Rat.num_nonneg.1 (by
      unfold ng at hn
      have := of_decide_eq_false hn
      omega)
    have hnn : nm m.q ≤ 64 * m.q.den := nm_le (k := 64) (by rw [show ((64 : Nat) : Rat) = 64 from rfl]; grind) hle
    have key := fun j hj => cF_sz (w := W) m.q.den_pos hnn (by omega) (j := j) hj
    have hln := spRow_len (cF (nm m.q) m.q.den W) (K + 1)
    have hgd := spRow_at (cF (nm m.q) m.q.den W) (m := K + 1) (i := K) (by omega)
    have htk := spRow_take (cF (nm m.q) m.q.den W) (k := K) (m := K + 1) (by omega)
    have hlk := spRow_len (cF (nm m.q) m.q.den W) K
    have hKle : ((K : Nat) : Int) < ((K + 1 : Nat) : Int) := by omega
    simp only [go_sem, d_rat_Norm, d_rat_Int, d_rat_Cmp, d_ball_Of, d_rat_Zero, d_disc_counts, d_fix_Add, d_rat_Neg, d_exps_Exp, d_fix_Ball, d_fix_Mul, d_fix_Told, hv3, hkb, decide_true, decide_false, Bool.not_true, Bool.not_false, beq_self_eq_true, eq_self, hn, hfold, hO, h64f, hknf, hv1, hv2, hq0f, hT, hKt, hPm, hPw, hPe, hWt, hgd, htk, hln, hlk, List.length_map, Option.toList_none, Option.toList_some, List.nil_append, Nat.reduceBEq, Nat.reduceBNe, Nat.reduceLT, Nat.reduceLeDiff, Nat.reduceAdd, Nat.reduceSub, Nat.reduceMul, Nat.reduceEqDiff, Int.reduceNeg, Int.reduceAdd, Int.reduceLT, Int.reduceLE, Int.reduceToNat, ↓reduceIte]
    and_intros
    all_goals try (first | omega | exact m.q.den_pos | (show okDraw _ _ = true; kernel_rfl))
    refine cut_bs2 fun C0 hC0 => ?_
    have hB := cF_by (w := W) m.q.den_pos hnn
    have hcs : ∀ i, i ≤ K → (spN (sAt all (P.spOf (nm m.q) m.q.den W) W K i)).sz ≤ 200 ∧ (limbs (sAt all (P.spOf (nm m.q) m.q.den W) W K i).1).length ≤ 200 ∧ (limbs (sAt all (P.spOf (nm m.q) m.q.den W) W K i).2).length ≤ 200 := fun i hi => sAt_sz hB.1 hB.2 hW1 hK hi
    refine codeK_loop (fun i : { i : Nat // i ≤ K } => (73, 0, .av (intV ((i.1 : Nat) : Int))) :: (72, 0, .av (intV ((K : Nat) : Int))) :: (71, 0, .av (rowV celSpan (spRow (cF (nm m.q) m.q.den W) K))) :: (3, 0, .av (boolV all)) :: (10, 0, .av (intV ((W : Nat) : Int))) :: (2, 0, .av (intV ((tP z : Nat) : Int))) :: (boxSp 12 (limbs (sAt all (P.spOf (nm m.q) m.q.den W) W K i.1).1) (limbs (sAt all (P.spOf (nm m.q) m.q.den W) W K i.1).2) ++ (boxRat 5 (cr m.q) ++ boxBall 8))) (fun i => K - i.1) ⟨0, by omega⟩ (le_of ?_) ?_
    · have hz0 : sAt all (P.spOf (nm m.q) m.q.den W) W K 0 = cF (nm m.q) m.q.den W K := by unfold sAt; cases all <;> rfl
      simp only [go_sem, leL, hv3, hn, hz0, Nat.reduceBEq, Nat.reduceBNe, Nat.reduceLT, Nat.reduceLeDiff, Nat.reduceAdd, Nat.reduceSub, Nat.reduceMul, Nat.reduceEqDiff, Int.reduceNeg, Int.reduceAdd, Int.reduceLT, Int.reduceLE, Int.reduceToNat, ↓reduceIte]
      and_intros
      all_goals first | exact .inl rfl | rfl | trivial
    · rintro ⟨i, hi⟩
      obtain ⟨z1, z2, z3⟩ := hcs i hi
      by_cases hiK : i < K
      · have hit : (((i : Nat) : Int) < ((K : Nat) : Int)) = True := eq_true (by omega)
        have hiN : i ≤ K := hi
        have hgd2 := spRow_at (cF (nm m.q) m.q.den W) (m := K) (i := i) hiK
        have hti : ((i : Nat) : Int).toNat = i := rfl
        obtain ⟨y1, y2, y3⟩ := key i (by omega)
        cases all with
        | true =>
          have hst : P.spAdd (sAt true (P.spOf (nm m.q) m.q.den W) W K i) (cF (nm m.q) m.q.den W i) = sAt true (P.spOf (nm m.q) m.q.den W) W K (i + 1) := rfl
          simp only [go_sem, d_rat_Norm, d_rat_Int, d_rat_Cmp, d_ball_Of, d_rat_Zero, d_disc_counts, d_fix_Add, d_rat_Neg, d_exps_Exp, d_fix_Ball, d_fix_Mul, d_fix_Told, hv3, hn, hfold, hit, hgd2, hti, hlk, List.length_map, hst, Nat.reduceBEq, Nat.reduceBNe, Nat.reduceLT, Nat.reduceLeDiff, Nat.reduceAdd, Nat.reduceSub, Nat.reduceMul, Nat.reduceEqDiff, Int.reduceNeg, Int.reduceAdd, Int.reduceLT, Int.reduceLE, Int.reduceToNat, ↓reduceIte]
          and_intros
          all_goals try (first | omega | (show okDraw _ _ = true; kernel_rfl))
          refine ⟨⟨i + 1, by omega⟩, by show K - (i + 1) < K - i; omega, le_of ?_⟩
          simp only [go_sem, leL, hv3, hn, Nat.reduceBEq, Nat.reduceBNe, Nat.reduceLT, Nat.reduceLeDiff, Nat.reduceAdd, Nat.reduceSub, Nat.reduceMul, Nat.reduceEqDiff, Int.reduceNeg, Int.reduceAdd, Int.reduceLT, Int.reduceLE, Int.reduceToNat, ↓reduceIte]
          and_intros
          all_goals first | exact .inl rfl | rfl | trivial
        | false =>
          have hst : sAt false (P.spOf (nm m.q) m.q.den W) W K (i + 1) = sAt false (P.spOf (nm m.q) m.q.den W) W K i := rfl
          simp only [go_sem, d_rat_Norm, d_rat_Int, d_rat_Cmp, d_ball_Of, d_rat_Zero, d_disc_counts, d_fix_Add, d_rat_Neg, d_exps_Exp, d_fix_Ball, d_fix_Mul, d_fix_Told, hv3, hn, hfold, hit, hgd2, hti, hlk, List.length_map, Nat.reduceBEq, Nat.reduceBNe, Nat.reduceLT, Nat.reduceLeDiff, Nat.reduceAdd, Nat.reduceSub, Nat.reduceMul, Nat.reduceEqDiff, Int.reduceNeg, Int.reduceAdd, Int.reduceLT, Int.reduceLE, Int.reduceToNat, ↓reduceIte]
          and_intros
          all_goals try (first | omega | (show okDraw _ _ = true; kernel_rfl))
          refine ⟨⟨i + 1, by omega⟩, by show K - (i + 1) < K - i; omega, le_of ?_⟩
          simp only [go_sem, leL, hv3, hn, hst, Nat.reduceBEq, Nat.reduceBNe, Nat.reduceLT, Nat.reduceLeDiff, Nat.reduceAdd, Nat.reduceSub, Nat.reduceMul, Nat.reduceEqDiff, Int.reduceNeg, Int.reduceAdd, Int.reduceLT, Int.reduceLE, Int.reduceToNat, ↓reduceIte]
          and_intros
          all_goals first | exact .inl rfl | rfl | trivial
      have ei : i = K := by omega
      subst ei
      have hit : (((i : Nat) : Int) < ((i : Nat) : Int)) = False := eq_false (by omega)
      have hden2 : (-m.q).den ≤ 2 ^ 200 := by rw [den_neg]; exact hden
      obtain ⟨x1, x2⟩ := rs_exp (q := -m.q) ((W : Nat) : Int) hden2
      have hrn := rs_neg m.q
      have hE := ballSp_sz x1 x2 hW1
      have hms : (spN (P.spMul (sAt all (P.spOf (nm m.q) m.q.den W) W i i) (ballSp (bb (expLo (-m.q) ((W : Nat) : Int)) (expHi (-m.q) ((W : Nat) : Int))) W) W)).sz ≤ 1000 := mul_sz (L := 200) (M := 100) z2 z3 hE.1 hE.2 (by omega)
      have hres : toldB (P.spMul (sAt all (P.spOf (nm m.q) m.q.den W) W i i) (ballSp (bb (expLo (-m.q) ((W : Nat) : Int)) (expHi (-m.q) ((W : Nat) : Int))) W) W) W (tP z + 2) = tBall all m.q z i := by
        unfold tBall tS tE sAt
        rw [hW]
        rfl
      have hPt : ((tP z + 2 : Nat) : Int).toNat = tP z + 2 := rfl
      subst hC0
      have hbs : (⟨cr (expLo (-m.q) ((W : Nat) : Int)), cr (expHi (-m.q) ((W : Nat) : Int))⟩ : BB).sz ≤ 30 := Nat.max_le.2 ⟨x1, x2⟩
      simp only [go_sem, d_rat_Norm, d_rat_Int, d_rat_Cmp, d_ball_Of, d_rat_Zero, d_disc_counts, d_fix_Add, d_rat_Neg, d_exps_Exp, d_fix_Ball, d_fix_Mul, d_fix_Told, hv3, hn, hfold, hit, hPe, hPt, hWt, Nat.reduceBEq, Nat.reduceBNe, Nat.reduceLT, Nat.reduceLeDiff, Nat.reduceAdd, Nat.reduceSub, Nat.reduceMul, Nat.reduceEqDiff, Int.reduceNeg, Int.reduceAdd, Int.reduceLT, Int.reduceLE, Int.reduceToNat, ↓reduceIte]
      have hEs := spN_sz hE.1 hE.2
      simp only [bb] at hres hEs hms
      rw [hres]
      and_intros
      all_goals first | omega | exact hden2 | (show okDraw _ _ = true; kernel_rfl) | rfl

def d_disc_Pois : Den := den3 aInt aRat aInt (fun k m _ => k ≤ 100 ∧ -10 ≤ k ∧ m.sz ≤ 1000 ∧ m.q.den ≤ 2 ^ 200) fun k m p => ballOkV (tB false k m.q p) (tOk m.q)
set_option maxRecDepth 100000 in
set_option maxHeartbeats 1000000 in
theorem s_disc_Pois : Sound Try.prog 51 d_disc_Pois := by
  refine sound3 (fz := nofz) (l := [(97, d_disc_told)]) TT_ok ⟨s_disc_told, trivial⟩ mixed Try.func51 Try.ntmps51 Try.results51 Try.call51 rfl (by omega) (fun _ _ _ => rfl) ?_
  intro a b c hp ha hb hc
  rw [codeK_start]
  simp only [go_sem, d_disc_told, Nat.reduceBEq, Nat.reduceBNe, Nat.reduceLT, Nat.reduceLeDiff, Nat.reduceAdd, Nat.reduceSub, Nat.reduceMul, Nat.reduceEqDiff, Int.reduceNeg, Int.reduceAdd, Int.reduceLT, Int.reduceLE, Int.reduceToNat, ↓reduceIte]
  and_intros
  all_goals first | exact hp.1 | exact hp.2.1 | exact hp.2.2.1 | exact hp.2.2.2 | rfl


def d_disc_PoisCdf : Den := den3 aInt aRat aInt (fun k m _ => k ≤ 100 ∧ -10 ≤ k ∧ m.sz ≤ 1000 ∧ m.q.den ≤ 2 ^ 200) fun k m p => ballOkV (tB true k m.q p) (tOk m.q)
set_option maxRecDepth 100000 in
set_option maxHeartbeats 1000000 in
theorem s_disc_PoisCdf : Sound Try.prog 50 d_disc_PoisCdf := by
  refine sound3 (fz := nofz) (l := [(97, d_disc_told)]) TT_ok ⟨s_disc_told, trivial⟩ mixed Try.func50 Try.ntmps50 Try.results50 Try.call50 rfl (by omega) (fun _ _ _ => rfl) ?_
  intro a b c hp ha hb hc
  rw [codeK_start]
  simp only [go_sem, d_disc_told, Nat.reduceBEq, Nat.reduceBNe, Nat.reduceLT, Nat.reduceLeDiff, Nat.reduceAdd, Nat.reduceSub, Nat.reduceMul, Nat.reduceEqDiff, Int.reduceNeg, Int.reduceAdd, Int.reduceLT, Int.reduceLE, Int.reduceToNat, ↓reduceIte]
  and_intros
  all_goals first | exact hp.1 | exact hp.2.1 | exact hp.2.2.1 | exact hp.2.2.2 | rfl


/-! what the law asks -/

theorem tB_in (all : Bool) {q : Rat} {p : Int} {k : Nat} (h : tOk q = true) (h0 : q ≠ 0) (hd : q.den ≤ 2 ^ 200) : (tBall all q p k).lo.q ≤ P.fr (tS all q p k).1 (tP p + 128) * P.fr (tE q p).1 (tP p + 128) ∧ P.fr (tS all q p k).1 (tP p + 128) * P.fr (tE q p).1 (tP p + 128) ≤ (tBall all q p k).hi.q := by
  unfold tOk at h
  rw [Bool.and_eq_true, decide_eq_true_eq, Bool.not_eq_true'] at h
  obtain ⟨hn, hle⟩ := h
  have hm0 : 0 ≤ q := Rat.num_nonneg.1 (by
    unfold ng at hn
    have := of_decide_eq_false hn
    omega)
  have hnn : nm q ≤ 64 * q.den := nm_le (k := 64) (by rw [show ((64 : Nat) : Rat) = 64 from rfl]; grind) hle
  have hB := cF_by (w := tP p + 128) q.den_pos hnn
  have hs : (tS all q p k).1 ≤ (tS all q p k).2 := by
    unfold tS
    split
    · exact P.csS_sp hB.1 k
    · exact P.cs_sp hB.1 k
  have hk : expOk (-q) = true := by
    unfold expOk
    rw [decide_eq_true (show (-64 : Rat) ≤ -q by grind), decide_eq_true (show -q ≤ (64 : Rat) by grind)]
    rfl
  obtain ⟨a1, a2, a3, a4⟩ := exp_ends (q := -q) ((tP p + 128 : Nat) : Int) hk (by rw [den_neg]; exact hd)
  have hle2 := a2.ge a1
  have he : (tE q p).1 ≤ (tE q p).2 := by
    unfold tE ballSp P.spOf
    have e1 : ∀ x : Rat, val (cr x).n = nm x := fun x => val_limbs _
    have e2 : ∀ x : Rat, val (cr x).d = x.den := fun x => val_limbs _
    simp only [bb, e1, e2]
    refine Nat.le_succ_of_le (P.quo_mono (Rat.den_pos _) (Rat.den_pos _) ?_)
    generalize expLo (-q) ((tP p + 128 : Nat) : Int) = x at *
    generalize expHi (-q) ((tP p + 128 : Nat) : Int) = y at *
    have e : ∀ x : Rat, 0 ≤ x → ((nm x : Nat) : Rat) = x * ((x.den : Nat) : Rat) := fun x hx => by
      have h1 := sg_nm x
      have h2 : ng x = false := by
        unfold ng
        have := Rat.num_nonneg.2 hx
        exact decide_eq_false (by omega)
      rw [h2] at h1
      simp only [Bool.false_eq_true, if_false] at h1
      rw [h1, rat_num]
    have h1 : ((nm x * y.den : Nat) : Rat) ≤ ((nm y * x.den : Nat) : Rat) := by
      rw [Rat.natCast_mul, Rat.natCast_mul, e x a3, e y a4]
      have hp := Rat.mul_nonneg (P.nat_nn x.den) (P.nat_nn y.den)
      have := Rat.mul_le_mul_of_nonneg_right hle2 hp
      grind
    rwa [Rat.natCast_le_natCast] at h1
  have ht := P.told_in (p := tP p + 2) (w := tP p + 128) (by omega) hs he
  unfold tBall toldB
  simp only [bb, cr_q]
  rw [← fr_qv, ← fr_qv]
  exact ht
theorem csL_next (q : Rat) (p : Int) (k : Nat) : (tS true q p (k + 1)).1 = (tS true q p k).1 + (tS false q p (k + 1)).1 := by
  unfold tS
  simp only [if_true, Bool.false_eq_true, if_false]
  rw [P.csS_lo, P.csS_lo, P.csL]
  unfold cF
  omega
/-- the whole is one fewer's and the last one's -/
theorem pois_meet {q : Rat} {p : Int} {k : Int} (h : tOk q = true) (hk : 0 ≤ k) (hd : q.den ≤ 2 ^ 200) : sideI (tB true k q p) (bb ((tB true (k - 1) q p).lo.q + (tB false k q p).lo.q) ((tB true (k - 1) q p).hi.q + (tB false k q p).hi.q)) = 0 := by
  have hz : ∀ x : Rat, (bb x x).lo.q = x ∧ (bb x x).hi.q = x := fun x => ⟨cr_q x, cr_q x⟩
  have hk0 : ¬ k < 0 := by omega
  have e0 : ((0 : Int) : Rat) = 0 := rfl
  have e1 : ((1 : Int) : Rat) = 1 := rfl
  by_cases h0 : q = 0
  · have d1 : tB true k q p = bb ((1 : Int) : Rat) ((1 : Int) : Rat) := by unfold tB; rw [if_pos h, if_neg (by intro h; rcases h with h | ⟨_, _, h⟩; exact hk0 h; cases h), if_pos h0]
    by_cases hk1 : 0 < k
    · have d2 : tB true (k - 1) q p = bb ((1 : Int) : Rat) ((1 : Int) : Rat) := by unfold tB; rw [if_pos h, if_neg (by intro h; rcases h with h | ⟨_, _, h⟩; omega; cases h), if_pos h0]
      have d3 : tB false k q p = bb ((0 : Int) : Rat) ((0 : Int) : Rat) := by unfold tB; rw [if_pos h, if_pos (.inr ⟨h0, hk1, rfl⟩)]
      rw [d1, d2, d3]
      exact side_zero.2 (by simp only [bb, cr_q, e0, e1]; constructor <;> grind)
    · have d2 : tB true (k - 1) q p = bb ((0 : Int) : Rat) ((0 : Int) : Rat) := by unfold tB; rw [if_pos h, if_pos (.inl (by omega))]
      have d3 : tB false k q p = bb ((1 : Int) : Rat) ((1 : Int) : Rat) := by unfold tB; rw [if_pos h, if_neg (by intro h; rcases h with h | ⟨_, h, _⟩; exact hk0 h; exact hk1 h), if_pos h0]
      rw [d1, d2, d3]
      exact side_zero.2 (by simp only [bb, cr_q, e0, e1]; constructor <;> grind)
  · have main : ∀ all : Bool, ∀ j : Int, 0 ≤ j → tB all j q p = tBall all q p j.toNat := fun all j hj => by
      unfold tB
      rw [if_pos h, if_neg (by intro h; rcases h with h | ⟨h, _⟩; omega; exact h0 h), if_neg h0]
    rw [main true k hk, main false k hk]
    obtain ⟨a1, a2⟩ := tB_in true (p := p) (k := k.toNat) h h0 hd
    obtain ⟨b1, b2⟩ := tB_in false (p := p) (k := k.toNat) h h0 hd
    by_cases hk1 : 0 < k
    · rw [main true (k - 1) (by omega)]
      obtain ⟨c1, c2⟩ := tB_in true (p := p) (k := (k - 1).toNat) h h0 hd
      have hs := csL_next q p (k - 1).toNat
      rw [show (k - 1).toNat + 1 = k.toNat by omega] at hs
      have hf := congrArg (fun n => P.fr n (tP p + 128)) hs
      simp only [P.fr_add] at hf
      refine side_zero.2 ?_
      simp only [bb, cr_q]
      rw [hf] at a1 a2
      have e : (P.fr (tS true q p (k - 1).toNat).1 (tP p + 128) + P.fr (tS false q p k.toNat).1 (tP p + 128)) * P.fr (tE q p).1 (tP p + 128) = P.fr (tS true q p (k - 1).toNat).1 (tP p + 128) * P.fr (tE q p).1 (tP p + 128) + P.fr (tS false q p k.toNat).1 (tP p + 128) * P.fr (tE q p).1 (tP p + 128) := by grind
      rw [e] at a1 a2
      constructor <;> grind
    · have hkz : k = 0 := by omega
      have d2 : tB true (k - 1) q p = bb ((0 : Int) : Rat) ((0 : Int) : Rat) := by unfold tB; rw [if_pos h, if_pos (.inl (by omega))]
      subst hkz
      rw [d2]
      have hs : (tS true q p (0 : Int).toNat).1 = (tS false q p (0 : Int).toNat).1 := rfl
      rw [hs] at a1 a2
      refine side_zero.2 ?_
      simp only [bb, cr_q, e0]
      constructor <;> grind

end Go.Proofs.Ytifnpelkoklcnaa
