/- Package fix: numbers between two whole numbers by a power of two. Conditions: at most 10^10 limbs, at most 2^37 digits. -/
import Derived.Test.YtnjgliojkoeneaaGreatAq
import Derived.Test.YtnjgliojkoeneaaGreatHz
import Derived.Test.YtnjgliojkoeneaaGreatBz
import Derived.Test.YtnjgliojkoeneaaGreatPa
namespace Go.Proofs.YtnjgliojkoeneaaGreat
open Go.RowKit
set_option linter.unusedSimpArgs false
set_option linter.unusedVariables false
/-- two naturals as a struct holds them -/
structure SpL where
  lo : List Nat
  hi : List Nat
def SpL.v (s : SpL) : Nat × Nat := (val s.lo, val s.hi)
def SpL.sz (s : SpL) : Nat := max s.lo.length s.hi.length
def SpL.ok (s : SpL) : Prop := limOk s.lo ∧ limOk s.hi
def spN (p : Nat × Nat) : SpL := ⟨limbs p.1, limbs p.2⟩
theorem spN_v (p : Nat × Nat) : (spN p).v = p := by simp [spN, SpL.v, val_limbs]
def spanCells (s : SpL) : List CV := [.lim none s.lo, .lim none s.hi]
def spanV (s : SpL) : AV := .one (.agg (spanCells s))
def cellsSpan : List CV → Option SpL
  | [x, y] => match x.lims, y.lims with
    | some n, some d => some ⟨n, d⟩
    | _, _ => none
  | _ => none
def paSpan : AV → Option SpL
  | .one (.agg l) => cellsSpan l
  | _ => none
theorem spanV_ok {X : Nat → Nat → Prop} {w : World} {v : Value} {s : SpL} (h : (spanV s).P X w v) : s.ok := by
  obtain ⟨vs, rfl, hl⟩ := h
  obtain ⟨x, y, rfl, hx, hy⟩ := hl.two
  exact ⟨limV_ok (X := X) (w := w) (v := x) hx, limV_ok (X := X) (w := w) (v := y) hy⟩
def aSpan : Arg SpL where
  pa := paSpan
  un := spanV
  va := SpL.ok
  ok := by
    intro v x h X w u hu
    unfold paSpan at h
    split at h
    · rename_i l
      unfold cellsSpan at h
      split at h
      · rename_i x y
        split at h
        · rename_i n d hx hy
          cases h
          obtain ⟨vs, rfl, hl⟩ := hu
          obtain ⟨u1, u2, rfl, g1, g2⟩ := hl.two
          exact ⟨_, rfl, .cons (by simpa only [CV.P] using CV.lims_P hx g1) (.cons (by simpa only [CV.P] using CV.lims_P hy g2) .nil)⟩
        · cases h
      · cases h
    · cases h
  st := fun _ => rfl
  vd := fun x X w u hu => spanV_ok hu
attribute [go_sem] aSpan paSpan cellsSpan spanV spanCells
theorem len_bits {m B : Nat} (h : m < 2 ^ B) : (limbs m).length ≤ B / 32 + 1 := by
  refine limbs_len_le (Nat.lt_of_lt_of_le h ?_)
  rw [show (4294967296 : Nat) = 2 ^ 32 from rfl, ← Nat.pow_mul]
  exact Nat.pow_le_pow_right (by omega) (by omega)
theorem val_bits {xs : List Nat} (h : limOk xs) : val xs < 2 ^ (32 * xs.length) := by
  have := val_lt h
  rwa [show (4294967296 : Nat) = 2 ^ 32 from rfl, ← Nat.pow_mul] at this
theorem len_div {m : Nat} (k : Nat) : (limbs (m / k)).length ≤ (limbs m).length := limbs_len_mono (Nat.div_le_self _ _)
theorem len_up {m k : Nat} {xs : List Nat} (h : limOk xs) (hm : m = val xs) : (limbs (m * 2 ^ k)).length ≤ xs.length + k / 32 + 1 := by
  subst hm
  have h1 := val_bits h
  have h2 : val xs * 2 ^ k < 2 ^ (32 * xs.length + k) := by rw [Nat.pow_add]; exact Nat.mul_lt_mul_of_pos_right h1 (Nat.pow_pos (by omega))
  have := len_bits h2
  omega
theorem shiftN_up {p : Int} (h : 0 ≤ p) (m : Nat) : shiftN m p = m * 2 ^ p.toNat := by unfold shiftN; rw [if_pos h]
theorem shiftN_dn {p : Int} (h : 0 ≤ p) (m : Nat) : shiftN m (0 - p) = m / 2 ^ p.toNat := by
  unfold shiftN
  split
  · rw [show p = 0 by omega]; simp
  · congr 2; omega
theorem shiftN_sub {p w : Int} (h0 : 0 ≤ p) (h : p ≤ w) (m : Nat) : shiftN m (p - w) = m / 2 ^ (w.toNat - p.toNat) := by
  have := shiftN_dn (p := w - p) (by omega) m
  rw [show 0 - (w - p) = p - w by omega, show (w - p).toNat = w.toNat - p.toNat by omega] at this
  exact this
def d_fix_One : Den := den0 (natV 1)
set_option maxRecDepth 100000 in
set_option maxHeartbeats 1000000 in
theorem s_fix_One : Sound Tryz.prog 62 d_fix_One := by
  refine sound0 (fz := nofz) (l := [(58, d_nat_Of)]) TT_ok ⟨s_nat_Of, trivial⟩ mixed Tryz.func62 Tryz.ntmps62 Tryz.results62 Tryz.call62 rfl rfl ?_
  rw [codeK_start]
  simp only [go_sem, d_nat_Of, Nat.reduceBEq, Nat.reduceBNe, Nat.reduceLT, Nat.reduceLeDiff, Nat.reduceAdd, Nat.reduceSub, Nat.reduceMul, Nat.reduceEqDiff, Int.reduceNeg, Int.reduceAdd, Int.reduceLT, Int.reduceLE, Int.reduceToNat, ↓reduceIte]
  and_intros
  all_goals first
    | exact trivial
    | omega
    | (show okDraw _ _ = true; kernel_rfl)
    | rfl
    | kernel_rfl
    | skip
theorem len_one : (limbs 1).length = 1 := by decide +kernel
def d_fix_Next : Den := den1 aLim (fun a => a.length ≤ 400000000000) fun a => natV (val a + 1)
set_option maxRecDepth 100000 in
set_option maxHeartbeats 1000000 in
theorem s_fix_Next : Sound Tryz.prog 69 d_fix_Next := by
  refine sound1 (fz := nofz) (l := [(62, d_fix_One), (63, d_nat_Add)]) TT_ok ⟨s_fix_One, s_nat_Add, trivial⟩ mixed Tryz.func69 Tryz.ntmps69 Tryz.results69 Tryz.call69 rfl (by omega) (fun _ => rfl) ?_
  intro a hp ha
  rw [codeK_start]
  simp only [go_sem, d_fix_One, d_nat_Add, Nat.reduceBEq, Nat.reduceBNe, Nat.reduceLT, Nat.reduceLeDiff, Nat.reduceAdd, Nat.reduceSub, Nat.reduceMul, Nat.reduceEqDiff, Int.reduceNeg, Int.reduceAdd, Int.reduceLT, Int.reduceLE, Int.reduceToNat, ↓reduceIte]
  have := len_one
  and_intros
  all_goals first
    | exact trivial
    | omega
    | (show okDraw _ _ = true; kernel_rfl)
    | rfl
    | kernel_rfl
    | skip
theorem len_shift {m : Nat} {k : Int} {xs : List Nat} (h : limOk xs) (hm : m = val xs) (h1 : k ≤ 200000000000) : (limbs (shiftN m k)).length ≤ xs.length + 6250000001 := by
  by_cases hk : 0 ≤ k
  · rw [shiftN_up hk]
    have := len_up (k := k.toNat) h hm
    omega
  · unfold shiftN
    rw [if_neg hk]
    have h1 := len_div (m := m) (2 ^ (-k).toNat)
    have h2 := limbs_len_val h
    rw [← hm] at h2
    omega
theorem shiftN_more {k : Int} (m : Nat) (h : 0 ≤ k) : shiftN (shiftN m k) 1024 = shiftN m (k + 1024) := by
  rw [shiftN_up h, shiftN_up (by omega), shiftN_up (by omega), Nat.mul_assoc, ← Nat.pow_add]
  congr 2; omega
theorem shiftN_less {k : Int} (m : Nat) (h : k ≤ 0) : shiftN (shiftN m k) (-1024) = shiftN m (k - 1024) := by
  rw [show k = 0 - -k by omega, shiftN_dn (by omega), show (-1024 : Int) = 0 - 1024 by omega, shiftN_dn (by omega), show 0 - -k - 1024 = 0 - (-k + 1024) by omega, shiftN_dn (by omega), Nat.div_div_eq_div_mul, ← Nat.pow_add]
  congr 2; omega
theorem shiftN_zero (m : Nat) : shiftN m 0 = m := by rw [shiftN_up (by omega)]; simp
theorem shiftN_both_up {k n : Int} (m : Nat) (h : 0 ≤ k) (h2 : 0 ≤ n) : shiftN (shiftN m k) n = shiftN m (k + n) := by
  rw [shiftN_up h, shiftN_up h2, shiftN_up (by omega), Nat.mul_assoc, ← Nat.pow_add]
  congr 2; omega
theorem shiftN_both_dn {k n : Int} (m : Nat) (h : k ≤ 0) (h2 : n ≤ 0) : shiftN (shiftN m k) n = shiftN m (k + n) := by
  rw [show k = 0 - -k by omega, shiftN_dn (by omega), show n = 0 - -n by omega, shiftN_dn (by omega), show 0 - -k + (0 - -n) = 0 - (-k + -n) by omega, shiftN_dn (by omega), Nat.div_div_eq_div_mul, ← Nat.pow_add]
  congr 2; omega
/-- the row at hand, and what it is -/
def shRow (a : List Nat) (k : Int) (xs : List Nat) : Prop := limOk xs ∧ val xs = shiftN (val a) k ∧ xs.length ≤ a.length + 6250000001
structure ShU (a : List Nat) (b : Int) where
  j : Nat
  xs : List Nat
  le : 1024 * (j : Int) ≤ max b 0
  is : shRow a (1024 * (j : Int)) xs
structure ShD (a : List Nat) (b : Int) where
  j : Nat
  xs : List Nat
  le : 1024 * (j : Int) ≤ max (-b) 0
  is : shRow a (-(1024 * (j : Int))) xs
theorem shRow_next {a : List Nat} {k : Int} (ha : limOk a) (h : k ≤ 200000000000) : shRow a k (limbs (shiftN (val a) k)) := ⟨limbs_lt _, val_limbs _, len_shift ha rfl h⟩
def d_fix_Shift : Den := den2 aLim aInt (fun a n => a.length ≤ 200000000000 ∧ -200000000000 ≤ n ∧ n ≤ 200000000000) fun a n => natV (shiftN (val a) n)
set_option maxRecDepth 100000 in
set_option maxHeartbeats 1000000 in
theorem s_fix_Shift : Sound Tryz.prog 68 d_fix_Shift := by
  refine sound2 (fz := nofz) (l := [(98, d_nat_Shift)]) TT_ok ⟨s_nat_Shift, trivial⟩ mixed Tryz.func68 Tryz.ntmps68 Tryz.results68 Tryz.call68 rfl (by omega) (fun _ _ => rfl) ?_
  intro a b hp ha hb
  rw [codeK_start]
  simp only [go_sem, d_nat_Shift, Nat.reduceBEq, Nat.reduceBNe, Nat.reduceLT, Nat.reduceLeDiff, Nat.reduceAdd, Nat.reduceSub, Nat.reduceMul, Nat.reduceEqDiff, Int.reduceNeg, Int.reduceAdd, Int.reduceLT, Int.reduceLE, Int.reduceToNat, ↓reduceIte]
  refine codeK_loop (fun x : ShU a b => [(0, 0, .av (limV x.xs)), (1, 0, .av (intV (b - 1024 * (x.j : Int))))]) (fun x => (b - 1024 * (x.j : Int)).toNat) ⟨0, a, by omega, ha, by rw [show (1024 : Int) * ((0 : Nat) : Int) = 0 by omega, shiftN_zero], Nat.le_add_right _ _⟩ (le_of ?_) ?_
  · simp only [go_sem, leL, Nat.reduceBEq, Nat.reduceBNe, Nat.reduceLT, Nat.reduceLeDiff, Nat.reduceAdd, Nat.reduceSub, Nat.reduceMul, Nat.reduceEqDiff, Int.reduceNeg, Int.reduceAdd, Int.reduceLT, Int.reduceLE, Int.reduceToNat, ↓reduceIte]
    rw [show b - 1024 * ((0 : Nat) : Int) = b by omega]
    and_intros
    all_goals exact .inl rfl
  · rintro ⟨j, xs, hj, hx1, hx2, hx3⟩
    simp only [go_sem, d_nat_Shift, hx2, Nat.reduceBEq, Nat.reduceBNe, Nat.reduceLT, Nat.reduceLeDiff, Nat.reduceAdd, Nat.reduceSub, Nat.reduceMul, Nat.reduceEqDiff, Int.reduceNeg, Int.reduceAdd, Int.reduceLT, Int.reduceLE, Int.reduceToNat, ↓reduceIte]
    split
    · rename_i hgt
      have hb1 : 1024 * ((j + 1 : Nat) : Int) ≤ max b 0 := by omega
      have hn1 : shRow a (1024 * ((j + 1 : Nat) : Int)) (limbs (shiftN (val a) (1024 * ((j + 1 : Nat) : Int)))) := shRow_next ha (by omega)
      refine ⟨by omega, by omega, ⟨j + 1, limbs (shiftN (val a) (1024 * ((j + 1 : Nat) : Int))), hb1, hn1⟩, ?_, le_of ?_⟩
      · show (b - 1024 * ((j + 1 : Nat) : Int)).toNat < (b - 1024 * (j : Int)).toNat
        omega
      rw [shiftN_more _ (by omega), show (1024 : Int) * (j : Int) + 1024 = 1024 * ((j + 1 : Nat) : Int) by omega, show b - 1024 * (j : Int) - 1024 = b - 1024 * ((j + 1 : Nat) : Int) by omega]
      simp only [go_sem, leL, Nat.reduceBEq, Nat.reduceBNe, Nat.reduceLT, Nat.reduceLeDiff, Nat.reduceAdd, Nat.reduceSub, Nat.reduceMul, Nat.reduceEqDiff, Int.reduceNeg, Int.reduceAdd, Int.reduceLT, Int.reduceLE, Int.reduceToNat, ↓reduceIte]
      and_intros
      all_goals exact .inl rfl
    · rename_i hle
      by_cases hb : 0 ≤ b
      · refine codeK_loop (fun _ : Unit => [(0, 0, .av (limV xs)), (1, 0, .av (intV (b - 1024 * (j : Int))))]) (fun _ => 0) () (le_of ?_) ?_
        · simp only [go_sem, leL, Nat.reduceBEq, Nat.reduceBNe, Nat.reduceLT, Nat.reduceLeDiff, Nat.reduceAdd, Nat.reduceSub, Nat.reduceMul, Nat.reduceEqDiff, Int.reduceNeg, Int.reduceAdd, Int.reduceLT, Int.reduceLE, Int.reduceToNat, ↓reduceIte]
          and_intros
          all_goals exact .inl rfl
        · intro _
          simp only [go_sem, d_nat_Shift, hx2, Nat.reduceBEq, Nat.reduceBNe, Nat.reduceLT, Nat.reduceLeDiff, Nat.reduceAdd, Nat.reduceSub, Nat.reduceMul, Nat.reduceEqDiff, Int.reduceNeg, Int.reduceAdd, Int.reduceLT, Int.reduceLE, Int.reduceToNat, ↓reduceIte]
          rw [if_neg (by omega)]
          refine ⟨⟨by omega, by omega, by omega⟩, ?_⟩
          rw [shiftN_both_up _ (by omega) (by omega), show (1024 : Int) * (j : Int) + (b - 1024 * (j : Int)) = b by omega]
      · have hj0 : j = 0 := by omega
        subst hj0
        rw [show (1024 : Int) * ((0 : Nat) : Int) = 0 by omega, shiftN_zero] at hx2
        refine codeK_loop (fun x : ShD a b => [(0, 0, .av (limV x.xs)), (1, 0, .av (intV (b + 1024 * (x.j : Int))))]) (fun x => (-b - 1024 * (x.j : Int)).toNat) ⟨0, xs, by omega, hx1, by rw [hx2, show -((1024 : Int) * ((0 : Nat) : Int)) = 0 by omega, shiftN_zero], hx3⟩ (le_of ?_) ?_
        · simp only [go_sem, leL, Nat.reduceBEq, Nat.reduceBNe, Nat.reduceLT, Nat.reduceLeDiff, Nat.reduceAdd, Nat.reduceSub, Nat.reduceMul, Nat.reduceEqDiff, Int.reduceNeg, Int.reduceAdd, Int.reduceLT, Int.reduceLE, Int.reduceToNat, ↓reduceIte]
          rw [show b - 1024 * ((0 : Nat) : Int) = b by omega, show b + 1024 * ((0 : Nat) : Int) = b by omega]
          and_intros
          all_goals exact .inl rfl
        · rintro ⟨j, ys, hj, hy1, hy2, hy3⟩
          simp only [go_sem, d_nat_Shift, hy2, Nat.reduceBEq, Nat.reduceBNe, Nat.reduceLT, Nat.reduceLeDiff, Nat.reduceAdd, Nat.reduceSub, Nat.reduceMul, Nat.reduceEqDiff, Int.reduceNeg, Int.reduceAdd, Int.reduceLT, Int.reduceLE, Int.reduceToNat, ↓reduceIte]
          split
          · rename_i hgt
            have hb1 : 1024 * ((j + 1 : Nat) : Int) ≤ max (-b) 0 := by omega
            have hn1 : shRow a (-(1024 * ((j + 1 : Nat) : Int))) (limbs (shiftN (val a) (-(1024 * ((j + 1 : Nat) : Int))))) := shRow_next ha (by omega)
            refine ⟨by omega, by omega, ⟨j + 1, limbs (shiftN (val a) (-(1024 * ((j + 1 : Nat) : Int)))), hb1, hn1⟩, ?_, le_of ?_⟩
            · show (-b - 1024 * ((j + 1 : Nat) : Int)).toNat < (-b - 1024 * (j : Int)).toNat
              omega
            rw [shiftN_less _ (by omega), show -((1024 : Int) * (j : Int)) - 1024 = -(1024 * ((j + 1 : Nat) : Int)) by omega, show b + 1024 * (j : Int) + 1024 = b + 1024 * ((j + 1 : Nat) : Int) by omega]
            simp only [go_sem, leL, Nat.reduceBEq, Nat.reduceBNe, Nat.reduceLT, Nat.reduceLeDiff, Nat.reduceAdd, Nat.reduceSub, Nat.reduceMul, Nat.reduceEqDiff, Int.reduceNeg, Int.reduceAdd, Int.reduceLT, Int.reduceLE, Int.reduceToNat, ↓reduceIte]
            and_intros
            all_goals exact .inl rfl
          · refine ⟨⟨by omega, by omega, by omega⟩, ?_⟩
            rw [shiftN_both_dn _ (by omega) (by omega), show -((1024 : Int) * (j : Int)) + (b + 1024 * (j : Int)) = b by omega]
theorem pow_bits (k : Nat) : (limbs (2 ^ k)).length ≤ k / 32 + 1 := by
  have h : 2 ^ k < 2 ^ (k + 1) := by rw [Nat.pow_succ]; have := Nat.pow_pos (n := k) (show 0 < 2 by omega); omega
  refine limbs_len_le (Nat.lt_of_lt_of_le h ?_)
  rw [show (4294967296 : Nat) = 2 ^ 32 from rfl, ← Nat.pow_mul]
  exact Nat.pow_le_pow_right (by omega) (by omega)
theorem len_times {a b : Nat} {xs ys : List Nat} (ha : limOk xs) (hb : limOk ys) (e1 : a = val xs) (e2 : b = val ys) : (limbs (a * b)).length ≤ xs.length + ys.length := by
  subst e1 e2
  have h1 := limbs_len_val ha
  have h2 := limbs_len_val hb
  have := limbs_len_mul (val xs) (val ys)
  omega
def d_fix_Unit : Den := den1 aInt (fun w => 0 ≤ w ∧ w ≤ 200000000000) fun w => spanV (spN (P.spOne w.toNat))
set_option maxRecDepth 100000 in
set_option maxHeartbeats 1000000 in
theorem s_fix_Unit : Sound Tryz.prog 60 d_fix_Unit := by
  refine sound1 (fz := nofz) (l := [(62, d_fix_One), (68, d_fix_Shift), (69, d_fix_Next)]) TT_ok ⟨s_fix_One, s_fix_Shift, s_fix_Next, trivial⟩ mixed Tryz.func60 Tryz.ntmps60 Tryz.results60 Tryz.call60 rfl (by omega) (fun _ => rfl) ?_
  intro a hp ha
  rw [codeK_start]
  simp only [go_sem, d_fix_One, d_fix_Shift, d_fix_Next, Nat.reduceBEq, Nat.reduceBNe, Nat.reduceLT, Nat.reduceLeDiff, Nat.reduceAdd, Nat.reduceSub, Nat.reduceMul, Nat.reduceEqDiff, Int.reduceNeg, Int.reduceAdd, Int.reduceLT, Int.reduceLE, Int.reduceToNat, ↓reduceIte]
  have h1 := len_one
  have h2 := pow_bits a.toNat
  rw [shiftN_up hp.1, Nat.one_mul]
  and_intros
  all_goals first
    | exact trivial
    | omega
    | (show okDraw _ _ = true; kernel_rfl)
    | rfl
    | kernel_rfl
    | skip
def d_fix_Of : Den := den3 aLim aLim aInt (fun a b w => a.length ≤ 90000000000 ∧ b.length ≤ 90000000000 ∧ 0 ≤ w ∧ w ≤ 200000000000) fun a b w => spanV (spN (P.spOf (val a) (val b) w.toNat))
set_option maxRecDepth 100000 in
set_option maxHeartbeats 1000000 in
theorem s_fix_Of : Sound Tryz.prog 94 d_fix_Of := by
  refine sound3 (fz := nofz) (l := [(68, d_fix_Shift), (88, d_fix_Over), (69, d_fix_Next)]) TT_ok ⟨s_fix_Shift, s_fix_Over, s_fix_Next, trivial⟩ mixed Tryz.func94 Tryz.ntmps94 Tryz.results94 Tryz.call94 rfl (by omega) (fun _ _ _ => rfl) ?_
  intro a b c hp ha hb hc
  rw [codeK_start]
  simp only [go_sem, d_fix_Shift, d_fix_Over, d_fix_Next, Nat.reduceBEq, Nat.reduceBNe, Nat.reduceLT, Nat.reduceLeDiff, Nat.reduceAdd, Nat.reduceSub, Nat.reduceMul, Nat.reduceEqDiff, Int.reduceNeg, Int.reduceAdd, Int.reduceLT, Int.reduceLE, Int.reduceToNat, ↓reduceIte]
  have h2 := len_up (k := c.toNat) ha rfl
  have h3 := len_div (m := val a * 2 ^ c.toNat) (val b)
  rw [shiftN_up hp.2.2.1]
  and_intros
  all_goals first
    | exact trivial
    | omega
    | (show okDraw _ _ = true; kernel_rfl)
    | rfl
    | kernel_rfl
    | skip
def d_fix_Add : Den := den2 aSpan aSpan (fun a b => a.sz ≤ 90000000000 ∧ b.sz ≤ 90000000000 ∧ True) fun a b => spanV (spN (P.spAdd a.v b.v))
set_option maxRecDepth 100000 in
set_option maxHeartbeats 1000000 in
theorem s_fix_Add : Sound Tryz.prog 33 d_fix_Add := by
  refine sound2 (fz := nofz) (l := [(63, d_nat_Add)]) TT_ok ⟨s_nat_Add, trivial⟩ mixed Tryz.func33 Tryz.ntmps33 Tryz.results33 Tryz.call33 rfl (by omega) (fun _ _ => rfl) ?_
  intro a b hp ha hb
  rw [codeK_start]
  simp only [go_sem, d_nat_Add, Nat.reduceBEq, Nat.reduceBNe, Nat.reduceLT, Nat.reduceLeDiff, Nat.reduceAdd, Nat.reduceSub, Nat.reduceMul, Nat.reduceEqDiff, Int.reduceNeg, Int.reduceAdd, Int.reduceLT, Int.reduceLE, Int.reduceToNat, ↓reduceIte]
  have hs1 : a.lo.length ≤ 90000000000 := by have := hp.1; unfold SpL.sz at this; omega
  have hs2 : a.hi.length ≤ 90000000000 := by have := hp.1; unfold SpL.sz at this; omega
  have hv1 := limbs_len_val ha.1
  have hv2 := limbs_len_val ha.2
  have hs3 : b.lo.length ≤ 90000000000 := by have := hp.2.1; unfold SpL.sz at this; omega
  have hs4 : b.hi.length ≤ 90000000000 := by have := hp.2.1; unfold SpL.sz at this; omega
  have hv3 := limbs_len_val hb.1
  have hv4 := limbs_len_val hb.2
  and_intros
  all_goals first
    | exact trivial
    | omega
    | (show okDraw _ _ = true; kernel_rfl)
    | rfl
    | kernel_rfl
    | skip
def d_fix_Mul : Den := den3 aSpan aSpan aInt (fun a b w => a.sz ≤ 90000000000 ∧ b.sz ≤ 90000000000 ∧ 0 ≤ w ∧ w ≤ 200000000000) fun a b w => spanV (spN (P.spMul a.v b.v w.toNat))
set_option maxRecDepth 100000 in
set_option maxHeartbeats 1000000 in
theorem s_fix_Mul : Sound Tryz.prog 37 d_fix_Mul := by
  refine sound3 (fz := nofz) (l := [(70, d_nat_Mul), (68, d_fix_Shift), (69, d_fix_Next)]) TT_ok ⟨s_nat_Mul, s_fix_Shift, s_fix_Next, trivial⟩ mixed Tryz.func37 Tryz.ntmps37 Tryz.results37 Tryz.call37 rfl (by omega) (fun _ _ _ => rfl) ?_
  intro a b c hp ha hb hc
  rw [codeK_start]
  simp only [go_sem, d_nat_Mul, d_fix_Shift, d_fix_Next, Nat.reduceBEq, Nat.reduceBNe, Nat.reduceLT, Nat.reduceLeDiff, Nat.reduceAdd, Nat.reduceSub, Nat.reduceMul, Nat.reduceEqDiff, Int.reduceNeg, Int.reduceAdd, Int.reduceLT, Int.reduceLE, Int.reduceToNat, ↓reduceIte]
  have hs1 : a.lo.length ≤ 90000000000 := by have := hp.1; unfold SpL.sz at this; omega
  have hs2 : a.hi.length ≤ 90000000000 := by have := hp.1; unfold SpL.sz at this; omega
  have hv1 := limbs_len_val ha.1
  have hv2 := limbs_len_val ha.2
  have hs3 : b.lo.length ≤ 90000000000 := by have := hp.2.1; unfold SpL.sz at this; omega
  have hs4 : b.hi.length ≤ 90000000000 := by have := hp.2.1; unfold SpL.sz at this; omega
  have hv3 := limbs_len_val hb.1
  have hv4 := limbs_len_val hb.2
  have h5 := len_times ha.1 hb.1 rfl rfl
  have h6 := len_times ha.2 hb.2 rfl rfl
  have h7 := len_div (m := val a.hi * val b.hi) (2 ^ c.toNat)
  rw [shiftN_dn hp.2.2.1, shiftN_dn hp.2.2.1]
  and_intros
  all_goals first
    | exact trivial
    | omega
    | (show okDraw _ _ = true; kernel_rfl)
    | rfl
    | kernel_rfl
    | skip
def d_fix_Times : Den := den3 aSpan aLim aLim (fun a b c => a.sz ≤ 90000000000 ∧ b.length ≤ 90000000000 ∧ c.length ≤ 90000000000) fun a b c => spanV (spN (P.spTimes a.v (val b) (val c)))
set_option maxRecDepth 100000 in
set_option maxHeartbeats 1000000 in
theorem s_fix_Times : Sound Tryz.prog 61 d_fix_Times := by
  refine sound3 (fz := nofz) (l := [(70, d_nat_Mul), (88, d_fix_Over), (69, d_fix_Next)]) TT_ok ⟨s_nat_Mul, s_fix_Over, s_fix_Next, trivial⟩ mixed Tryz.func61 Tryz.ntmps61 Tryz.results61 Tryz.call61 rfl (by omega) (fun _ _ _ => rfl) ?_
  intro a b c hp ha hb hc
  rw [codeK_start]
  simp only [go_sem, d_nat_Mul, d_fix_Over, d_fix_Next, Nat.reduceBEq, Nat.reduceBNe, Nat.reduceLT, Nat.reduceLeDiff, Nat.reduceAdd, Nat.reduceSub, Nat.reduceMul, Nat.reduceEqDiff, Int.reduceNeg, Int.reduceAdd, Int.reduceLT, Int.reduceLE, Int.reduceToNat, ↓reduceIte]
  have hs1 : a.lo.length ≤ 90000000000 := by have := hp.1; unfold SpL.sz at this; omega
  have hs2 : a.hi.length ≤ 90000000000 := by have := hp.1; unfold SpL.sz at this; omega
  have hv1 := limbs_len_val ha.1
  have hv2 := limbs_len_val ha.2
  have h5 := len_times ha.1 hb rfl rfl
  have h6 := len_times ha.2 hb rfl rfl
  have h7 := len_div (m := val a.hi * val b) (val c)
  and_intros
  all_goals first
    | exact trivial
    | omega
    | (show okDraw _ _ = true; kernel_rfl)
    | rfl
    | kernel_rfl
    | skip
def d_fix_Inverse : Den := den2 aSpan aInt (fun a w => a.sz ≤ 90000000000 ∧ 0 ≤ w ∧ w ≤ 100000000000) fun a w => spanV (spN (P.spInv a.v w.toNat))
set_option maxRecDepth 100000 in
set_option maxHeartbeats 1000000 in
theorem s_fix_Inverse : Sound Tryz.prog 97 d_fix_Inverse := by
  refine sound2 (fz := nofz) (l := [(62, d_fix_One), (68, d_fix_Shift), (88, d_fix_Over), (69, d_fix_Next)]) TT_ok ⟨s_fix_One, s_fix_Shift, s_fix_Over, s_fix_Next, trivial⟩ mixed Tryz.func97 Tryz.ntmps97 Tryz.results97 Tryz.call97 rfl (by omega) (fun _ _ => rfl) ?_
  intro a b hp ha hb
  rw [codeK_start]
  simp only [go_sem, d_fix_One, d_fix_Shift, d_fix_Over, d_fix_Next, Nat.reduceBEq, Nat.reduceBNe, Nat.reduceLT, Nat.reduceLeDiff, Nat.reduceAdd, Nat.reduceSub, Nat.reduceMul, Nat.reduceEqDiff, Int.reduceNeg, Int.reduceAdd, Int.reduceLT, Int.reduceLE, Int.reduceToNat, ↓reduceIte]
  have hs1 : a.lo.length ≤ 90000000000 := by have := hp.1; unfold SpL.sz at this; omega
  have hs2 : a.hi.length ≤ 90000000000 := by have := hp.1; unfold SpL.sz at this; omega
  have hv1 := limbs_len_val ha.1
  have hv2 := limbs_len_val ha.2
  have h1 := len_one
  have h2 := pow_bits (2 * b.toNat)
  have h3 := len_div (m := 2 ^ (2 * b.toNat)) (val a.lo)
  rw [shiftN_up (by omega), Nat.one_mul, show (2 * b).toNat = 2 * b.toNat by omega]
  and_intros
  all_goals first
    | exact trivial
    | omega
    | (show okDraw _ _ = true; kernel_rfl)
    | rfl
    | kernel_rfl
    | skip
def d_fix_Small : Den := den2 aSpan aInt (fun a n => a.sz ≤ 90000000000 ∧ True) fun a n => boolV (decide (((blen (val a.hi) : Nat) : Int) ≤ n))
set_option maxRecDepth 100000 in
set_option maxHeartbeats 1000000 in
theorem s_fix_Small : Sound Tryz.prog 115 d_fix_Small := by
  refine sound2 (fz := nofz) (l := [(123, d_nat_Bits)]) TT_ok ⟨s_nat_Bits, trivial⟩ mixed Tryz.func115 Tryz.ntmps115 Tryz.results115 Tryz.call115 rfl (by omega) (fun _ _ => rfl) ?_
  intro a b hp ha hb
  rw [codeK_start]
  simp only [go_sem, d_nat_Bits, Nat.reduceBEq, Nat.reduceBNe, Nat.reduceLT, Nat.reduceLeDiff, Nat.reduceAdd, Nat.reduceSub, Nat.reduceMul, Nat.reduceEqDiff, Int.reduceNeg, Int.reduceAdd, Int.reduceLT, Int.reduceLE, Int.reduceToNat, ↓reduceIte]
  have hs1 : a.lo.length ≤ 90000000000 := by have := hp.1; unfold SpL.sz at this; omega
  have hs2 : a.hi.length ≤ 90000000000 := by have := hp.1; unfold SpL.sz at this; omega
  have hv1 := limbs_len_val ha.1
  have hv2 := limbs_len_val ha.2
  and_intros
  all_goals first
    | exact trivial
    | omega
    | (show okDraw _ _ = true; kernel_rfl)
    | rfl
    | kernel_rfl
    | skip
def d_fix_Wider : Den := den2 aSpan aU64 (fun a n => a.sz ≤ 90000000000 ∧ 0 ≤ n ∧ n < 18446744073709551616) fun a n => spanV ⟨a.lo, limbs (val a.hi + n.toNat)⟩
set_option maxRecDepth 100000 in
set_option maxHeartbeats 1000000 in
theorem s_fix_Wider : Sound Tryz.prog 116 d_fix_Wider := by
  refine sound2 (fz := nofz) (l := [(58, d_nat_Of), (63, d_nat_Add)]) TT_ok ⟨s_nat_Of, s_nat_Add, trivial⟩ mixed Tryz.func116 Tryz.ntmps116 Tryz.results116 Tryz.call116 rfl (by omega) (fun _ _ => rfl) ?_
  intro a b hp ha hb
  rw [codeK_start]
  simp only [go_sem, d_nat_Of, d_nat_Add, Nat.reduceBEq, Nat.reduceBNe, Nat.reduceLT, Nat.reduceLeDiff, Nat.reduceAdd, Nat.reduceSub, Nat.reduceMul, Nat.reduceEqDiff, Int.reduceNeg, Int.reduceAdd, Int.reduceLT, Int.reduceLE, Int.reduceToNat, ↓reduceIte]
  have hs1 : a.lo.length ≤ 90000000000 := by have := hp.1; unfold SpL.sz at this; omega
  have hs2 : a.hi.length ≤ 90000000000 := by have := hp.1; unfold SpL.sz at this; omega
  have hv1 := limbs_len_val ha.1
  have hv2 := limbs_len_val ha.2
  have h5 : (limbs b.toNat).length ≤ 2 := limbs_len_le (by have := hp.2.2; rw [show (4294967296 : Nat) ^ 2 = 18446744073709551616 by decide]; omega)
  and_intros
  all_goals first
    | exact trivial
    | omega
    | (show okDraw _ _ = true; kernel_rfl)
    | rfl
    | kernel_rfl
    | skip
def floorV (p : Nat × Nat) (w k : Nat) : AV := .tup [.cel (.lim none (limbs (p.1 / 2 ^ (w - k)))), .cel (.bool (decide (P.okF p w k)))]
def d_fix_Floor : Den := den3 aSpan aInt aInt (fun a w k => a.sz ≤ 90000000000 ∧ 0 ≤ k ∧ k ≤ w ∧ w ≤ 200000000000) fun a w k => floorV a.v w.toNat k.toNat
set_option maxRecDepth 100000 in
set_option maxHeartbeats 1000000 in
theorem s_fix_Floor : Sound Tryz.prog 95 d_fix_Floor := by
  refine sound3 (fz := nofz) (l := [(68, d_fix_Shift), (62, d_fix_One), (87, d_fix_Less), (111, d_nat_Cmp)]) TT_ok ⟨s_fix_Shift, s_fix_One, s_fix_Less, s_nat_Cmp, trivial⟩ mixed Tryz.func95 Tryz.ntmps95 Tryz.results95 Tryz.call95 rfl (by omega) (fun _ _ _ => rfl) ?_
  intro a b c hp ha hb hc
  rw [codeK_start]
  simp only [go_sem, d_fix_Shift, d_fix_One, d_fix_Less, d_nat_Cmp, Nat.reduceBEq, Nat.reduceBNe, Nat.reduceLT, Nat.reduceLeDiff, Nat.reduceAdd, Nat.reduceSub, Nat.reduceMul, Nat.reduceEqDiff, Int.reduceNeg, Int.reduceAdd, Int.reduceLT, Int.reduceLE, Int.reduceToNat, ↓reduceIte]
  have hs1 : a.lo.length ≤ 90000000000 := by have := hp.1; unfold SpL.sz at this; omega
  have hs2 : a.hi.length ≤ 90000000000 := by have := hp.1; unfold SpL.sz at this; omega
  have hv1 := limbs_len_val ha.1
  have hv2 := limbs_len_val ha.2
  have h1 := len_one
  have h5 := limbs_len_mono (Nat.sub_le (val a.hi) 1)
  have h6 := len_div (m := val a.lo) (2 ^ (b.toNat - c.toNat))
  have h7 := len_div (m := val a.hi - 1) (2 ^ (b.toNat - c.toNat))
  rw [shiftN_sub hp.2.1 hp.2.2.1, shiftN_sub hp.2.1 hp.2.2.1]
  and_intros
  all_goals first
    | exact trivial
    | omega
    | (show okDraw _ _ = true; kernel_rfl)
    | rfl
    | kernel_rfl
    | skip
end Go.Proofs.YtnjgliojkoeneaaGreat
