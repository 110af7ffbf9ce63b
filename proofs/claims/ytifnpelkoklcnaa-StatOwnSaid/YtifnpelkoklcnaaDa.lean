/- Ranks and pairs: what they are, and the laws of them, without any program. No condition. -/
import Derived.Test.YtifnpelkoklcnaaCb
namespace Go.Proofs.Ytifnpelkoklcnaa
open Go.RowKit

/-! rows made of numbers -/

def mkL (f : Nat → Rat) (n : Nat) : List RR := (List.range n).map fun i => cr (f i)
theorem mkL_len (f : Nat → Rat) (n : Nat) : (mkL f n).length = n := by unfold mkL; simp
theorem mkL_next (f : Nat → Rat) (n : Nat) : mkL f (n + 1) = mkL f n ++ [cr (f n)] := by unfold mkL; rw [List.range_succ, List.map_append]; rfl
theorem mkL_at (f : Nat → Rat) {n i : Nat} (h : i < n) : atQ (mkL f n) i = f i := by
  unfold atQ mkL
  rw [List.getD_eq_getElem?_getD, List.getElem?_map, List.getElem?_range h]
  exact cr_q _
theorem mkL_get (f : Nat → Rat) {n i : Nat} (h : i < n) : (mkL f n).getD i rr0 = cr (f i) := by
  unfold mkL
  rw [List.getD_eq_getElem?_getD, List.getElem?_map, List.getElem?_range h]
  rfl
theorem mkL_sz {f : Nat → Rat} {n K : Nat} (h : ∀ i, i < n → rs (f i) ≤ K) : ∀ r ∈ mkL f n, r.sz ≤ K := by
  intro r hr
  unfold mkL at hr
  obtain ⟨i, hi, rfl⟩ := List.mem_map.1 hr
  rw [cr_sz]; exact h i (List.mem_range.1 hi)
theorem mkL_ok (f : Nat → Rat) (n : Nat) : ∀ r ∈ mkL f n, r.ok := by
  intro r hr
  unfold mkL at hr
  obtain ⟨i, _, rfl⟩ := List.mem_map.1 hr
  exact cr_ok _
theorem mkL_cells (f : Nat → Rat) (n : Nat) : (mkL f n).map ratCells ++ [ratCells (cr (f n))] = (mkL f (n + 1)).map ratCells := by rw [mkL_next, List.map_append]; rfl
theorem mkL_zero (f : Nat → Rat) : mkL f 0 = [] := rfl
theorem mkL_congr {f g : Nat → Rat} {n : Nat} (h : ∀ i, i < n → f i = g i) : mkL f n = mkL g n := by
  unfold mkL
  exact List.map_congr_left fun i hi => by rw [h i (List.mem_range.1 hi)]

/-! sums of whole numbers -/

theorem cntTo_zero (f : Nat → Int) : cntTo f 0 = 0 := rfl
theorem cntTo_next (f : Nat → Int) (n : Nat) : cntTo f (n + 1) = cntTo f n + f n := rfl
theorem cntTo_add (f g : Nat → Int) : ∀ n, cntTo (fun i => f i + g i) n = cntTo f n + cntTo g n
  | 0 => rfl
  | n + 1 => by show cntTo (fun i => f i + g i) n + (f n + g n) = _; rw [cntTo_add f g n]; show _ = (cntTo f n + f n) + (cntTo g n + g n); omega
theorem cntTo_const (c : Int) : ∀ n : Nat, cntTo (fun _ => c) n = (n : Int) * c
  | 0 => by show (0 : Int) = ((0 : Nat) : Int) * c; rw [Int.natCast_zero, Int.zero_mul]
  | n + 1 => by show cntTo (fun _ => c) n + c = _; rw [cntTo_const c n, Int.natCast_add, Int.add_mul]; simp
theorem cntTo_neg (f : Nat → Int) : ∀ n, cntTo (fun i => - f i) n = - cntTo f n
  | 0 => rfl
  | n + 1 => by show cntTo (fun i => - f i) n + - f n = - (cntTo f n + f n); rw [cntTo_neg f n]; omega
theorem cntTo_nonneg {f : Nat → Int} : ∀ {n : Nat}, (∀ i, i < n → 0 ≤ f i) → 0 ≤ cntTo f n
  | 0, _ => Int.le_refl _
  | n + 1, h => by
    have h1 := cntTo_nonneg (n := n) fun i hi => h i (by omega)
    have h2 := h n (by omega)
    show 0 ≤ cntTo f n + f n
    omega
theorem cntTo_le {f g : Nat → Int} : ∀ {n : Nat}, (∀ i, i < n → f i ≤ g i) → cntTo f n ≤ cntTo g n
  | 0, _ => Int.le_refl _
  | n + 1, h => by
    have h1 := cntTo_le (n := n) fun i hi => h i (by omega)
    have h2 := h n (by omega)
    show cntTo f n + f n ≤ cntTo g n + g n
    omega
theorem cntTo_swap (g : Nat → Nat → Int) (m : Nat) : ∀ n, cntTo (fun i => cntTo (g i) m) n = cntTo (fun k => cntTo (fun i => g i k) n) m
  | 0 => by
    show (0 : Int) = cntTo (fun _ => 0) m
    rw [cntTo_const, Int.mul_zero]
  | n + 1 => by
    show cntTo (fun i => cntTo (g i) m) n + cntTo (g n) m = cntTo (fun k => cntTo (fun i => g i k) n + g n k) m
    rw [cntTo_swap g m n, cntTo_add]
theorem sum_cnt (g : Nat → Int) : ∀ n, sumTo (fun i => ((g i : Int) : Rat)) n = ((cntTo g n : Int) : Rat)
  | 0 => rfl
  | n + 1 => by show sumTo (fun i => ((g i : Int) : Rat)) n + (g n : Rat) = ((cntTo g n + g n : Int) : Rat); rw [sum_cnt g n, Rat.intCast_add]

/-! ranks -/

/-- 2 for what is below, 1 for what is as great -/
def cw (c : Int) : Int := if c < 0 then 2 else if c = 0 then 1 else 0
def tw (f : Nat → Rat) (x : Rat) (n : Nat) : Int := cntTo (fun k => cw (cmpQ (f k) x)) n
/-- the rank of the i-th of n numbers -/
def rankQ (f : Nat → Rat) (n i : Nat) : Rat := ((1 + tw f (f i) n : Int) : Rat) / ((2 : Int) : Rat)

theorem cw_bd (c : Int) : 0 ≤ cw c ∧ cw c ≤ 2 := by unfold cw; split <;> first | omega | (split <;> omega)
theorem cw_flip (x y : Rat) : cw (cmpQ x y) + cw (cmpQ y x) = 2 := by
  have h := cmpQ_neg x y
  rw [h]
  generalize cmpQ x y = c
  unfold cw
  by_cases h1 : c < 0
  · rw [if_pos h1, if_neg (by omega), if_neg (by omega)]; rfl
  · by_cases h2 : c = 0
    · subst h2; rfl
    · rw [if_neg h1, if_neg h2, if_pos (by omega)]; rfl
theorem tw_zero (f : Nat → Rat) (x : Rat) : tw f x 0 = 0 := rfl
theorem tw_next (f : Nat → Rat) (x : Rat) (n : Nat) : tw f x (n + 1) = tw f x n + cw (cmpQ (f n) x) := rfl
theorem tw_bd (f : Nat → Rat) (x : Rat) (n : Nat) : 0 ≤ tw f x n ∧ tw f x n ≤ 2 * (n : Int) := by
  refine ⟨cntTo_nonneg fun i _ => (cw_bd _).1, ?_⟩
  have h := cntTo_le (f := fun k => cw (cmpQ (f k) x)) (g := fun _ => 2) (n := n) fun i _ => (cw_bd _).2
  rw [cntTo_const] at h
  unfold tw
  omega
theorem tw_congr {f g : Nat → Rat} {x y : Rat} {n : Nat} (h : ∀ k, k < n → cmpQ (f k) x = cmpQ (g k) y) : tw f x n = tw g y n :=
  cntTo_congr fun k hk => by rw [h k hk]
theorem rank_congr {f g : Nat → Rat} {n i : Nat} (h : ∀ k, k < n → cmpQ (f k) (f i) = cmpQ (g k) (g i)) : rankQ f n i = rankQ g n i := by
  unfold rankQ
  rw [tw_congr h]
theorem rs_rank (f : Nat → Rat) {n : Nat} (h : n ≤ 1000) (i : Nat) : rs (rankQ f n i) ≤ 5 := by
  have b := tw_bd f (f i) n
  exact rsb_div (rsb_int (K := 2) (by omega) (by omega) (by omega)) (rsb_int (K := 2) (by omega) (by omega) (by omega)) (by omega)

theorem tw_all (f : Nat → Rat) (n : Nat) : cntTo (fun i => tw f (f i) n) n = (n : Int) * n := by
  have h1 : cntTo (fun i => tw f (f i) n) n = cntTo (fun k => cntTo (fun i => cw (cmpQ (f k) (f i))) n) n := cntTo_swap (fun i k => cw (cmpQ (f k) (f i))) n n
  have h2 : cntTo (fun i => tw f (f i) n + cntTo (fun k => cw (cmpQ (f i) (f k))) n) n = cntTo (fun _ => (n : Int) * 2) n := by
    refine cntTo_congr fun i _ => ?_
    unfold tw
    rw [← cntTo_add, ← cntTo_const]
    exact cntTo_congr fun k _ => cw_flip _ _
  rw [cntTo_add, ← h1, cntTo_const] at h2
  have h3 : (n : Int) * ((n : Int) * 2) = (n : Int) * n * 2 := by rw [Int.mul_assoc]
  omega

theorem ranks_sum (f : Nat → Rat) (n : Nat) : sumTo (rankQ f n) n = (((n : Int) * ((n : Int) + 1) : Int) : Rat) / ((2 : Int) : Rat) := by
  have e : sumTo (rankQ f n) n = sumTo (fun i => ((1 + tw f (f i) n : Int) : Rat) * (((2 : Int) : Rat))⁻¹) n := sumTo_congr fun i _ => by unfold rankQ; rw [Rat.div_def]
  rw [e, sumTo_mul, sum_cnt, cntTo_add, tw_all, cntTo_const, Rat.div_def]
  congr 2
  rw [Int.mul_add]; omega

theorem cmpQ_move {a b x y : Rat} (ha : 0 < a) : cmpQ (x * a + b) (y * a + b) = cmpQ x y := by
  rw [cmpQ_add]
  have k1 : (x * a < y * a) = (x < y) := by
    refine propext ⟨fun h => ?_, fun h => Rat.mul_lt_mul_of_pos_right h ha⟩
    rcases Classical.em (x < y) with h1 | h1
    · exact h1
    · exact absurd h (Rat.not_lt.2 (Rat.mul_le_mul_of_nonneg_right (Rat.not_lt.1 h1) (Rat.le_of_lt ha)))
  have k2 : (y * a < x * a) = (y < x) := by
    refine propext ⟨fun h => ?_, fun h => Rat.mul_lt_mul_of_pos_right h ha⟩
    rcases Classical.em (y < x) with h1 | h1
    · exact h1
    · exact absurd h (Rat.not_lt.2 (Rat.mul_le_mul_of_nonneg_right (Rat.not_lt.1 h1) (Rat.le_of_lt ha)))
  unfold cmpQ
  simp only [k1, k2]
theorem cmpQ_negs (x y : Rat) : cmpQ (-x) (-y) = cmpQ y x := by
  unfold cmpQ
  simp only [Rat.neg_lt_neg_iff]

theorem rank_turn {f g : Nat → Rat} {n i : Nat} (hi : i < n) (h : ∀ k, k < n → g k = - f k) : rankQ g n i = (((n : Int) + 1 : Int) : Rat) - rankQ f n i := by
  have e : tw g (g i) n = (n : Int) * 2 - tw f (f i) n := by
    have h2 : cntTo (fun k => cw (cmpQ (f k) (f i)) + cw (cmpQ (g k) (g i))) n = cntTo (fun _ => 2) n := by
      refine cntTo_congr fun k hk => ?_
      rw [h k hk, h i hi, cmpQ_negs]
      exact cw_flip _ _
    rw [cntTo_add, cntTo_const] at h2
    unfold tw
    omega
  unfold rankQ
  rw [e]
  have e2 : ((1 + ((n : Int) * 2 - tw f (f i) n) : Int) : Rat) = (((n : Int) + 1 : Int) : Rat) * ((2 : Int) : Rat) - ((1 + tw f (f i) n : Int) : Rat) := by
    rw [← Rat.intCast_mul, ← Rat.intCast_sub]
    congr 1
    omega
  rw [e2, Rat.div_def, Rat.div_def, Rat.sub_eq_add_neg, Rat.add_mul, Rat.mul_assoc, Rat.mul_inv_cancel _ (intQ_ne (by omega)), Rat.mul_one, Rat.neg_mul, ← Rat.sub_eq_add_neg]

/-! pairs -/

def pr (a b : Nat → Rat) (i k : Nat) : Int := cmpQ (a i) (a k) * cmpQ (b i) (b k)
def v1 (c : Int) : Int := if c = 1 then 1 else 0
def v2 (c : Int) : Int := if c = -1 then 1 else 0
def v3 (c : Int) : Int := if c = 1 then 0 else if c = -1 then 0 else 1
/-- of the pairs of places below n, and of those of the place n with places below m -/
def pcRow (v : Int → Int) (a b : Nat → Rat) (i m : Nat) : Int := cntTo (fun k => v (pr a b i k)) m
def pc (v : Int → Int) (a b : Nat → Rat) (n : Nat) : Int := cntTo (fun i => pcRow v a b i i) n

theorem pc_zero (v : Int → Int) (a b : Nat → Rat) : pc v a b 0 = 0 := rfl
theorem pc_next (v : Int → Int) (a b : Nat → Rat) (n : Nat) : pc v a b (n + 1) = pc v a b n + pcRow v a b n n := rfl
theorem pcRow_zero (v : Int → Int) (a b : Nat → Rat) (i : Nat) : pcRow v a b i 0 = 0 := rfl
theorem pcRow_next (v : Int → Int) (a b : Nat → Rat) (i m : Nat) : pcRow v a b i (m + 1) = pcRow v a b i m + v (pr a b i m) := rfl
theorem v1_bd (c : Int) : 0 ≤ v1 c ∧ v1 c ≤ 1 := by unfold v1; split <;> omega
theorem v2_bd (c : Int) : 0 ≤ v2 c ∧ v2 c ≤ 1 := by unfold v2; split <;> omega
theorem v3_bd (c : Int) : 0 ≤ v3 c ∧ v3 c ≤ 1 := by unfold v3; split <;> first | omega | (split <;> omega)
theorem v_sum (c : Int) : v1 c + v2 c + v3 c = 1 := by
  unfold v1 v2 v3
  by_cases h1 : c = 1
  · subst h1; rfl
  · rw [if_neg h1, if_neg h1]
    split <;> rfl
theorem v12_neg (c : Int) : v1 (-c) = v2 c := by
  unfold v1 v2
  by_cases h : c = -1
  · rw [if_pos h, if_pos (by omega)]
  · rw [if_neg h, if_neg (by omega)]
theorem v21_neg (c : Int) : v2 (-c) = v1 c := by
  unfold v1 v2
  by_cases h : c = 1
  · rw [if_pos h, if_pos (by omega)]
  · rw [if_neg h, if_neg (by omega)]
theorem v3_neg (c : Int) : v3 (-c) = v3 c := by
  have h1 := v_sum c
  have h2 := v_sum (-c)
  rw [v12_neg, v21_neg] at h2
  omega
theorem pcRow_bd {v : Int → Int} (h : ∀ c, 0 ≤ v c ∧ v c ≤ 1) (a b : Nat → Rat) (i m : Nat) : 0 ≤ pcRow v a b i m ∧ pcRow v a b i m ≤ (m : Int) := by
  refine ⟨cntTo_nonneg fun k _ => (h _).1, ?_⟩
  have h2 := cntTo_le (f := fun k => v (pr a b i k)) (g := fun _ => 1) (n := m) fun k _ => (h _).2
  rw [cntTo_const] at h2
  unfold pcRow
  omega
theorem mul_thouI {n m : Nat} (h : n ≤ 1000) (hm : m ≤ 1000) : n * m ≤ 1000000 := Nat.mul_le_mul h hm
theorem pc_bd {v : Int → Int} (h : ∀ c, 0 ≤ v c ∧ v c ≤ 1) (a b : Nat → Rat) : ∀ n : Nat, 0 ≤ pc v a b n ∧ pc v a b n ≤ (n : Int) * 1000 ∨ 1000 < n
  | 0 => .inl ⟨Int.le_refl _, Int.le_refl _⟩
  | n + 1 => by
    rcases pc_bd h a b n with h1 | h1
    · rcases Nat.lt_or_ge 1000 (n + 1) with h2 | h2
      · exact .inr h2
      · left
        have h3 := pcRow_bd h a b n n
        rw [pc_next]
        omega
    · exact .inr (by omega)
theorem pc_bound {v : Int → Int} (h : ∀ c, 0 ≤ v c ∧ v c ≤ 1) (a b : Nat → Rat) {n : Nat} (hn : n ≤ 1000) : 0 ≤ pc v a b n ∧ pc v a b n ≤ 1000000 := by
  rcases pc_bd h a b n with h1 | h1
  · omega
  · omega
theorem pcRow_sum (a b : Nat → Rat) (i m : Nat) : pcRow v1 a b i m + pcRow v2 a b i m + pcRow v3 a b i m = m := by
  unfold pcRow
  rw [← cntTo_add, ← cntTo_add]
  have e : cntTo (fun k => v1 (pr a b i k) + v2 (pr a b i k) + v3 (pr a b i k)) m = cntTo (fun _ => 1) m := cntTo_congr fun k _ => v_sum _
  rw [e, cntTo_const, Int.mul_one]
theorem pc_sum (a b : Nat → Rat) : ∀ n : Nat, (pc v1 a b n + pc v2 a b n + pc v3 a b n) * 2 = (n : Int) * ((n : Int) - 1)
  | 0 => rfl
  | n + 1 => by
    have h1 := pc_sum a b n
    have h2 := pcRow_sum a b n n
    rw [pc_next, pc_next, pc_next]
    have e : ((n + 1 : Nat) : Int) * (((n + 1 : Nat) : Int) - 1) = (n : Int) * ((n : Int) - 1) + (n : Int) * 2 := by
      rw [Int.natCast_add, Int.natCast_one, Int.add_sub_cancel, Int.add_mul, Int.mul_sub]; omega
    rw [e, ← h1]
    omega
theorem pc_turn {v u : Int → Int} (h : ∀ c, u (-c) = v c) {a b c : Nat → Rat} {n : Nat} (hc : ∀ k, k < n → c k = - b k) : pc u a c n = pc v a b n := by
  refine cntTo_congr fun i hi => cntTo_congr fun k hk => ?_
  unfold pr
  rw [hc i hi, hc k (by omega), cmpQ_negs, cmpQ_neg (b i) (b k), Int.mul_neg, h]
theorem pc_self (a : Nat → Rat) (n : Nat) : pc v2 a a n = 0 := by
  have h : pc v2 a a n = cntTo (fun _ => 0) n := by
    refine cntTo_congr fun i _ => ?_
    have h2 : pcRow v2 a a i i = cntTo (fun _ => 0) i := by
      refine cntTo_congr fun k _ => ?_
      have hsq : 0 ≤ cmpQ (a i) (a k) * cmpQ (a i) (a k) := by
        have hb := cmpQ_bd (a i) (a k)
        have hc : cmpQ (a i) (a k) = -1 ∨ cmpQ (a i) (a k) = 0 ∨ cmpQ (a i) (a k) = 1 := by omega
        rcases hc with h | h | h <;> rw [h] <;> decide
      unfold pr v2
      rw [if_neg (by omega)]
    rw [h2, cntTo_const, Int.mul_zero]
  rw [h, cntTo_const, Int.mul_zero]

/-! how alike -/

theorem div_le_one {p t : Rat} (ht : 0 < t) (h : p ≤ t) : p / t ≤ 1 := by
  have hne : t ≠ 0 := fun e => by rw [e] at ht; exact Rat.lt_irrefl ht
  have e := Rat.div_mul_cancel (a := p) hne
  rcases Classical.em (p / t ≤ 1) with h1 | h1
  · exact h1
  · have h2 := Rat.mul_lt_mul_of_pos_right (Rat.not_le.1 h1) ht
    rw [e, Rat.one_mul] at h2
    exact absurd h (Rat.not_le.2 h2)
theorem neg_one_le_div {p t : Rat} (ht : 0 < t) (h : -t ≤ p) : -1 ≤ p / t := by
  have hne : t ≠ 0 := fun e => by rw [e] at ht; exact Rat.lt_irrefl ht
  have e := Rat.div_mul_cancel (a := p) hne
  rcases Classical.em (-1 ≤ p / t) with h1 | h1
  · exact h1
  · have h2 := Rat.mul_lt_mul_of_pos_right (Rat.not_le.1 h1) ht
    rw [e, Rat.neg_mul, Rat.one_mul] at h2
    exact absurd h (Rat.not_le.2 h2)
theorem div_nonneg' {p t : Rat} (ht : 0 < t) (h : 0 ≤ p) : 0 ≤ p / t := by
  have hne : t ≠ 0 := fun e => by rw [e] at ht; exact Rat.lt_irrefl ht
  have e := Rat.div_mul_cancel (a := p) hne
  rcases Classical.em (0 ≤ p / t) with h1 | h1
  · exact h1
  · have h2 := Rat.mul_lt_mul_of_pos_right (Rat.not_le.1 h1) ht
    rw [e, Rat.zero_mul] at h2
    exact absurd h (Rat.not_le.2 h2)
theorem div_zero_iff {p t : Rat} (ht : t ≠ 0) : p / t = 0 ↔ p = 0 := by
  have e := Rat.div_mul_cancel (a := p) ht
  refine ⟨fun h => ?_, fun h => ?_⟩
  · rw [h, Rat.zero_mul] at e; exact e.symm
  · rw [h, Rat.div_def, Rat.zero_mul]

def kenQ (a b : List RR) : Rat := if a.length = b.length then (if a.length < 2 then 0 else ((pc v1 (atQ a) (atQ b) a.length - pc v2 (atQ a) (atQ b) a.length : Int) : Rat) / ((pc v1 (atQ a) (atQ b) a.length + pc v2 (atQ a) (atQ b) a.length + pc v3 (atQ a) (atQ b) a.length : Int) : Rat)) else 0

theorem ken_bound (a b : List RR) : -1 ≤ kenQ a b ∧ kenQ a b ≤ 1 := by
  have h01 : (-1 : Rat) ≤ 0 ∧ (0 : Rat) ≤ 1 := by decide +kernel
  unfold kenQ
  split
  · split
    · exact h01
    · rename_i h
      have hs := pc_sum (atQ a) (atQ b) a.length
      have p1 : 0 ≤ pc v1 (atQ a) (atQ b) a.length := cntTo_nonneg fun i _ => (pcRow_bd v1_bd _ _ _ _).1
      have p2 : 0 ≤ pc v2 (atQ a) (atQ b) a.length := cntTo_nonneg fun i _ => (pcRow_bd v2_bd _ _ _ _).1
      have p3 : 0 ≤ pc v3 (atQ a) (atQ b) a.length := cntTo_nonneg fun i _ => (pcRow_bd v3_bd _ _ _ _).1
      have hpos : (0 : Int) < (a.length : Int) * ((a.length : Int) - 1) := Int.mul_pos (by omega) (by omega)
      generalize pc v1 (atQ a) (atQ b) a.length = x at *
      generalize pc v2 (atQ a) (atQ b) a.length = y at *
      generalize pc v3 (atQ a) (atQ b) a.length = z at *
      have ht : (0 : Rat) < ((x + y + z : Int) : Rat) := by rw [show (0 : Rat) = ((0 : Int) : Rat) from rfl, Rat.intCast_lt_intCast]; omega
      refine ⟨neg_one_le_div ht ?_, div_le_one ht ?_⟩
      · rw [← Rat.intCast_neg, Rat.intCast_le_intCast]; omega
      · rw [Rat.intCast_le_intCast]; omega
  · exact h01

/-- how like two rows are, by their ranks: squared -/
theorem cov_cauchy {x y : List RR} (h : x.length = y.length) (h2 : 2 ≤ x.length) : covQ x y * covQ x y ≤ covQ x x * covQ y y ∧ 0 ≤ covQ x x ∧ 0 ≤ covQ y y := by
  have hm : (0 : Rat) < (((x.length : Int) - 1 : Int) : Rat) := by rw [show (0 : Rat) = ((0 : Int) : Rat) from rfl, Rat.intCast_lt_intCast]; omega
  have hc := cauchy (fun i => atQ x i - meanQ x) (fun i => atQ y i - meanQ y) x.length
  have n1 : 0 ≤ sumTo (fun i => (atQ x i - meanQ x) * (atQ x i - meanQ x)) x.length := sumTo_nonneg fun i _ => sq_nonneg _
  have n2 : 0 ≤ sumTo (fun i => (atQ y i - meanQ y) * (atQ y i - meanQ y)) x.length := sumTo_nonneg fun i _ => sq_nonneg _
  unfold covQ
  rw [if_pos h, if_pos rfl, if_pos rfl, ← h, if_neg (show ¬ x.length < 2 by omega), if_neg (show ¬ x.length < 2 by omega), if_neg (show ¬ x.length < 2 by omega)]
  generalize sumTo (fun i => (atQ x i - meanQ x) * (atQ y i - meanQ y)) x.length = s at *
  generalize sumTo (fun i => (atQ x i - meanQ x) * (atQ x i - meanQ x)) x.length = A at *
  generalize sumTo (fun i => (atQ y i - meanQ y) * (atQ y i - meanQ y)) x.length = B at *
  generalize (((x.length : Int) - 1 : Int) : Rat) = m at *
  refine ⟨?_, div_nonneg' hm n1, div_nonneg' hm n2⟩
  have hi : 0 ≤ m⁻¹ * m⁻¹ := sq_nonneg _
  have e1 : s / m * (s / m) = s * s * (m⁻¹ * m⁻¹) := by rw [Rat.div_def]; grind
  have e2 : A / m * (B / m) = A * B * (m⁻¹ * m⁻¹) := by rw [Rat.div_def, Rat.div_def]; grind
  rw [e1, e2]
  exact Rat.mul_le_mul_of_nonneg_right hc hi

end Go.Proofs.Ytifnpelkoklcnaa
