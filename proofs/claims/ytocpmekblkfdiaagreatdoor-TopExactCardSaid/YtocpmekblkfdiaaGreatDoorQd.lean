/- dec.ten, held, sign, units, Round, pointed, Fixed, show.held, tens, last, Dec, by the abstract walk. Conditions: at most twelve digits; numbers from 0 to 1. nat.To at numbers below 2^32, by the abstract walk. -/
import Derived.Test.YtocpmekblkfdiaaGreatDoorQa
import Derived.Test.YtocpmekblkfdiaaGreatDoorBc
import Derived.Test.YtocpmekblkfdiaaGreatDoorHa
namespace Go.Proofs.YtocpmekblkfdiaaGreatDoor
open Go.RowKit
set_option linter.unusedSimpArgs false
set_option linter.unusedVariables false
attribute [go_sem] d_ball_Is d_ball_Width d_nat_Add d_nat_Cmp d_nat_DivMod d_nat_Mul d_nat_Of d_nat_Print d_nat_Shift d_rat_Add d_rat_Cmp d_rat_Div d_rat_Int d_rat_Norm d_rat_Of d_strings_Repeat
theorem ten_len {i : Nat} (h : i ≤ 60) : (limbs (10 ^ i)).length ≤ 7 :=
  limbs_len_le (Nat.lt_of_le_of_lt (Nat.pow_le_pow_right (by omega) h) (by decide +kernel))
theorem ten_next (i : Nat) : 10 ^ i * 10 = 10 ^ (i + 1) := (Nat.pow_succ ..).symm
theorem len_ten : (limbs 10).length ≤ 1000000000000 := by decide
def d_dec_ten : Den := den1 aInt (fun n => 0 ≤ n ∧ n ≤ 60) fun n => natV (10 ^ n.toNat)
attribute [go_sem] d_dec_ten
set_option maxRecDepth 100000 in
set_option maxHeartbeats 1000000 in
theorem s_dec_ten : Sound Tryz.prog 123 d_dec_ten := by
  refine sound1 (fz := nofz) (l := [(64, d_nat_Of), (67, d_nat_Mul)]) TT_ok ⟨s_nat_Of, s_nat_Mul, trivial⟩ mixed Tryz.func123 Tryz.ntmps123 Tryz.results123 Tryz.call123 rfl (by omega) (fun _ => rfl) ?_
  intro a hp ha
  obtain ⟨n, rfl⟩ := Int.eq_ofNat_of_zero_le hp.1
  rw [codeK_start]
  simp only [go_sem, Int.toNat_natCast, ↓reduceIte]
  refine codeK_loop (fun i : { i : Nat // i ≤ n } => [(6, 0, .av (intV ((i.1 : Nat)))), (5, 0, .av (intV ((n : Nat)))), (3, 0, .av (.one (.cel (.lim none (limbs (10 ^ i.1))))))]) (fun i => n - i.1) ⟨0, by omega⟩ (le_of ?_) ?_
  · simp only [go_sem, leL, Nat.pow_zero, Int.natCast_zero, ↓reduceIte]
    try rfl
  · rintro ⟨i, hi0⟩
    have hi0 : i ≤ n := hi0
    have hl := ten_len (i := i) (by omega)
    by_cases hi : i < n
    · simp only [go_sem, Int.ofNat_lt, hi, val_limbs, ten_next, Int.toNat_natCast, ↓reduceIte]
      refine ⟨⟨by omega, len_ten⟩, ⟨by omega, by omega⟩, ⟨i + 1, by omega⟩, by show n - (i + 1) < n - i; omega, le_of ?_⟩
      simp only [go_sem, leL, ten_next, ↓reduceIte]
      try omega
    · have e : i = n := by omega
      subst e
      simp only [go_sem, Int.lt_irrefl, Int.toNat_natCast, ↓reduceIte]
def d_show_tens : Den := den1 aInt (fun n => 0 ≤ n ∧ n ≤ 30) fun n => natV (10 ^ n.toNat)
attribute [go_sem] d_show_tens
set_option maxRecDepth 100000 in
set_option maxHeartbeats 1000000 in
theorem s_show_tens : Sound Tryz.prog 65 d_show_tens := by
  refine sound1 (fz := nofz) (l := [(64, d_nat_Of), (67, d_nat_Mul)]) TT_ok ⟨s_nat_Of, s_nat_Mul, trivial⟩ mixed Tryz.func65 Tryz.ntmps65 Tryz.results65 Tryz.call65 rfl (by omega) (fun _ => rfl) ?_
  intro a hp ha
  obtain ⟨n, rfl⟩ := Int.eq_ofNat_of_zero_le hp.1
  rw [codeK_start]
  simp only [go_sem, Int.toNat_natCast, ↓reduceIte]
  refine codeK_loop (fun i : { i : Nat // i ≤ n } => [(6, 0, .av (intV ((i.1 : Nat)))), (5, 0, .av (intV ((n : Nat)))), (3, 0, .av (.one (.cel (.lim none (limbs (10 ^ i.1))))))]) (fun i => n - i.1) ⟨0, by omega⟩ (le_of ?_) ?_
  · simp only [go_sem, leL, Nat.pow_zero, Int.natCast_zero, ↓reduceIte]
    try rfl
  · rintro ⟨i, hi0⟩
    have hi0 : i ≤ n := hi0
    have hl := ten_len (i := i) (by omega)
    by_cases hi : i < n
    · simp only [go_sem, Int.ofNat_lt, hi, val_limbs, ten_next, Int.toNat_natCast, ↓reduceIte]
      refine ⟨⟨by omega, len_ten⟩, ⟨by omega, by omega⟩, ⟨i + 1, by omega⟩, by show n - (i + 1) < n - i; omega, le_of ?_⟩
      simp only [go_sem, leL, ten_next, ↓reduceIte]
      try omega
    · have e : i = n := by omega
      subst e
      simp only [go_sem, Int.lt_irrefl, Int.toNat_natCast, ↓reduceIte]
def d_dec_held : Den := den1 aInt (fun _ => True) fun n => intV (min (max n 0) 60)
attribute [go_sem] d_dec_held
set_option maxRecDepth 100000 in
set_option maxHeartbeats 1000000 in
theorem s_dec_held : Sound Tryz.prog 70 d_dec_held := by
  refine sound1 (fz := nofz) (l := []) TT_ok trivial mixed Tryz.func70 Tryz.ntmps70 Tryz.results70 Tryz.call70 rfl (by omega) (fun _ => rfl) ?_
  intro a hp ha
  rw [codeK_start]
  simp only [go_sem, ↓reduceIte]
  try trivial
def d_show_held : Den := den1 aInt (fun _ => True) fun n => intV (min (max n 0) 30)
attribute [go_sem] d_show_held
set_option maxRecDepth 100000 in
set_option maxHeartbeats 1000000 in
theorem s_show_held : Sound Tryz.prog 20 d_show_held := by
  refine sound1 (fz := nofz) (l := []) TT_ok trivial mixed Tryz.func20 Tryz.ntmps20 Tryz.results20 Tryz.call20 rfl (by omega) (fun _ => rfl) ?_
  intro a hp ha
  rw [codeK_start]
  simp only [go_sem, ↓reduceIte]
  try trivial
def d_dec_sign : Den := den1 aRat (fun _ => True) fun a => strV (if a.s = true then [45] else [])
attribute [go_sem] d_dec_sign
set_option maxRecDepth 100000 in
set_option maxHeartbeats 1000000 in
theorem s_dec_sign : Sound Tryz.prog 71 d_dec_sign := by
  refine sound1 (fz := nofz) (l := []) TT_ok trivial mixed Tryz.func71 Tryz.ntmps71 Tryz.results71 Tryz.call71 rfl (by omega) (fun _ => rfl) ?_
  intro a hp ha
  rw [codeK_start]
  simp only [go_sem, ↓reduceIte]
  cases h : a.s
  · simp only [go_sem, h, unbyt_lit, ↓reduceIte]
    try rfl
  · simp only [go_sem, h, unbyt_lit, ↓reduceIte]
    try rfl
theorem and_one32 (m : Nat) (h : m < 4294967296) : bitsI .and .u32 ((m : Nat) : Int) 1 = ((m % 2 : Nat) : Int) := by
  have e : (BitVec.ofInt 32 ((m : Nat) : Int) &&& BitVec.ofInt 32 1).toNat = m % 2 := by
    rw [BitVec.toNat_and]
    have h1 : (BitVec.ofInt 32 ((m : Nat) : Int)).toNat = m := by rw [BitVec.ofInt_natCast, BitVec.toNat_ofNat]; omega
    have h2 : (BitVec.ofInt 32 (1 : Int)).toNat = 1 := by decide
    rw [h1, h2, Nat.and_one_is_mod]
  unfold bitsI
  show IntKind.u32.wrap (((BitVec.ofInt 32 ((m : Nat) : Int) &&& BitVec.ofInt 32 1).toNat : Nat) : Int) = _
  rw [e, IntKind.wrap_u32]
  omega
theorem shift_one (r : Nat) : shiftN r 1 = r * 2 := by
  unfold shiftN
  rw [if_pos (by omega)]
  rfl
theorem limbs_at0 {q : Nat} (h : 0 < q) : (limbs q).getD 0 0 = q % 4294967296 := by rw [limbs_pos h]; rfl
theorem half_up {N d : Nat} (h : d < N % d * 2) : halfEven N d = N / d + 1 := if_pos (.inl (by omega))
theorem half_odd {N d : Nat} (h : N % d * 2 = d) (h1 : N / d % 2 = 1) : halfEven N d = N / d + 1 := if_pos (.inr ⟨by omega, h1⟩)
theorem half_dn {N d : Nat} (h : ¬ d < N % d * 2) (h1 : ¬ (N % d * 2 = d ∧ N / d % 2 = 1)) : halfEven N d = N / d := if_neg (by rintro (h2 | h2); exact h (by omega); exact h1 ⟨by omega, h2.2⟩)
theorem len_one : (limbs 1).length ≤ 1000000000000 := by decide
def d_dec_units : Den := den2 aRat aInt (fun a n => a.sz ≤ 1000000000 ∧ 0 ≤ n ∧ n ≤ 60 ∧ val a.d ≠ 0) fun a n => natV (halfEven (val a.n * 10 ^ n.toNat) (val a.d))
attribute [go_sem] d_dec_units
set_option maxRecDepth 100000 in
set_option maxHeartbeats 1000000 in
theorem s_dec_units : Sound Tryz.prog 75 d_dec_units := by
  refine sound2 (fz := nofz) (l := [(123, d_dec_ten), (67, d_nat_Mul), (120, d_nat_DivMod), (127, d_nat_Shift), (117, d_nat_Cmp), (64, d_nat_Of), (68, d_nat_Add)]) TT_ok ⟨s_dec_ten, s_nat_Mul, s_nat_DivMod, s_nat_Shift, s_nat_Cmp, s_nat_Of, s_nat_Add, trivial⟩ mixed Tryz.func75 Tryz.ntmps75 Tryz.results75 Tryz.call75 rfl (by omega) (fun _ _ => rfl) ?_
  intro a b hp ha hb
  obtain ⟨n, rfl⟩ := Int.eq_ofNat_of_zero_le hp.2.1
  have hz := RR.lens hp.1
  have hd0 : (val a.d = 0) = False := eq_false hp.2.2.2
  have hl := ten_len (i := n) (by omega)
  have hv := ha
  have hnl : (limbs (val a.n)).length ≤ 1000000000 := Nat.le_trans (limbs_len_val ha.1) hz.1
  have hdl : (limbs (val a.d)).length ≤ 1000000000 := Nat.le_trans (limbs_len_val ha.2) hz.2
  have hml : (limbs (val a.n * 10 ^ n)).length ≤ 1000000007 := Nat.le_trans (limbs_len_mul _ _) (by omega)
  have hql : (limbs (val a.n * 10 ^ n / val a.d)).length ≤ 1000000007 := Nat.le_trans (limbs_len_mono (Nat.div_le_self _ _)) hml
  have hrl : (limbs (val a.n * 10 ^ n % val a.d)).length ≤ 1000000007 := Nat.le_trans (limbs_len_mono (Nat.mod_le _ _)) hml
  have hr2 : (limbs (val a.n * 10 ^ n % val a.d * 2)).length ≤ 1000000008 := by
    have h1 := limbs_len_mul (val a.n * 10 ^ n % val a.d) 2
    have h2 : (limbs 2).length = 1 := rfl
    omega
  rw [codeK_start]
  rw [Int.toNat_natCast]
  by_cases c1 : val a.d < val a.n * 10 ^ n % val a.d * 2
  · rw [half_up c1]
    simp only [go_sem, divV, val_limbs, Int.toNat_natCast, shift_one, hd0, if_false, ne_eq, not_false_eq_true, cmpI_gt0, cmpI_eq0, eq_true c1, ↓reduceIte]
    and_intros
    all_goals first | exact trivial | omega | assumption | exact len_one | (show okDraw _ _ = true; kernel_rfl) | (show _ = CV.lim none _; rfl) | rfl
  · by_cases c2 : val a.n * 10 ^ n % val a.d * 2 = val a.d
    · by_cases c3 : val a.n * 10 ^ n / val a.d = 0
      · rw [half_dn c1 (by rintro ⟨_, h⟩; omega)]
        have x3 : (0 < (((limbs (val a.n * 10 ^ n / val a.d)).length : Nat) : Int)) = False := eq_false (fun h => by rw [c3] at h; exact absurd h (by decide))
        simp only [go_sem, divV, val_limbs, Int.toNat_natCast, shift_one, hd0, if_false, ne_eq, not_false_eq_true, cmpI_gt0, cmpI_eq0, eq_false c1, eq_true c2, x3, ↓reduceIte]
        and_intros
        all_goals first | exact trivial | omega | assumption | exact len_one | (show okDraw _ _ = true; kernel_rfl) | (show _ = CV.lim none _; rfl) | rfl
      · have x3 : (0 < (((limbs (val a.n * 10 ^ n / val a.d)).length : Nat) : Int)) = True := eq_true (by
          have : (limbs (val a.n * 10 ^ n / val a.d)).length ≠ 0 := fun h => c3 (limbs_len0.1 h)
          omega)
        have x4 := limbs_at0 (Nat.pos_of_ne_zero c3)
        have x5 := and_one32 (val a.n * 10 ^ n / val a.d % 4294967296) (Nat.mod_lt _ (by omega))
        by_cases c4 : val a.n * 10 ^ n / val a.d % 2 = 1
        · rw [half_odd c2 c4]
          have x6 : (((val a.n * 10 ^ n / val a.d % 4294967296 % 2 : Nat) : Int) = 1) = True := eq_true (by omega)
          simp only [go_sem, divV, val_limbs, Int.toNat_natCast, shift_one, hd0, if_false, ne_eq, not_false_eq_true, cmpI_gt0, cmpI_eq0, eq_false c1, eq_true c2, x3, x4, x5, x6, ↓reduceIte]
          and_intros
          all_goals first | exact trivial | omega | assumption | exact len_one | (show okDraw _ _ = true; kernel_rfl) | (show _ = CV.lim none _; rfl) | rfl
        · rw [half_dn c1 (by rintro ⟨_, h⟩; exact c4 h)]
          have x6 : (((val a.n * 10 ^ n / val a.d % 4294967296 % 2 : Nat) : Int) = 1) = False := eq_false (by omega)
          simp only [go_sem, divV, val_limbs, Int.toNat_natCast, shift_one, hd0, if_false, ne_eq, not_false_eq_true, cmpI_gt0, cmpI_eq0, eq_false c1, eq_true c2, x3, x4, x5, x6, ↓reduceIte]
          and_intros
          all_goals first | exact trivial | omega | assumption | exact len_one | (show okDraw _ _ = true; kernel_rfl) | (show _ = CV.lim none _; rfl) | rfl
    · rw [half_dn c1 (by rintro ⟨h, _⟩; exact c2 h)]
      simp only [go_sem, divV, val_limbs, Int.toNat_natCast, shift_one, hd0, if_false, ne_eq, not_false_eq_true, cmpI_gt0, cmpI_eq0, eq_false c1, eq_false c2, ↓reduceIte]
      and_intros
      all_goals first | exact trivial | omega | assumption | exact len_one | (show okDraw _ _ = true; kernel_rfl) | (show _ = CV.lim none _; rfl) | rfl
/-- ten to the power of minus n -/
def tnQ (n : Nat) : Rat := qv false 1 (10 ^ n)
theorem rs_ten {U n : Nat} (hU : (limbs U).length ≤ 1000000008) (hn : n ≤ 60) : rs (qv false U (10 ^ n)) ≤ 1000000008 := rs_qv _ _ _ _ hU (Nat.le_trans (ten_len hn) (by omega)) (by omega)
theorem held60 {n : Nat} (h : n ≤ 60) : min (max ((n : Nat) : Int) 0) 60 = ((n : Nat) : Int) := by omega
theorem held30 {n : Nat} (h : n ≤ 30) : min (max ((n : Nat) : Int) 0) 30 = ((n : Nat) : Int) := by omega
theorem lit_e : unbyt { data := #[] } = [] := rfl
theorem lit_0 : unbyt { data := #[48] } = [48] := rfl
theorem lit_d : unbyt { data := #[46] } = [46] := rfl
theorem cr_sz' {q : Rat} {K : Nat} (h : rs q ≤ K) : (cr q).sz ≤ K := by rw [cr_sz]; exact h
def d_show_last : Den := den1 aInt (fun n => 0 ≤ n ∧ n ≤ 30) fun n => ratV (cr (tnQ n.toNat))
attribute [go_sem] d_show_last
set_option maxRecDepth 100000 in
set_option maxHeartbeats 1000000 in
theorem s_show_last : Sound Tryz.prog 24 d_show_last := by
  refine sound1 (fz := nofz) (l := [(64, d_nat_Of), (65, d_show_tens), (63, d_rat_Of)]) TT_ok ⟨s_nat_Of, s_show_tens, s_rat_Of, trivial⟩ mixed Tryz.func24 Tryz.ntmps24 Tryz.results24 Tryz.call24 rfl (by omega) (fun _ => rfl) ?_
  intro a hp ha
  obtain ⟨n, rfl⟩ := Int.eq_ofNat_of_zero_le hp.1
  rw [codeK_start]
  simp only [go_sem, Int.toNat_natCast, val_limbs, ↓reduceIte]
  have hl := ten_len (i := n) (by omega)
  all_goals ((try and_intros) <;> first | exact trivial | omega | exact len_one | rfl | (show okDraw _ _ = true; kernel_rfl))
def d_dec_Round : Den := den2 aRat aInt (fun a n => a.sz ≤ 1000000000 ∧ 0 ≤ n ∧ n ≤ 60) fun a n => ratV (cr (qv (ng a.q) (halfEven (nm a.q * 10 ^ n.toNat) a.q.den) (10 ^ n.toNat)))
attribute [go_sem] d_dec_Round
set_option maxRecDepth 100000 in
set_option maxHeartbeats 1000000 in
theorem s_dec_Round : Sound Tryz.prog 72 d_dec_Round := by
  refine sound2 (fz := nofz) (l := [(66, d_rat_Norm), (70, d_dec_held), (75, d_dec_units), (123, d_dec_ten), (63, d_rat_Of)]) TT_ok ⟨s_rat_Norm, s_dec_held, s_dec_units, s_dec_ten, s_rat_Of, trivial⟩ mixed Tryz.func72 Tryz.ntmps72 Tryz.results72 Tryz.call72 rfl (by omega) (fun _ _ => rfl) ?_
  intro a b hp ha hb
  obtain ⟨n, rfl⟩ := Int.eq_ofNat_of_zero_le hp.2.1
  have hx60 := held60 (n := n) (by omega)
  rw [codeK_start]
  simp only [go_sem, Int.toNat_natCast, val_limbs, cr_s, cr_n, cr_d, hx60, ↓reduceIte]
  have hl := ten_len (i := n) (by omega)
  have hr : rs a.q ≤ 1000000000 := rs_ok ha hp.1 (by omega)
  have h1 : (limbs (nm a.q)).length ≤ 1000000000 := Nat.le_trans (rs_nm a.q) hr
  have h2 := limbs_len_mul (nm a.q) (10 ^ n)
  have h3 : (limbs (halfEven (nm a.q * 10 ^ n) a.q.den)).length ≤ 1000000009 := by
    have e : halfEven (nm a.q * 10 ^ n) a.q.den ≤ nm a.q * 10 ^ n + 1 := by
      unfold halfEven
      have := Nat.div_le_self (nm a.q * 10 ^ n) a.q.den
      split <;> omega
    refine Nat.le_trans (limbs_len_mono e) (Nat.le_trans (limbs_len_add _ _) ?_)
    have h5 : (limbs 1).length = 1 := rfl
    omega
  have h4 := cr_sz' hr
  all_goals ((try and_intros) <;> first | exact trivial | omega | exact len_one | exact a.q.den_nz | rfl | (show okDraw _ _ = true; kernel_rfl) | assumption)
def d_dec_pointed : Den := den2 aStr aInt (fun s n => 1 ≤ s.length ∧ s.length ≤ 30 ∧ 0 ≤ n ∧ n ≤ 12) fun s n => strV (ptL s n.toNat)
attribute [go_sem] d_dec_pointed
set_option maxRecDepth 100000 in
set_option maxHeartbeats 1000000 in
theorem s_dec_pointed : Sound Tryz.prog 73 d_dec_pointed := by
  refine sound2 (fz := nofz) (l := [(124, d_strings_Repeat)]) TT_ok ⟨s_strings_Repeat, trivial⟩ mixed Tryz.func73 Tryz.ntmps73 Tryz.results73 Tryz.call73 rfl (by omega) (fun _ _ => rfl) ?_
  intro s b hp hs hb
  obtain ⟨n, rfl⟩ := Int.eq_ofNat_of_zero_le hp.2.2.1
  rw [codeK_start, Int.toNat_natCast]
  by_cases h0 : n = 0
  · subst h0
    simp only [go_sem, Int.toNat_natCast, lit_e, lit_0, lit_d, List.length_append, List.length_replicate, Int.natCast_zero, ↓reduceIte]
    exact congrArg CV.str (if_pos rfl).symm
  · have x0 : (((n : Nat) : Int) = 0) = False := eq_false (by omega)
    have x1 : (max 0 (((n : Nat) : Int) + 1 - ((s.length : Nat) : Int))).toNat = n + 1 - s.length := by omega
    generalize hk : max 0 (((n : Nat) : Int) + 1 - ((s.length : Nat) : Int)) = k at x1
    have x2 : ((((n + 1 - s.length) + s.length : Nat) : Int) - ((n : Nat) : Int)).toNat = n + 1 - s.length + s.length - n := by omega
    simp only [go_sem, Int.toNat_natCast, lit_e, lit_0, lit_d, List.length_append, List.length_replicate, x0, hk, x1, x2, ↓reduceIte]
    have hL : (List.replicate (n + 1 - s.length) 48 ++ s).length = n + 1 - s.length + s.length := by rw [List.length_append, List.length_replicate]
    have hT : List.take (n + 1 - s.length + s.length) (List.replicate (n + 1 - s.length) 48 ++ s) = List.replicate (n + 1 - s.length) 48 ++ s := List.take_of_length_le (by omega)
    have hA := List.length_take_le' (n + 1 - s.length + s.length - n) (List.replicate (n + 1 - s.length) 48 ++ s)
    have hB := List.length_drop (i := n + 1 - s.length + s.length - n) (l := List.replicate (n + 1 - s.length) 48 ++ s)
    have hP : ptL s n = List.take (n + 1 - s.length + s.length - n) (List.replicate (n + 1 - s.length) 48 ++ s) ++ [46] ++ List.drop (n + 1 - s.length + s.length - n) (List.replicate (n + 1 - s.length) 48 ++ s) := by
      unfold ptL
      rw [if_neg h0, hL]
    rw [hT, ← hP]
    ((try and_intros) <;> first | exact trivial | omega | rfl | (show okDraw _ _ = true; kernel_rfl))
/-- how many units of the n-th place behind the point are nearest to a number -/
def unQ (q : Rat) (n : Nat) : Nat := halfEven (nm q * 10 ^ n) q.den
theorem unQ_le {q : Rat} (h0 : 0 ≤ q) (h1 : q ≤ 1) (n : Nat) : unQ q n ≤ 10 ^ n := by
  have hd : 0 < q.den := Nat.pos_of_ne_zero q.den_nz
  have h2 := halfEven_hi (N := nm q * 10 ^ n) hd
  have h3 : nm q * 10 ^ n ≤ q.den * 10 ^ n := Nat.mul_le_mul_right _ (nm_leH h0 h1)
  have h4 : 2 * (unQ q n * q.den) ≤ (2 * 10 ^ n + 1) * q.den := by
    rw [Nat.add_mul, Nat.one_mul, Nat.mul_assoc, Nat.mul_comm (10 ^ n) q.den]
    unfold unQ
    omega
  rw [← Nat.mul_assoc] at h4
  have h5 := Nat.le_of_mul_le_mul_right h4 hd
  omega
theorem pow12 {n : Nat} (h : n ≤ 12) : 10 ^ n ≤ 1000000000000 := Nat.le_trans (Nat.pow_le_pow_right (by omega) h) (by decide)
theorem half_self (q : Rat) : (q + q) / ((2 : Int) : Rat) = q := by
  have h2 : ((2 : Int) : Rat) ≠ 0 := by decide
  rw [show q + q = q * ((2 : Int) : Rat) by
    rw [show ((2 : Int) : Rat) = 1 + 1 by decide +kernel]
    rw [Rat.mul_add, Rat.mul_one]]
  exact Rat.mul_div_cancel h2
theorem cr_fold (x : Rat) : (⟨ng x, limbs (nm x), limbs x.den⟩ : RR) = cr x := rfl
theorem tn_pos (n : Nat) : (tnQ n < 0) = False := eq_false (Rat.not_lt.2 (qv_nonneg _ _))
def d_dec_Fixed : Den := den2 aRat aInt (fun a n => a.sz ≤ 1000000000 ∧ 0 ≤ n ∧ n ≤ 12 ∧ 0 ≤ a.q ∧ a.q ≤ 1) fun a n => strV (fx (unQ a.q n.toNat) n.toNat)
attribute [go_sem] d_dec_Fixed
set_option maxRecDepth 100000 in
set_option maxHeartbeats 1000000 in
theorem s_dec_Fixed : Sound Tryz.prog 28 d_dec_Fixed := by
  refine sound2 (fz := nofz) (l := [(66, d_rat_Norm), (70, d_dec_held), (72, d_dec_Round), (71, d_dec_sign), (75, d_dec_units), (74, d_nat_Print), (73, d_dec_pointed)]) TT_ok ⟨s_rat_Norm, s_dec_held, s_dec_Round, s_dec_sign, s_dec_units, s_nat_Print, s_dec_pointed, trivial⟩ mixed Tryz.func28 Tryz.ntmps28 Tryz.results28 Tryz.call28 rfl (by omega) (fun _ _ => rfl) ?_
  intro a b hp ha hb
  obtain ⟨n, rfl⟩ := Int.eq_ofNat_of_zero_le hp.2.1
  have hx60 := held60 (n := n) (by omega)
  have hr : rs a.q ≤ 1000000000 := rs_ok ha hp.1 (by omega)
  have h4 := cr_sz' hr
  have hng : ng a.q = false := ng_nonneg hp.2.2.2.1
  have hU : halfEven (nm a.q * 10 ^ n) a.q.den = unQ a.q n := rfl
  have hfold : (⟨false, limbs (nm a.q), limbs a.q.den⟩ : RR) = cr a.q := by unfold cr; rw [hng]
  have hun := unQ_le hp.2.2.2.1 hp.2.2.2.2 n
  have h12 := pow12 (n := n) (by omega)
  have hng2 : ng (qv false (unQ a.q n) (10 ^ n)) = false := ng_nonneg (qv_nonneg _ _)
  have hul := limbs_len18 (n := unQ a.q n) (by omega)
  have hpt := ptL_low (unQ a.q n) n
  have hnd := nd_least 18 (unQ a.q n) (by omega) (by omega)
  have hnp := nd_pos (unQ a.q n)
  have hfl : (fx (unQ a.q n) n).length ≤ 40 := by
    rw [fx_len]
    unfold fxW
    split <;> omega
  rw [codeK_start]
  simp only [go_sem, Int.toNat_natCast, val_limbs, cr_s, cr_n, cr_d, cr_q, hx60, hng, hng2, hU, hpt, lit_e, List.length_reverse, low_len, List.nil_append, cr_fold, hfold, ↓reduceIte]
  all_goals ((try and_intros) <;> first | exact trivial | omega | exact a.q.den_nz | rfl | (show okDraw _ _ = true; kernel_rfl) | assumption)
def d_show_Dec : Den := den2 aBall aInt (fun b n => isB b = true ∧ b.hi.q = b.lo.q ∧ 0 ≤ b.lo.q ∧ b.lo.q ≤ 1 ∧ b.sz ≤ 300000 ∧ 0 ≤ n ∧ n ≤ 12) fun b n => .tup [.cel (.str (fx (unQ b.lo.q n.toNat) n.toNat)), .cel (.bool true)]
attribute [go_sem] d_show_Dec
set_option maxRecDepth 100000 in
set_option maxHeartbeats 1000000 in
theorem s_show_Dec : Sound Tryz.prog 8 d_show_Dec := by
  refine sound2 (fz := nofz) (l := [(20, d_show_held), (21, d_ball_Is), (23, d_ball_Width), (24, d_show_last), (22, d_rat_Cmp), (26, d_rat_Add), (27, d_rat_Int), (25, d_rat_Div), (28, d_dec_Fixed)]) TT_ok ⟨s_show_held, s_ball_Is, s_ball_Width, s_show_last, s_rat_Cmp, s_rat_Add, s_rat_Int, s_rat_Div, s_dec_Fixed, trivial⟩ mixed Tryz.func8 Tryz.ntmps8 Tryz.results8 Tryz.call8 rfl (by omega) (fun _ _ => rfl) ?_
  intro b d hp hb hd
  obtain ⟨n, rfl⟩ := Int.eq_ofNat_of_zero_le hp.2.2.2.2.2.1
  have hx30 := held30 (n := n) (by omega)
  have hB := hp.1
  have hQ := hp.2.1
  have hW : b.lo.q - b.lo.q = 0 := Rat.sub_self
  have hz : b.sz ≤ 300000 := hp.2.2.2.2.1
  have hz1 : b.lo.sz ≤ 300000 := Nat.le_trans (Nat.le_max_left _ _) hz
  have hz2 : b.hi.sz ≤ 300000 := Nat.le_trans (Nat.le_max_right _ _) hz
  have hr : rs b.lo.q ≤ 300000 := rs_ok hb.1 hz1 (by omega)
  have h4 := cr_sz' hr
  have h5 := rsb_add hr hr (Nat.le_refl _)
  have h6 := rsb_int (n := 2) (K := 2) (by omega) (by omega) (by omega)
  have h7 : rs (0 : Rat) ≤ 1 := rs0 (by omega)
  have h8 : rs (tnQ n) ≤ 1000000008 := rs_ten (U := 1) (by decide) (by omega)
  have h0 : 0 ≤ b.lo.q := hp.2.2.1
  have h1 : b.lo.q ≤ 1 := hp.2.2.2.1
  rw [codeK_start]
  simp only [go_sem, Int.toNat_natCast, cr_q, rr_q, hx30, hB, hQ, hW, tn_pos, half_self, lit_e, cr_fold, ↓reduceIte]
  all_goals ((try and_intros) <;> first | exact trivial | omega | rfl | (show okDraw _ _ = true; kernel_rfl) | assumption)
end Go.Proofs.YtocpmekblkfdiaaGreatDoor
namespace Go.Proofs.YtocpmekblkfdiaaGreatDoor
open Go.RowKit
set_option linter.unusedSimpArgs false
set_option linter.unusedVariables false
attribute [go_sem] d_nat_trim
theorem limbs_below {k : Nat} (h : k < 4294967296) : limbs k = [] ∧ k = 0 ∨ limbs k = [k] ∧ 0 < k := by
  rcases Nat.eq_zero_or_pos k with e | e
  · subst e
    exact .inl ⟨limbs_zero, rfl⟩
  · exact .inr ⟨limbs_small e h, e⟩
def toV (n : Nat) : AV := .tup [.cel (.int .u64 (n : Nat)), .cel (.bool true)]
attribute [go_sem] toV
theorem or_zero64 {k : Nat} (h : k < 4294967296) : bitsI .or .u64 0 ((k : Nat) : Int) = ((k : Nat) : Int) := by
  show IntKind.wrap .u64 (((BitVec.ofInt 64 0 ||| BitVec.ofInt 64 ((k : Nat) : Int)).toNat : Nat) : Int) = _
  rw [show BitVec.ofInt 64 0 = 0#64 from rfl, BitVec.zero_or, BitVec.ofInt_natCast, BitVec.toNat_ofNat, Nat.mod_eq_of_lt (by omega)]
  show (((k : Nat) : Int)) % _ = _
  exact Int.emod_eq_of_lt (by omega) (by simp [IntKind.bits]; omega)
theorem shl_zero64 {k : Nat} (h : k < 4294967296) : shiftII .shl .u64 ((k : Nat) : Int) 0 = (True, CV.int .u64 ((k : Nat) : Int)) := by
  have e : IntKind.wrap .u64 (((k : Nat) : Int) * 2 ^ (min (0 : Int).toNat 64)) = k := by
    rw [show (min (0 : Int).toNat 64) = 0 from rfl, Int.pow_zero, Int.mul_one, IntKind.wrap_u64]; omega
  have e2 : shiftII .shl .u64 ((k : Nat) : Int) 0 = ((0 : Int) ≤ 0, CV.int .u64 (IntKind.wrap .u64 (((k : Nat) : Int) * 2 ^ (min (0 : Int).toNat 64)))) := rfl
  rw [e2, e]; simp
def d_nat_To : Den := den1 aLim (fun a => a.length ≤ 8000000000000 ∧ val a < 4294967296) fun a => toV (val a)
attribute [go_sem] d_nat_To
set_option maxRecDepth 100000 in
set_option maxHeartbeats 1000000 in
theorem s_nat_To : Sound Tryz.prog 113 d_nat_To := by
  refine sound1 (fz := nofz) (l := [(121, d_nat_trim)]) TT_ok ⟨s_nat_trim, trivial⟩ mixed Tryz.func113 Tryz.ntmps113 Tryz.results113 Tryz.call113 rfl (by omega) (fun _ => rfl) ?_
  intro a hp ha
  rw [codeK_start]
  simp only [go_sem, ↓reduceIte]
  have hL := limbs_below hp.2
  have h2 : (2 < (((limbs (val a)).length : Nat) : Int)) = False := by
    rcases hL with ⟨h, _⟩ | ⟨h, _⟩ <;> rw [h] <;> simp
  simp only [h2, decide_false, go_sem, Nat.reduceBEq, Nat.reduceBNe, Nat.reduceLT, Nat.reduceLeDiff, Nat.reduceAdd, Nat.reduceSub, Nat.reduceMul, Nat.reduceEqDiff, Int.reduceNeg, Int.reduceAdd, Int.reduceLT, Int.reduceLE, Int.reduceToNat, ↓reduceIte]
  refine ⟨hp.1, ?_⟩
  refine codeK_loop (fun i : { i : Nat // i ≤ (limbs (val a)).length } => [(14, 0, .av (intV ((i.1 : Nat)))), (13, 0, .av (intV (((limbs (val a)).length : Nat)))), (12, 0, .av (.one (.cel (.lim none (limbs (val a)))))), (4, 0, .av (.one (.cel (.int .u64 (if i.1 = 0 then 0 else ((val a : Nat) : Int))))))]) (fun i => (limbs (val a)).length - i.1) ⟨0, by omega⟩ (le_of ?_) ?_
  · simp only [go_sem, leL, ↓reduceIte]
    rfl
  · rintro ⟨i, hi0⟩
    have hi0 : i ≤ (limbs (val a)).length := hi0
    by_cases hi : i < (limbs (val a)).length
    · have hL1 : limbs (val a) = [val a] := by
        rcases hL with ⟨h, _⟩ | ⟨h, _⟩
        · rw [h] at hi; exact absurd hi (by simp)
        · exact h
      have hi1 : i < 1 := by rw [hL1] at hi; exact hi
      have e0 : i = 0 := by omega
      subst e0
      have hw : IntKind.wrap .u64 ((val a : Nat) : Int) = val a := by rw [IntKind.wrap_u64]; omega
      have hsh := shl_zero64 hp.2
      have hor := or_zero64 hp.2
      simp only [hL1, go_sem, d_nat_trim, Int.natCast_zero, Int.natCast_one, Int.ofNat_zero, Int.cast_ofNat_Int, Int.mul_zero, Int.zero_add, hw, hsh, hor, decide_true, if_true, Nat.reduceBEq, Nat.reduceBNe, Nat.reduceLT, Nat.reduceLeDiff, Nat.reduceAdd, Nat.reduceSub, Nat.reduceMul, Nat.reduceEqDiff, Int.reduceNeg, Int.reduceAdd, Int.reduceLT, Int.reduceLE, Int.reduceToNat, ↓reduceIte]
      and_intros
      all_goals try (first | exact trivial | omega)
      refine ⟨⟨1, by omega⟩, by show 1 - 1 < 1 - 0; omega, le_of ?_⟩
      simp only [go_sem, leL, ↓reduceIte]
      try rfl
    · have hit : (((i : Nat) : Int) < (((limbs (val a)).length : Nat) : Int)) = False := eq_false (by omega)
      simp only [hit, go_sem, decide_false, Nat.reduceBEq, Nat.reduceBNe, Nat.reduceLT, Nat.reduceLeDiff, Nat.reduceAdd, Nat.reduceSub, Nat.reduceMul, Nat.reduceEqDiff, Int.reduceNeg, Int.reduceAdd, Int.reduceLT, Int.reduceLE, Int.reduceToNat, ↓reduceIte]
      rcases hL with ⟨h1, h2⟩ | ⟨h1, h2⟩
      · split
        · omega
        · rfl
      · rw [h1] at hi
        rw [if_neg (by simp at hi; omega)]
end Go.Proofs.YtocpmekblkfdiaaGreatDoor
