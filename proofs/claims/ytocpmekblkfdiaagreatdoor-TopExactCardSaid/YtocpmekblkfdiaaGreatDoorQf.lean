/- vernierref3.run, ten, vernierref1.Parse, vernierref20.Hold, Ten, digits, by the abstract walk. Conditions: short texts; at most 60 digits. vernierref3.Parse of a decimal, vernierref20.Near, by the abstract walk. Conditions: a decimal of at most twelve digits behind the point, as it is told. -/
import Derived.Test.YtocpmekblkfdiaaGreatDoorQd
import Derived.Test.YtocpmekblkfdiaaGreatDoorBj
import Derived.Test.YtocpmekblkfdiaaGreatDoorAu
import Derived.Test.YtocpmekblkfdiaaGreatDoorAx
namespace Go.Proofs.YtocpmekblkfdiaaGreatDoor
open Go.RowKit
set_option linter.unusedSimpArgs false
set_option linter.unusedVariables false
attribute [go_sem] d_ref1_Add d_ref1_Mul d_ref2_Of
theorem runN_stop {l : List Nat} {i : Nat} (h : ∀ x ∈ l.take i, isD x = true) (hi : i ≤ l.length) (he : i = l.length ∨ isD (l.getD i 0) = false) : runN l = i := by
  rw [runN_drop l i h hi]
  rcases he with e | e
  · rw [e, List.drop_length]; rfl
  · rcases Nat.lt_or_ge i l.length with hl | hl
    · rw [List.drop_eq_getElem_cons hl, runN]
      rw [List.getD_eq_getElem?_getD, List.getElem?_eq_getElem hl] at e
      rw [if_neg (by simpa using e)]
      rfl
    · rw [List.drop_eq_nil_of_le hl]; rfl
theorem take_dig {l : List Nat} {i : Nat} (h : ∀ x ∈ l.take i, isD x = true) (hl : i < l.length) (hd : isD (l.getD i 0) = true) : ∀ x ∈ l.take (i + 1), isD x = true := by
  intro x hx
  rw [List.take_add_one, List.getElem?_eq_getElem hl, Option.toList_some] at hx
  rcases List.mem_append.1 hx with hx | hx
  · exact h x hx
  · rw [List.mem_singleton.1 hx]
    rw [List.getD_eq_getElem?_getD, List.getElem?_eq_getElem hl] at hd
    exact hd
theorem isD_no {c : Nat} (h : ¬ 48 ≤ c ∨ ¬ c ≤ 57) : isD c = false := by
  unfold isD
  rcases h with h | h
  · rw [decide_eq_false h]; rfl
  · rw [decide_eq_false h, Bool.and_false]
def d_ref3_run : Den := den1 aStr (fun l => l.length ≤ 1000) fun l => intV (runN l)
attribute [go_sem] d_ref3_run
set_option maxRecDepth 100000 in
set_option maxHeartbeats 1000000 in
theorem s_ref3_run : Sound Tryz.prog 76 d_ref3_run := by
  refine sound1 (fz := nofz) (l := []) TT_ok trivial mixed Tryz.func76 Tryz.ntmps76 Tryz.results76 Tryz.call76 rfl (by omega) (fun _ => rfl) ?_
  intro l hp hl
  rw [codeK_start]
  simp only [go_sem, ↓reduceIte]
  refine codeK_loop (fun i : { i : Nat // i ≤ l.length ∧ ∀ x ∈ l.take i, isD x = true } => [(3, 0, .av (intV ((i.1 : Nat)))), (0, 0, .av (.one (.cel (.str l))))]) (fun i => l.length - i.1) ⟨0, by omega, by simp⟩ (le_of ?_) ?_
  · simp only [go_sem, leL, Int.natCast_zero, ↓reduceIte]
    try trivial
  · rintro ⟨i, hi0, hd⟩
    have hi0 : i ≤ l.length := hi0
    by_cases hi : i < l.length
    · have x1 : (((i : Nat) : Int) < ((l.length : Nat) : Int)) = True := eq_true (by omega)
      by_cases c1 : 48 ≤ l.getD i 0
      · have x2 : ((48 : Int) ≤ ((l.getD i 0 : Nat) : Int)) = True := eq_true (by omega)
        by_cases c2 : l.getD i 0 ≤ 57
        · have x3 : (((l.getD i 0 : Nat) : Int) ≤ 57) = True := eq_true (by omega)
          have hn := take_dig hd hi (isD_iff.2 ⟨c1, c2⟩)
          simp only [go_sem, x1, x2, x3, Int.toNat_natCast, ↓reduceIte]
          and_intros
          all_goals first | exact trivial | omega | skip
          refine ⟨⟨i + 1, hi, hn⟩, by show l.length - (i + 1) < l.length - i; omega, le_of ?_⟩
          simp only [go_sem, leL, ↓reduceIte]
          try omega
        · have x3 : (((l.getD i 0 : Nat) : Int) ≤ 57) = False := eq_false (by omega)
          have hs := runN_stop hd hi0 (.inr (isD_no (.inr c2)))
          simp only [go_sem, x1, x2, x3, hs, Int.toNat_natCast, ↓reduceIte]
          all_goals ((try and_intros) <;> first | exact trivial | omega | rfl)
      · have x2 : ((48 : Int) ≤ ((l.getD i 0 : Nat) : Int)) = False := eq_false (by omega)
        have hs := runN_stop hd hi0 (.inr (isD_no (.inl c1)))
        simp only [go_sem, x1, x2, hs, Int.toNat_natCast, ↓reduceIte]
        all_goals ((try and_intros) <;> first | exact trivial | omega | rfl)
    · have x1 : (((i : Nat) : Int) < ((l.length : Nat) : Int)) = False := eq_false (by omega)
      have hs := runN_stop hd hi0 (.inl (by omega))
      simp only [go_sem, x1, hs, Int.toNat_natCast, ↓reduceIte]
      all_goals ((try and_intros) <;> first | exact trivial | omega | rfl)
theorem rvle_nil : RVle (.av (.one (.cel .nil))) (.av (.one (.cel (.lim none [])))) := fun B g who a w n k h =>
  ⟨h.1, h.2.1, CV.fit_G (x := .nil) (y := .lim none []) rfl h.2.2⟩
theorem vl1 (n : Nat) : val [n] = n := by simp [val]
theorem limbs_one1 : limbs 1 = [1] := by decide +kernel
def d_ref1_Parse : Den := den1 aStr (fun l => 1 ≤ l.length ∧ l.length ≤ 30 ∧ ∀ x ∈ l, 48 ≤ x ∧ x ≤ 57) fun l => natOkV (numL l) true
attribute [go_sem] d_ref1_Parse
set_option maxRecDepth 100000 in
set_option maxHeartbeats 1000000 in
theorem s_ref1_Parse : Sound Tryz.prog 77 d_ref1_Parse := by
  refine sound1 (fz := nofz) (l := [(59, d_ref1_Mul), (19, d_ref1_Add)]) TT_ok ⟨s_ref1_Mul, s_ref1_Add, trivial⟩ mixed Tryz.func77 Tryz.ntmps77 Tryz.results77 Tryz.call77 rfl (by omega) (fun _ => rfl) ?_
  intro l hp hl
  have y1 : (((l.length : Nat) : Int) < 1) = False := eq_false (by omega)
  have y2 : (400 < ((l.length : Nat) : Int)) = False := eq_false (by omega)
  rw [codeK_start]
  simp only [go_sem, natOkV, y1, y2, ↓reduceIte]
  refine codeK_loop (fun i : { i : Nat // i ≤ l.length } => [(5, 0, .av (intV ((i.1 : Nat)))), (0, 0, .av (.one (.cel (.str l)))), (4, 0, .av (.one (.cel (.lim none (limbs (numL (l.take i.1)))))))]) (fun i => l.length - i.1) ⟨0, by omega⟩ (le_ofW ?_) ?_
  · refine ⟨⟨_, rfl, RVle.refl _⟩, ⟨_, rfl, RVle.refl _⟩, ⟨_, rfl, ?_⟩, trivial⟩
    exact rvle_nil
  · rintro ⟨i, hi0⟩
    have hi0 : i ≤ l.length := hi0
    by_cases hi : i < l.length
    · have x1 : (((i : Nat) : Int) < ((l.length : Nat) : Int)) = True := eq_true (by omega)
      have hc := hp.2.2 (l.getD i 0) (getD_mem hi)
      have x2 : (((l.getD i 0 : Nat) : Int) < 48) = False := eq_false (by omega)
      have x3 : ((57 : Int) < ((l.getD i 0 : Nat) : Int)) = False := eq_false (by omega)
      have w1 : IntKind.wrap .u8 (((l.getD i 0 : Nat) : Int) - 48) = ((l.getD i 0 - 48 : Nat) : Int) := by rw [IntKind.wrap_u8]; omega
      have w2 : IntKind.wrap .u32 ((l.getD i 0 - 48 : Nat) : Int) = ((l.getD i 0 - 48 : Nat) : Int) := by rw [IntKind.wrap_u32]; omega
      have hnx := numL_take hi
      have hlt := numL_lt (l := l.take i) (fun x hx => hp.2.2 x (List.mem_of_mem_take hx))
      have hpw : 10 ^ (l.take i).length ≤ 10 ^ 30 := Nat.pow_le_pow_right (by omega) (by rw [List.length_take]; omega)
      have hl1 : (limbs (numL (l.take i))).length ≤ 4 := limbs_len_le (Nat.lt_of_lt_of_le hlt (Nat.le_trans hpw (by decide)))
      have hl2 := limbs_len_mul (numL (l.take i)) 10
      have hl3 : (limbs 10).length = 1 := by decide
      simp only [go_sem, x1, x2, x3, w1, w2, vl1, val_limbs, Int.toNat_natCast, ↓reduceIte]
      and_intros
      all_goals first | exact trivial | omega | (show okDraw _ _ = true; kernel_rfl) | skip
      refine ⟨⟨i + 1, hi⟩, by show l.length - (i + 1) < l.length - i; omega, le_of ?_⟩
      simp only [go_sem, leL, hnx, ↓reduceIte]
      try omega
    · have x1 : (((i : Nat) : Int) < ((l.length : Nat) : Int)) = False := eq_false (by omega)
      have he : i = l.length := by omega
      subst he
      simp only [go_sem, x1, List.take_length, natOkV, ↓reduceIte]
      all_goals ((try and_intros) <;> first | exact trivial | omega | rfl)
def d_ref3_ten : Den := den1 aInt (fun n => 0 ≤ n ∧ n ≤ 60) fun n => natV (10 ^ n.toNat)
attribute [go_sem] d_ref3_ten
set_option maxRecDepth 100000 in
set_option maxHeartbeats 1000000 in
theorem s_ref3_ten : Sound Tryz.prog 78 d_ref3_ten := by
  refine sound1 (fz := nofz) (l := [(59, d_ref1_Mul)]) TT_ok ⟨s_ref1_Mul, trivial⟩ mixed Tryz.func78 Tryz.ntmps78 Tryz.results78 Tryz.call78 rfl (by omega) (fun _ => rfl) ?_
  intro a hp ha
  obtain ⟨n, rfl⟩ := Int.eq_ofNat_of_zero_le hp.1
  rw [codeK_start]
  simp only [go_sem, Int.toNat_natCast, ↓reduceIte]
  refine codeK_loop (fun i : { i : Nat // i ≤ n } => [(4, 0, .av (intV ((i.1 : Nat)))), (0, 0, .av (intV ((n : Nat)))), (3, 0, .av (.one (.cel (.lim none (limbs (10 ^ i.1))))))]) (fun i => n - i.1) ⟨0, by omega⟩ (le_of ?_) ?_
  · simp only [go_sem, leL, Nat.pow_zero, limbs_one1, Int.natCast_zero, ↓reduceIte]
    try and_intros
    all_goals first | trivial | rfl
  · rintro ⟨i, hi0⟩
    have hi0 : i ≤ n := hi0
    have hl := ten_len (i := i) (by omega)
    by_cases hi : i < n
    · have x1 : (((i : Nat) : Int) < ((n : Nat) : Int)) = True := eq_true (by omega)
      simp only [go_sem, x1, vl1, val_limbs, ten_next, Int.toNat_natCast, ↓reduceIte]
      and_intros
      all_goals first | exact trivial | omega | (show okDraw _ _ = true; kernel_rfl) | skip
      refine ⟨⟨i + 1, hi⟩, by show n - (i + 1) < n - i; omega, le_of ?_⟩
      simp only [go_sem, leL, ↓reduceIte]
      try omega
    · have e : i = n := by omega
      subst e
      simp only [go_sem, Int.lt_irrefl, vl1, val_limbs, Int.toNat_natCast, ↓reduceIte]
      all_goals ((try and_intros) <;> first | exact trivial | omega | rfl | (show okDraw _ _ = true; kernel_rfl))
def d_ref20_Hold : Den := den1 aInt (fun _ => True) fun n => intV (min (max n 0) 30)
attribute [go_sem] d_ref20_Hold
set_option maxRecDepth 100000 in
set_option maxHeartbeats 1000000 in
theorem s_ref20_Hold : Sound Tryz.prog 29 d_ref20_Hold := by
  refine sound1 (fz := nofz) (l := []) TT_ok trivial mixed Tryz.func29 Tryz.ntmps29 Tryz.results29 Tryz.call29 rfl (by omega) (fun _ => rfl) ?_
  intro a hp ha
  rw [codeK_start]
  simp only [go_sem, ↓reduceIte]
  try trivial
def d_ref20_Ten : Den := den1 aInt (fun n => 0 ≤ n ∧ n ≤ 60) fun n => ratV (cr (tnQ n.toNat))
attribute [go_sem] d_ref20_Ten
set_option maxRecDepth 100000 in
set_option maxHeartbeats 1000000 in
theorem s_ref20_Ten : Sound Tryz.prog 32 d_ref20_Ten := by
  refine sound1 (fz := nofz) (l := [(59, d_ref1_Mul), (13, d_ref2_Of)]) TT_ok ⟨s_ref1_Mul, s_ref2_Of, trivial⟩ mixed Tryz.func32 Tryz.ntmps32 Tryz.results32 Tryz.call32 rfl (by omega) (fun _ => rfl) ?_
  intro a hp ha
  obtain ⟨n, rfl⟩ := Int.eq_ofNat_of_zero_le hp.1
  rw [codeK_start]
  simp only [go_sem, Int.toNat_natCast, ↓reduceIte]
  refine codeK_loop (fun i : { i : Nat // i ≤ n } => [(4, 0, .av (intV ((i.1 : Nat)))), (0, 0, .av (intV ((n : Nat)))), (3, 0, .av (.one (.cel (.lim none (limbs (10 ^ i.1)))))), (2, 0, .av (.one (.cel (.ptr 2 0)))), (2, 1, .cv (.bool false)), (2, 2, .cv .nil), (2, 3, .cv .nil)]) (fun i => n - i.1) ⟨0, by omega⟩ (le_of ?_) ?_
  · simp only [go_sem, leL, Nat.pow_zero, limbs_one1, Int.natCast_zero, ↓reduceIte]
    try and_intros
    all_goals first | trivial | rfl
  · rintro ⟨i, hi0⟩
    have hi0 : i ≤ n := hi0
    have hl := ten_len (i := i) (by omega)
    by_cases hi : i < n
    · have x1 : (((i : Nat) : Int) < ((n : Nat) : Int)) = True := eq_true (by omega)
      simp only [go_sem, x1, vl1, val_limbs, ten_next, Int.toNat_natCast, ↓reduceIte]
      and_intros
      all_goals first | exact trivial | omega | (show okDraw _ _ = true; kernel_rfl) | skip
      refine ⟨⟨i + 1, hi⟩, by show n - (i + 1) < n - i; omega, le_of ?_⟩
      simp only [go_sem, leL, ↓reduceIte]
      try omega
    · have e : i = n := by omega
      subst e
      simp only [go_sem, Int.lt_irrefl, vl1, val_limbs, Int.toNat_natCast, ↓reduceIte]
      all_goals ((try and_intros) <;> first | exact trivial | omega | rfl | (show okDraw _ _ = true; kernel_rfl))
def atI (l : List Nat) (i : Nat) : Int := atDot (l.take i) 0 (-1)
theorem atI_next {l : List Nat} {i : Nat} (h : i < l.length) : atI l (i + 1) = if l.getD i 0 = 46 then (i : Int) else atI l i := by
  unfold atI
  rw [List.take_add_one, List.getElem?_eq_getElem h, Option.toList_some, atDot_app, atDot, atDot, List.length_take, Nat.min_eq_left (by omega), List.getD_eq_getElem?_getD, List.getElem?_eq_getElem h]
  simp
theorem atI_le (l : List Nat) : ∀ i, i ≤ l.length → -1 ≤ atI l i ∧ atI l i ≤ i
  | 0, _ => by simp [atI, atDot]
  | i + 1, h => by
    have := atI_le l i (by omega)
    rw [atI_next (by omega)]
    split <;> omega
theorem atI_all (l : List Nat) : atI l l.length = atDot l 0 (-1) := by unfold atI; rw [List.take_length]
def digB (l : List Nat) (n : Nat) : Bool := if n = 0 then decide (atDot l 0 (-1) < 0) else (decide (0 ≤ atDot l 0 (-1)) && decide ((l.length : Int) - atDot l 0 (-1) - 1 = n))
def d_ref20_digits : Den := den2 aStr aInt (fun l n => l.length ≤ 1000 ∧ (∀ x ∈ l, x ≠ 47) ∧ 0 ≤ n ∧ n ≤ 60) fun l n => boolV (digB l n.toNat)
attribute [go_sem] d_ref20_digits
set_option maxRecDepth 100000 in
set_option maxHeartbeats 1000000 in
theorem s_ref20_digits : Sound Tryz.prog 31 d_ref20_digits := by
  refine sound2 (fz := nofz) (l := []) TT_ok trivial mixed Tryz.func31 Tryz.ntmps31 Tryz.results31 Tryz.call31 rfl (by omega) (fun _ _ => rfl) ?_
  intro l b hp hl hb
  obtain ⟨n, rfl⟩ := Int.eq_ofNat_of_zero_le hp.2.2.1
  rw [codeK_start]
  simp only [go_sem, Int.toNat_natCast, ↓reduceIte]
  refine codeK_loop (fun i : { i : Nat // i ≤ l.length } => [(6, 0, .av (intV ((i.1 : Nat)))), (5, 0, .av (intV (atI l i.1))), (0, 0, .av (.one (.cel (.str l)))), (1, 0, .av (intV ((n : Nat))))]) (fun i => l.length - i.1) ⟨0, by omega⟩ (le_of ?_) ?_
  · simp only [go_sem, leL, Int.natCast_zero, ↓reduceIte]
    try and_intros
    all_goals first | trivial | rfl
  · rintro ⟨i, hi0⟩
    have hi0 : i ≤ l.length := hi0
    by_cases hi : i < l.length
    · have x1 : (((i : Nat) : Int) < ((l.length : Nat) : Int)) = True := eq_true (by omega)
      have hc := hp.2.1 (l.getD i 0) (getD_mem hi)
      have x2 : (((l.getD i 0 : Nat) : Int) = 47) = False := eq_false (by omega)
      have hnx := atI_next hi
      by_cases c1 : l.getD i 0 = 46
      · have x3 : (((l.getD i 0 : Nat) : Int) = 46) = True := eq_true (by omega)
        rw [if_pos c1] at hnx
        simp only [go_sem, x1, x2, x3, Int.toNat_natCast, ↓reduceIte]
        and_intros
        all_goals first | exact trivial | omega | (show okDraw _ _ = true; kernel_rfl) | skip
        refine ⟨⟨i + 1, hi⟩, by show l.length - (i + 1) < l.length - i; omega, le_of ?_⟩
        simp only [go_sem, leL, hnx, ↓reduceIte]
        try omega
      · have x3 : (((l.getD i 0 : Nat) : Int) = 46) = False := eq_false (by omega)
        rw [if_neg c1] at hnx
        simp only [go_sem, x1, x2, x3, Int.toNat_natCast, ↓reduceIte]
        and_intros
        all_goals first | exact trivial | omega | (show okDraw _ _ = true; kernel_rfl) | skip
        refine ⟨⟨i + 1, hi⟩, by show l.length - (i + 1) < l.length - i; omega, le_of ?_⟩
        simp only [go_sem, leL, hnx, ↓reduceIte]
        try omega
    · have x1 : (((i : Nat) : Int) < ((l.length : Nat) : Int)) = False := eq_false (by omega)
      have he : i = l.length := by omega
      subst he
      have hb := atI_le l l.length (by omega)
      have ha := atI_all l
      unfold digB
      by_cases c1 : n = 0
      · have x2 : (((n : Nat) : Int) = 0) = True := eq_true (by omega)
        rw [if_pos c1, ← ha]
        simp only [go_sem, x1, x2, ↓reduceIte]
        all_goals ((try and_intros) <;> first | exact trivial | omega | rfl)
      · have x2 : (((n : Nat) : Int) = 0) = False := eq_false (by omega)
        rw [if_neg c1, ← ha]
        by_cases c2 : 0 ≤ atI l l.length
        · have x3 := eq_true c2
          simp only [go_sem, x1, x2, x3, Int.toNat_natCast, ↓reduceIte]
          all_goals ((try and_intros) <;> first | exact trivial | omega | rfl)
        · have x3 := eq_false c2
          simp only [go_sem, x1, x2, x3, Int.toNat_natCast, ↓reduceIte]
          all_goals ((try and_intros) <;> first | exact trivial | omega | rfl)
end Go.Proofs.YtocpmekblkfdiaaGreatDoor
namespace Go.Proofs.YtocpmekblkfdiaaGreatDoor
open Go.RowKit
set_option linter.unusedSimpArgs false
set_option linter.unusedVariables false
attribute [go_sem] d_ref1_Add d_ref1_Mul d_ref1_Parse d_ref20_Hold d_ref20_Ten d_ref20_digits d_ref2_Cmp d_ref2_Int d_ref2_Of d_ref2_Sub d_ref3_run d_ref3_ten
/-- what a decimal says -/
def parseQ (l : List Nat) : Rat := if l.length = runN l then qv false (numL l) 1 else qv false (numL (l.take (runN l)) * 10 ^ (l.length - runN l - 1) + numL (l.drop (runN l + 1))) (10 ^ (l.length - runN l - 1))
theorem parse_fx (u n : Nat) : parseQ (fx u n) = qv false u (10 ^ n) := by
  unfold parseQ
  rw [fx_run, fx_len]
  by_cases h : n = 0
  · subst h
    rw [if_pos rfl, Nat.add_zero, if_pos rfl]
    have e : numL (fx u 0) = u := by
      have h1 := fx_whole u 0
      rw [List.take_of_length_le (by rw [fx_len, if_pos rfl]; omega), Nat.pow_zero, Nat.div_one] at h1
      exact h1
    rw [e, Nat.pow_zero]
  · rw [if_neg h, if_neg (by omega), fx_whole]
    have e1 : fxW u n + (n + 1) - fxW u n - 1 = n := by omega
    have e2 : (fx u n).drop (fxW u n + 1) = (low n u).reverse := by
      have h1 : (fx u n).drop (fxW u n + 1) = ((fx u n).drop (fxW u n)).drop 1 := by rw [List.drop_drop]
      rw [h1, fx_drop, if_neg h]
      rfl
    rw [e1, e2, numL_low]
    have e3 : u / 10 ^ n * 10 ^ n + u % 10 ^ n = u := by rw [Nat.mul_comm]; exact Nat.div_add_mod u (10 ^ n)
    rw [e3]
def isFx (l : List Nat) : Prop := ∃ u n, n ≤ 12 ∧ u ≤ 1000000000000 ∧ l = fx u n
def d_ref3_Parse : Den := den1 aStr isFx fun l => .tup [.agg (ratCells (cr (parseQ l))), .cel (.int .i64 0)]
attribute [go_sem] d_ref3_Parse
set_option maxRecDepth 100000 in
set_option maxHeartbeats 1000000 in
theorem s_ref3_Parse : Sound Tryz.prog 30 d_ref3_Parse := by
  refine sound1 (fz := nofz) (l := [(5, d_ref2_Int), (76, d_ref3_run), (77, d_ref1_Parse), (13, d_ref2_Of), (78, d_ref3_ten), (59, d_ref1_Mul), (19, d_ref1_Add)]) TT_ok ⟨s_ref2_Int, s_ref3_run, s_ref1_Parse, s_ref2_Of, s_ref3_ten, s_ref1_Mul, s_ref1_Add, trivial⟩ mixed Tryz.func30 Tryz.ntmps30 Tryz.results30 Tryz.call30 rfl (by omega) (fun _ => rfl) ?_
  intro l hp hl
  obtain ⟨u, n, hn, hu, rfl⟩ := hp
  rw [parse_fx]
  have hW := fxW_pos u n
  have hnd : nd u ≤ 13 := nd_least 13 u (by omega) (by omega)
  have hW2 : fxW u n ≤ 13 := by unfold fxW; omega
  have hlen := fx_len u n
  have l0 : (400 < (((fx u n).length : Nat) : Int)) = False := eq_false (by rw [hlen]; split <;> omega)
  have l1 : (fx u n = []) = False := eq_false (fun h => by rw [h] at hlen; simp at hlen; omega)
  have hat : 48 ≤ (fx u n).getD 0 0 := by
    have h1 : 0 < (fx u n).length := by rw [hlen]; omega
    have h2 := runN_take (fx u n) ((fx u n).getD 0 0)
    rw [fx_run] at h2
    have h3 : (fx u n).getD 0 0 ∈ (fx u n).take (fxW u n) := by
      rw [List.getD_eq_getElem?_getD, List.getElem?_eq_getElem h1]
      refine List.mem_of_getElem? (i := 0) ?_
      rw [List.getElem?_take, if_pos (by omega), List.getElem?_eq_getElem h1]
      rfl
    exact (isD_iff.1 (h2 h3)).1
  have l2 : ((((fx u n).getD 0 0 : Nat) : Int) = 45) = False := eq_false (by omega)
  have l3 : (((fxW u n : Nat) : Int) = 0) = False := eq_false (by omega)
  have r1 := fx_run u n
  have n1 := fx_whole u n
  have n2 := fx_take u n
  have hlp : 0 < (fx u n).length := by rw [hlen]; omega
  have hle : fxW u n ≤ (fx u n).length := by rw [hlen]; omega
  have hll : (fx u n).length ≤ 30 := by rw [hlen]; split <;> omega
  have ha1 : ((fx u n).take (fxW u n)).length = fxW u n := by rw [List.length_take]; omega
  have ha2 : ∀ x ∈ (fx u n).take (fxW u n), 48 ≤ x ∧ x ≤ 57 := fun x hx => by rw [n2] at hx; exact rev_dig x hx
  have ha3 := eq_true ha2
  have hdiv : u / 10 ^ n ≤ u := Nat.div_le_self _ _
  have hlq : (limbs (u / 10 ^ n)).length ≤ 2 := limbs_len_le (by omega)
  have hm3 : (limbs u).length ≤ 2 := limbs_len_le (by omega)
  rw [codeK_start]
  by_cases h0 : n = 0
  · subst h0
    refine cut_seq fun C0 hC0 => ?_
    simp only [go_sem, l0, l1, l2, l3, r1, lit_e, vl1, val_limbs, natOkV, Int.toNat_natCast, List.take_length, fx_drop, n1, ha1, ha3, Int.cast_ofNat_Int, Nat.pow_zero, Nat.div_one, ↓reduceIte]
    all_goals try and_intros
    all_goals try (first | exact trivial | omega | (show okDraw _ _ = true; kernel_rfl) | assumption | rfl)
    subst hC0
    refine cut_seq fun C1 hC1 => ?_
    rw [codeK_seq]
    refine cut_seq fun C2 hC2 => ?_
    simp only [go_sem, l0, l1, l2, l3, r1, lit_e, vl1, val_limbs, natOkV, Int.toNat_natCast, List.take_length, fx_drop, n1, ha1, ha3, Int.cast_ofNat_Int, Nat.pow_zero, Nat.div_one, ↓reduceIte]
    all_goals try and_intros
    all_goals try (first | exact trivial | omega | (show okDraw _ _ = true; kernel_rfl) | assumption | rfl)
    subst hC2
    refine cut_cond fun X3 hX3 Y3 hY3 => ?_
    simp only [go_sem, l0, l1, l2, l3, r1, lit_e, vl1, val_limbs, natOkV, Int.toNat_natCast, List.take_length, fx_drop, n1, ha1, ha3, Int.cast_ofNat_Int, Nat.pow_zero, Nat.div_one, ↓reduceIte]
    all_goals try and_intros
    all_goals try (first | exact trivial | omega | (show okDraw _ _ = true; kernel_rfl) | assumption | rfl)
    clear hX3
    subst hY3
    simp only [go_sem, l0, l1, l2, l3, r1, lit_e, vl1, val_limbs, natOkV, Int.toNat_natCast, List.take_length, fx_drop, n1, ha1, ha3, Int.cast_ofNat_Int, Nat.pow_zero, Nat.div_one, ↓reduceIte]
    all_goals try and_intros
    all_goals try (first | exact trivial | omega | (show okDraw _ _ = true; kernel_rfl) | assumption | rfl)
    subst hC1
    refine cut_seq fun C4 hC4 => ?_
    simp only [go_sem, l0, l1, l2, l3, r1, lit_e, vl1, val_limbs, natOkV, Int.toNat_natCast, List.take_length, fx_drop, n1, ha1, ha3, Int.cast_ofNat_Int, Nat.pow_zero, Nat.div_one, ↓reduceIte]
    all_goals try and_intros
    all_goals try (first | exact trivial | omega | (show okDraw _ _ = true; kernel_rfl) | assumption | rfl)
    subst hC4
    refine cut_seq fun C5 hC5 => ?_
    rw [codeK_seq]
    refine cut_seq fun C6 hC6 => ?_
    simp only [go_sem, l0, l1, l2, l3, r1, lit_e, vl1, val_limbs, natOkV, Int.toNat_natCast, List.take_length, fx_drop, n1, ha1, ha3, Int.cast_ofNat_Int, Nat.pow_zero, Nat.div_one, ↓reduceIte]
    all_goals try and_intros
    all_goals try (first | exact trivial | omega | (show okDraw _ _ = true; kernel_rfl) | assumption | rfl)
    subst hC6
    refine cut_cond fun X7 hX7 Y7 hY7 => ?_
    simp only [go_sem, l0, l1, l2, l3, r1, lit_e, vl1, val_limbs, natOkV, Int.toNat_natCast, List.take_length, fx_drop, n1, ha1, ha3, Int.cast_ofNat_Int, Nat.pow_zero, Nat.div_one, ↓reduceIte]
    all_goals try and_intros
    all_goals try (first | exact trivial | omega | (show okDraw _ _ = true; kernel_rfl) | assumption | rfl)
    clear hX7
    subst hY7
    simp only [go_sem, l0, l1, l2, l3, r1, lit_e, vl1, val_limbs, natOkV, Int.toNat_natCast, List.take_length, fx_drop, n1, ha1, ha3, Int.cast_ofNat_Int, Nat.pow_zero, Nat.div_one, ↓reduceIte]
    all_goals try and_intros
    all_goals try (first | exact trivial | omega | (show okDraw _ _ = true; kernel_rfl) | assumption | rfl)
    subst hC5
    refine cut_seq fun C8 hC8 => ?_
    simp only [go_sem, l0, l1, l2, l3, r1, lit_e, vl1, val_limbs, natOkV, Int.toNat_natCast, List.take_length, fx_drop, n1, ha1, ha3, Int.cast_ofNat_Int, Nat.pow_zero, Nat.div_one, ↓reduceIte]
    all_goals try and_intros
    all_goals try (first | exact trivial | omega | (show okDraw _ _ = true; kernel_rfl) | assumption | rfl)
    subst hC8
    refine cut_seq fun C9 hC9 => ?_
    simp only [go_sem, l0, l1, l2, l3, r1, lit_e, vl1, val_limbs, natOkV, Int.toNat_natCast, List.take_length, fx_drop, n1, ha1, ha3, Int.cast_ofNat_Int, Nat.pow_zero, Nat.div_one, ↓reduceIte]
    all_goals try and_intros
    all_goals try (first | exact trivial | omega | (show okDraw _ _ = true; kernel_rfl) | assumption | rfl)
    subst hC9
    refine cut_seq fun C10 hC10 => ?_
    rw [codeK_seq]
    refine cut_seq fun C11 hC11 => ?_
    simp only [go_sem, l0, l1, l2, l3, r1, lit_e, vl1, val_limbs, natOkV, Int.toNat_natCast, List.take_length, fx_drop, n1, ha1, ha3, Int.cast_ofNat_Int, Nat.pow_zero, Nat.div_one, ↓reduceIte]
    all_goals try and_intros
    all_goals try (first | exact trivial | omega | (show okDraw _ _ = true; kernel_rfl) | assumption | rfl)
    subst hC11
    refine cut_cond fun X12 hX12 Y12 hY12 => ?_
    simp only [go_sem, l0, l1, l2, l3, r1, lit_e, vl1, val_limbs, natOkV, Int.toNat_natCast, List.take_length, fx_drop, n1, ha1, ha3, Int.cast_ofNat_Int, Nat.pow_zero, Nat.div_one, ↓reduceIte]
    all_goals try and_intros
    all_goals try (first | exact trivial | omega | (show okDraw _ _ = true; kernel_rfl) | assumption | rfl)
    clear hX12
    subst hY12
    simp only [go_sem, l0, l1, l2, l3, r1, lit_e, vl1, val_limbs, natOkV, Int.toNat_natCast, List.take_length, fx_drop, n1, ha1, ha3, Int.cast_ofNat_Int, Nat.pow_zero, Nat.div_one, ↓reduceIte]
    all_goals try and_intros
    all_goals try (first | exact trivial | omega | (show okDraw _ _ = true; kernel_rfl) | assumption | rfl)
    subst hC10
    refine cut_seq fun C13 hC13 => ?_
    simp only [go_sem, l0, l1, l2, l3, r1, lit_e, vl1, val_limbs, natOkV, Int.toNat_natCast, List.take_length, fx_drop, n1, ha1, ha3, Int.cast_ofNat_Int, Nat.pow_zero, Nat.div_one, ↓reduceIte]
    all_goals try and_intros
    all_goals try (first | exact trivial | omega | (show okDraw _ _ = true; kernel_rfl) | assumption | rfl)
    subst hC13
    refine cut_seq fun C14 hC14 => ?_
    rw [codeK_seq]
    refine cut_seq fun C15 hC15 => ?_
    simp only [go_sem, l0, l1, l2, l3, r1, lit_e, vl1, val_limbs, natOkV, Int.toNat_natCast, List.take_length, fx_drop, n1, ha1, ha3, Int.cast_ofNat_Int, Nat.pow_zero, Nat.div_one, ↓reduceIte]
    all_goals try and_intros
    all_goals try (first | exact trivial | omega | (show okDraw _ _ = true; kernel_rfl) | assumption | rfl)
    subst hC15
    refine cut_cond fun X16 hX16 Y16 hY16 => ?_
    simp only [go_sem, l0, l1, l2, l3, r1, lit_e, vl1, val_limbs, natOkV, Int.toNat_natCast, List.take_length, fx_drop, n1, ha1, ha3, Int.cast_ofNat_Int, Nat.pow_zero, Nat.div_one, ↓reduceIte]
    all_goals try and_intros
    all_goals try (first | exact trivial | omega | (show okDraw _ _ = true; kernel_rfl) | assumption | rfl)
    clear hY16
    subst hX16
    refine cut_seq fun C17 hC17 => ?_
    simp only [go_sem, l0, l1, l2, l3, r1, lit_e, vl1, val_limbs, natOkV, Int.toNat_natCast, List.take_length, fx_drop, n1, ha1, ha3, Int.cast_ofNat_Int, Nat.pow_zero, Nat.div_one, ↓reduceIte]
    all_goals try and_intros
    all_goals try (first | exact trivial | omega | (show okDraw _ _ = true; kernel_rfl) | assumption | rfl)
    subst hC17
    simp only [go_sem, l0, l1, l2, l3, r1, lit_e, vl1, val_limbs, natOkV, Int.toNat_natCast, List.take_length, fx_drop, n1, ha1, ha3, Int.cast_ofNat_Int, Nat.pow_zero, Nat.div_one, ↓reduceIte]
    all_goals try and_intros
    all_goals try (first | exact trivial | omega | (show okDraw _ _ = true; kernel_rfl) | assumption | rfl)
  · have h0 : (n = 0) = False := eq_false h0
    have t2 : runN (low n u).reverse = n := by rw [runN_all _ rev_dig, List.length_reverse, low_len]
    have t3 : (((n : Nat) : Int) = 0) = False := eq_false (fun h => by rw [show n = 0 by omega] at h0; simp at h0)
    have hnp : 0 < n := Nat.pos_of_ne_zero (fun h => by rw [h] at h0; simp at h0)
    have t1 : (((n : Nat) : Int) = ((n + 1 : Nat) : Int) - 1) = True := eq_true (by omega)
    have t4 : (∀ x ∈ (low n u).reverse, 48 ≤ x ∧ x ≤ 57) = True := eq_true (fun x hx => rev_dig x hx)
    have t5 : numL (low n u).reverse = u % 10 ^ n := numL_low n u
    have t6 : u / 10 ^ n * 10 ^ n + u % 10 ^ n = u := by rw [Nat.mul_comm]; exact Nat.div_add_mod u (10 ^ n)
    have t7 : (46 :: (low n u).reverse = []) = False := eq_false (by simp)
    have e3 : List.take n (low n u).reverse = (low n u).reverse := List.take_of_length_le (by rw [List.length_reverse, low_len]; omega)
    have hm0 : u % 10 ^ n ≤ u := Nat.mod_le _ _
    have hm1 : (limbs (u / 10 ^ n * 10 ^ n)).length ≤ 2 := limbs_len_le (by omega)
    have hm2 : (limbs (u % 10 ^ n)).length ≤ 2 := limbs_len_le (by omega)
    have hm4 := ten_len (i := n) (by omega)
    refine cut_seq fun C0 hC0 => ?_
    simp only [go_sem, l0, l1, l2, l3, r1, lit_e, vl1, val_limbs, natOkV, Int.toNat_natCast, List.take_length, fx_drop, n1, ha1, ha3, Int.cast_ofNat_Int, h0, t1, t2, t3, t4, t5, t6, t7, e3, List.length_reverse, low_len, List.drop_succ_cons, List.getD_cons_zero, ↓reduceIte]
    all_goals try and_intros
    all_goals try (first | exact trivial | omega | (show okDraw _ _ = true; kernel_rfl) | assumption | rfl)
    subst hC0
    refine cut_seq fun C1 hC1 => ?_
    rw [codeK_seq]
    refine cut_seq fun C2 hC2 => ?_
    simp only [go_sem, l0, l1, l2, l3, r1, lit_e, vl1, val_limbs, natOkV, Int.toNat_natCast, List.take_length, fx_drop, n1, ha1, ha3, Int.cast_ofNat_Int, h0, t1, t2, t3, t4, t5, t6, t7, e3, List.length_reverse, low_len, List.drop_succ_cons, List.getD_cons_zero, ↓reduceIte]
    all_goals try and_intros
    all_goals try (first | exact trivial | omega | (show okDraw _ _ = true; kernel_rfl) | assumption | rfl)
    subst hC2
    refine cut_cond fun X3 hX3 Y3 hY3 => ?_
    simp only [go_sem, l0, l1, l2, l3, r1, lit_e, vl1, val_limbs, natOkV, Int.toNat_natCast, List.take_length, fx_drop, n1, ha1, ha3, Int.cast_ofNat_Int, h0, t1, t2, t3, t4, t5, t6, t7, e3, List.length_reverse, low_len, List.drop_succ_cons, List.getD_cons_zero, ↓reduceIte]
    all_goals try and_intros
    all_goals try (first | exact trivial | omega | (show okDraw _ _ = true; kernel_rfl) | assumption | rfl)
    clear hX3
    subst hY3
    simp only [go_sem, l0, l1, l2, l3, r1, lit_e, vl1, val_limbs, natOkV, Int.toNat_natCast, List.take_length, fx_drop, n1, ha1, ha3, Int.cast_ofNat_Int, h0, t1, t2, t3, t4, t5, t6, t7, e3, List.length_reverse, low_len, List.drop_succ_cons, List.getD_cons_zero, ↓reduceIte]
    all_goals try and_intros
    all_goals try (first | exact trivial | omega | (show okDraw _ _ = true; kernel_rfl) | assumption | rfl)
    subst hC1
    refine cut_seq fun C4 hC4 => ?_
    simp only [go_sem, l0, l1, l2, l3, r1, lit_e, vl1, val_limbs, natOkV, Int.toNat_natCast, List.take_length, fx_drop, n1, ha1, ha3, Int.cast_ofNat_Int, h0, t1, t2, t3, t4, t5, t6, t7, e3, List.length_reverse, low_len, List.drop_succ_cons, List.getD_cons_zero, ↓reduceIte]
    all_goals try and_intros
    all_goals try (first | exact trivial | omega | (show okDraw _ _ = true; kernel_rfl) | assumption | rfl)
    subst hC4
    refine cut_seq fun C5 hC5 => ?_
    rw [codeK_seq]
    refine cut_seq fun C6 hC6 => ?_
    simp only [go_sem, l0, l1, l2, l3, r1, lit_e, vl1, val_limbs, natOkV, Int.toNat_natCast, List.take_length, fx_drop, n1, ha1, ha3, Int.cast_ofNat_Int, h0, t1, t2, t3, t4, t5, t6, t7, e3, List.length_reverse, low_len, List.drop_succ_cons, List.getD_cons_zero, ↓reduceIte]
    all_goals try and_intros
    all_goals try (first | exact trivial | omega | (show okDraw _ _ = true; kernel_rfl) | assumption | rfl)
    subst hC6
    refine cut_cond fun X7 hX7 Y7 hY7 => ?_
    simp only [go_sem, l0, l1, l2, l3, r1, lit_e, vl1, val_limbs, natOkV, Int.toNat_natCast, List.take_length, fx_drop, n1, ha1, ha3, Int.cast_ofNat_Int, h0, t1, t2, t3, t4, t5, t6, t7, e3, List.length_reverse, low_len, List.drop_succ_cons, List.getD_cons_zero, ↓reduceIte]
    all_goals try and_intros
    all_goals try (first | exact trivial | omega | (show okDraw _ _ = true; kernel_rfl) | assumption | rfl)
    clear hX7
    subst hY7
    simp only [go_sem, l0, l1, l2, l3, r1, lit_e, vl1, val_limbs, natOkV, Int.toNat_natCast, List.take_length, fx_drop, n1, ha1, ha3, Int.cast_ofNat_Int, h0, t1, t2, t3, t4, t5, t6, t7, e3, List.length_reverse, low_len, List.drop_succ_cons, List.getD_cons_zero, ↓reduceIte]
    all_goals try and_intros
    all_goals try (first | exact trivial | omega | (show okDraw _ _ = true; kernel_rfl) | assumption | rfl)
    subst hC5
    refine cut_seq fun C8 hC8 => ?_
    simp only [go_sem, l0, l1, l2, l3, r1, lit_e, vl1, val_limbs, natOkV, Int.toNat_natCast, List.take_length, fx_drop, n1, ha1, ha3, Int.cast_ofNat_Int, h0, t1, t2, t3, t4, t5, t6, t7, e3, List.length_reverse, low_len, List.drop_succ_cons, List.getD_cons_zero, ↓reduceIte]
    all_goals try and_intros
    all_goals try (first | exact trivial | omega | (show okDraw _ _ = true; kernel_rfl) | assumption | rfl)
    subst hC8
    refine cut_seq fun C9 hC9 => ?_
    simp only [go_sem, l0, l1, l2, l3, r1, lit_e, vl1, val_limbs, natOkV, Int.toNat_natCast, List.take_length, fx_drop, n1, ha1, ha3, Int.cast_ofNat_Int, h0, t1, t2, t3, t4, t5, t6, t7, e3, List.length_reverse, low_len, List.drop_succ_cons, List.getD_cons_zero, ↓reduceIte]
    all_goals try and_intros
    all_goals try (first | exact trivial | omega | (show okDraw _ _ = true; kernel_rfl) | assumption | rfl)
    subst hC9
    refine cut_seq fun C10 hC10 => ?_
    rw [codeK_seq]
    refine cut_seq fun C11 hC11 => ?_
    simp only [go_sem, l0, l1, l2, l3, r1, lit_e, vl1, val_limbs, natOkV, Int.toNat_natCast, List.take_length, fx_drop, n1, ha1, ha3, Int.cast_ofNat_Int, h0, t1, t2, t3, t4, t5, t6, t7, e3, List.length_reverse, low_len, List.drop_succ_cons, List.getD_cons_zero, ↓reduceIte]
    all_goals try and_intros
    all_goals try (first | exact trivial | omega | (show okDraw _ _ = true; kernel_rfl) | assumption | rfl)
    subst hC11
    refine cut_cond fun X12 hX12 Y12 hY12 => ?_
    simp only [go_sem, l0, l1, l2, l3, r1, lit_e, vl1, val_limbs, natOkV, Int.toNat_natCast, List.take_length, fx_drop, n1, ha1, ha3, Int.cast_ofNat_Int, h0, t1, t2, t3, t4, t5, t6, t7, e3, List.length_reverse, low_len, List.drop_succ_cons, List.getD_cons_zero, ↓reduceIte]
    all_goals try and_intros
    all_goals try (first | exact trivial | omega | (show okDraw _ _ = true; kernel_rfl) | assumption | rfl)
    clear hX12
    subst hY12
    simp only [go_sem, l0, l1, l2, l3, r1, lit_e, vl1, val_limbs, natOkV, Int.toNat_natCast, List.take_length, fx_drop, n1, ha1, ha3, Int.cast_ofNat_Int, h0, t1, t2, t3, t4, t5, t6, t7, e3, List.length_reverse, low_len, List.drop_succ_cons, List.getD_cons_zero, ↓reduceIte]
    all_goals try and_intros
    all_goals try (first | exact trivial | omega | (show okDraw _ _ = true; kernel_rfl) | assumption | rfl)
    subst hC10
    refine cut_seq fun C13 hC13 => ?_
    simp only [go_sem, l0, l1, l2, l3, r1, lit_e, vl1, val_limbs, natOkV, Int.toNat_natCast, List.take_length, fx_drop, n1, ha1, ha3, Int.cast_ofNat_Int, h0, t1, t2, t3, t4, t5, t6, t7, e3, List.length_reverse, low_len, List.drop_succ_cons, List.getD_cons_zero, ↓reduceIte]
    all_goals try and_intros
    all_goals try (first | exact trivial | omega | (show okDraw _ _ = true; kernel_rfl) | assumption | rfl)
    subst hC13
    refine cut_seq fun C14 hC14 => ?_
    rw [codeK_seq]
    refine cut_seq fun C15 hC15 => ?_
    simp only [go_sem, l0, l1, l2, l3, r1, lit_e, vl1, val_limbs, natOkV, Int.toNat_natCast, List.take_length, fx_drop, n1, ha1, ha3, Int.cast_ofNat_Int, h0, t1, t2, t3, t4, t5, t6, t7, e3, List.length_reverse, low_len, List.drop_succ_cons, List.getD_cons_zero, ↓reduceIte]
    all_goals try and_intros
    all_goals try (first | exact trivial | omega | (show okDraw _ _ = true; kernel_rfl) | assumption | rfl)
    subst hC15
    refine cut_cond fun X16 hX16 Y16 hY16 => ?_
    simp only [go_sem, l0, l1, l2, l3, r1, lit_e, vl1, val_limbs, natOkV, Int.toNat_natCast, List.take_length, fx_drop, n1, ha1, ha3, Int.cast_ofNat_Int, h0, t1, t2, t3, t4, t5, t6, t7, e3, List.length_reverse, low_len, List.drop_succ_cons, List.getD_cons_zero, ↓reduceIte]
    all_goals try and_intros
    all_goals try (first | exact trivial | omega | (show okDraw _ _ = true; kernel_rfl) | assumption | rfl)
    clear hX16
    subst hY16
    simp only [go_sem, l0, l1, l2, l3, r1, lit_e, vl1, val_limbs, natOkV, Int.toNat_natCast, List.take_length, fx_drop, n1, ha1, ha3, Int.cast_ofNat_Int, h0, t1, t2, t3, t4, t5, t6, t7, e3, List.length_reverse, low_len, List.drop_succ_cons, List.getD_cons_zero, ↓reduceIte]
    all_goals try and_intros
    all_goals try (first | exact trivial | omega | (show okDraw _ _ = true; kernel_rfl) | assumption | rfl)
    subst hC14
    refine cut_seq fun C17 hC17 => ?_
    simp only [go_sem, l0, l1, l2, l3, r1, lit_e, vl1, val_limbs, natOkV, Int.toNat_natCast, List.take_length, fx_drop, n1, ha1, ha3, Int.cast_ofNat_Int, h0, t1, t2, t3, t4, t5, t6, t7, e3, List.length_reverse, low_len, List.drop_succ_cons, List.getD_cons_zero, ↓reduceIte]
    all_goals try and_intros
    all_goals try (first | exact trivial | omega | (show okDraw _ _ = true; kernel_rfl) | assumption | rfl)
    subst hC17
    refine cut_seq fun C18 hC18 => ?_
    rw [codeK_seq]
    refine cut_seq fun C19 hC19 => ?_
    simp only [go_sem, l0, l1, l2, l3, r1, lit_e, vl1, val_limbs, natOkV, Int.toNat_natCast, List.take_length, fx_drop, n1, ha1, ha3, Int.cast_ofNat_Int, h0, t1, t2, t3, t4, t5, t6, t7, e3, List.length_reverse, low_len, List.drop_succ_cons, List.getD_cons_zero, ↓reduceIte]
    all_goals try and_intros
    all_goals try (first | exact trivial | omega | (show okDraw _ _ = true; kernel_rfl) | assumption | rfl)
    subst hC19
    refine cut_cond fun X20 hX20 Y20 hY20 => ?_
    simp only [go_sem, l0, l1, l2, l3, r1, lit_e, vl1, val_limbs, natOkV, Int.toNat_natCast, List.take_length, fx_drop, n1, ha1, ha3, Int.cast_ofNat_Int, h0, t1, t2, t3, t4, t5, t6, t7, e3, List.length_reverse, low_len, List.drop_succ_cons, List.getD_cons_zero, ↓reduceIte]
    all_goals try and_intros
    all_goals try (first | exact trivial | omega | (show okDraw _ _ = true; kernel_rfl) | assumption | rfl)
    clear hX20
    subst hY20
    simp only [go_sem, l0, l1, l2, l3, r1, lit_e, vl1, val_limbs, natOkV, Int.toNat_natCast, List.take_length, fx_drop, n1, ha1, ha3, Int.cast_ofNat_Int, h0, t1, t2, t3, t4, t5, t6, t7, e3, List.length_reverse, low_len, List.drop_succ_cons, List.getD_cons_zero, ↓reduceIte]
    all_goals try and_intros
    all_goals try (first | exact trivial | omega | (show okDraw _ _ = true; kernel_rfl) | assumption | rfl)
    subst hC18
    refine cut_seq fun C21 hC21 => ?_
    simp only [go_sem, l0, l1, l2, l3, r1, lit_e, vl1, val_limbs, natOkV, Int.toNat_natCast, List.take_length, fx_drop, n1, ha1, ha3, Int.cast_ofNat_Int, h0, t1, t2, t3, t4, t5, t6, t7, e3, List.length_reverse, low_len, List.drop_succ_cons, List.getD_cons_zero, ↓reduceIte]
    all_goals try and_intros
    all_goals try (first | exact trivial | omega | (show okDraw _ _ = true; kernel_rfl) | assumption | rfl)
    subst hC21
    refine cut_seq fun C22 hC22 => ?_
    rw [codeK_seq]
    refine cut_seq fun C23 hC23 => ?_
    simp only [go_sem, l0, l1, l2, l3, r1, lit_e, vl1, val_limbs, natOkV, Int.toNat_natCast, List.take_length, fx_drop, n1, ha1, ha3, Int.cast_ofNat_Int, h0, t1, t2, t3, t4, t5, t6, t7, e3, List.length_reverse, low_len, List.drop_succ_cons, List.getD_cons_zero, ↓reduceIte]
    all_goals try and_intros
    all_goals try (first | exact trivial | omega | (show okDraw _ _ = true; kernel_rfl) | assumption | rfl)
    subst hC23
    refine cut_cond fun X24 hX24 Y24 hY24 => ?_
    simp only [go_sem, l0, l1, l2, l3, r1, lit_e, vl1, val_limbs, natOkV, Int.toNat_natCast, List.take_length, fx_drop, n1, ha1, ha3, Int.cast_ofNat_Int, h0, t1, t2, t3, t4, t5, t6, t7, e3, List.length_reverse, low_len, List.drop_succ_cons, List.getD_cons_zero, ↓reduceIte]
    all_goals try and_intros
    all_goals try (first | exact trivial | omega | (show okDraw _ _ = true; kernel_rfl) | assumption | rfl)
    clear hX24
    subst hY24
    simp only [go_sem, l0, l1, l2, l3, r1, lit_e, vl1, val_limbs, natOkV, Int.toNat_natCast, List.take_length, fx_drop, n1, ha1, ha3, Int.cast_ofNat_Int, h0, t1, t2, t3, t4, t5, t6, t7, e3, List.length_reverse, low_len, List.drop_succ_cons, List.getD_cons_zero, ↓reduceIte]
    all_goals try and_intros
    all_goals try (first | exact trivial | omega | (show okDraw _ _ = true; kernel_rfl) | assumption | rfl)
    subst hC22
    refine cut_seq fun C25 hC25 => ?_
    simp only [go_sem, l0, l1, l2, l3, r1, lit_e, vl1, val_limbs, natOkV, Int.toNat_natCast, List.take_length, fx_drop, n1, ha1, ha3, Int.cast_ofNat_Int, h0, t1, t2, t3, t4, t5, t6, t7, e3, List.length_reverse, low_len, List.drop_succ_cons, List.getD_cons_zero, ↓reduceIte]
    all_goals try and_intros
    all_goals try (first | exact trivial | omega | (show okDraw _ _ = true; kernel_rfl) | assumption | rfl)
    subst hC25
    refine cut_seq fun C26 hC26 => ?_
    simp only [go_sem, l0, l1, l2, l3, r1, lit_e, vl1, val_limbs, natOkV, Int.toNat_natCast, List.take_length, fx_drop, n1, ha1, ha3, Int.cast_ofNat_Int, h0, t1, t2, t3, t4, t5, t6, t7, e3, List.length_reverse, low_len, List.drop_succ_cons, List.getD_cons_zero, ↓reduceIte]
    all_goals try and_intros
    all_goals try (first | exact trivial | omega | (show okDraw _ _ = true; kernel_rfl) | assumption | rfl)
    subst hC26
    simp only [go_sem, l0, l1, l2, l3, r1, lit_e, vl1, val_limbs, natOkV, Int.toNat_natCast, List.take_length, fx_drop, n1, ha1, ha3, Int.cast_ofNat_Int, h0, t1, t2, t3, t4, t5, t6, t7, e3, List.length_reverse, low_len, List.drop_succ_cons, List.getD_cons_zero, ↓reduceIte]
    all_goals try and_intros
    all_goals try (first | exact trivial | omega | (show okDraw _ _ = true; kernel_rfl) | assumption | rfl)
theorem digB_fx (u n : Nat) : digB (fx u n) n = true := by
  unfold digB
  rw [fx_dot, fx_len]
  by_cases h : n = 0
  · rw [if_pos h, if_pos h]; decide
  · rw [if_neg h, if_neg h, if_neg h]
    have h1 : (0 : Int) ≤ ((fxW u n : Nat) : Int) := by omega
    have h2 : (((fxW u n + (n + 1) : Nat) : Int) - ((fxW u n : Nat) : Int) - 1 = ((n : Nat) : Int)) := by omega
    rw [decide_eq_true h1, decide_eq_true h2]; rfl
def nearP (l : List Nat) (x : Rat) (n : Nat) : Prop := ∃ u, u ≤ 1000000000000 ∧ l = fx u n ∧ ab (qv false u (10 ^ n) - x) ≤ tnQ n
def d_ref20_Near : Den := den3 aStr aRat aInt (fun l x d => 0 ≤ d ∧ d ≤ 12 ∧ x.sz ≤ 300000 ∧ nearP l x.q d.toNat) fun _ _ _ => boolV true
attribute [go_sem] d_ref20_Near
set_option maxRecDepth 100000 in
set_option maxHeartbeats 1000000 in
theorem s_ref20_Near : Sound Tryz.prog 10 d_ref20_Near := by
  refine sound3 (fz := nofz) (l := [(29, d_ref20_Hold), (30, d_ref3_Parse), (31, d_ref20_digits), (12, d_ref2_Sub), (32, d_ref20_Ten), (4, d_ref2_Cmp)]) TT_ok ⟨s_ref20_Hold, s_ref3_Parse, s_ref20_digits, s_ref2_Sub, s_ref20_Ten, s_ref2_Cmp, trivial⟩ mixed Tryz.func10 Tryz.ntmps10 Tryz.results10 Tryz.call10 rfl (by omega) (fun _ _ _ => rfl) ?_
  intro l x d hp hl hx hd
  obtain ⟨n, rfl⟩ := Int.eq_ofNat_of_zero_le hp.1
  obtain ⟨_, hn12, hxs, u, hu, rfl, hab⟩ := hp
  have hn12 : n ≤ 12 := by omega
  have hx30 := held30 (n := n) (by omega)
  have hfx : isFx (fx u n) = True := eq_true ⟨u, n, hn12, hu, rfl⟩
  have hsl : (∀ x ∈ fx u n, x ≠ 47) = True := eq_true (fx_slash u n)
  have hab : ab (qv false u (10 ^ n) - x.q) ≤ tnQ n := hab
  have hab2 := eq_true hab
  have hV : rs (qv false u (10 ^ n)) ≤ 1000000008 := rs_ten (Nat.le_trans (limbs_len_le (k := 2) (by omega)) (by omega)) (by omega)
  have hr : rs x.q ≤ 300000 := rs_ok hx hxs (by omega)
  have hs := rsb_sub hV hr (Nat.le_refl _)
  have hT : rs (tnQ n) ≤ 1000000008 := rs_ten (U := 1) (by decide) (by omega)
  have hq : RR.q ⟨false, (cr (qv false u (10 ^ n) - x.q)).n, (cr (qv false u (10 ^ n) - x.q)).d⟩ = ab (qv false u (10 ^ n) - x.q) := by simp only [RR.q, cr_n, cr_d, val_limbs]; rfl
  have hsz : RR.sz ⟨false, (cr (qv false u (10 ^ n) - x.q)).n, (cr (qv false u (10 ^ n) - x.q)).d⟩ = rs (qv false u (10 ^ n) - x.q) := rfl
  have hnd : nd u ≤ 13 := nd_least 13 u (by omega) (by omega)
  have hlen := fx_len u n
  have hll : (fx u n).length ≤ 30 := by
    have hW2 : fxW u n ≤ 13 := by unfold fxW; omega
    rw [hlen]; split <;> omega
  have lz : True := trivial
  rw [codeK_start]
  refine cut_seq fun C0 hC0 => ?_
  simp only [go_sem, hx30, hfx, parse_fx, hsl, digB_fx, hq, hsz, hab2, lit_e, rr_q, cr_q, Int.toNat_natCast, ↓reduceIte]
  all_goals try and_intros
  all_goals try (first | exact trivial | omega | (show okDraw _ _ = true; kernel_rfl) | assumption | rfl)
  subst hC0
  refine cut_seq fun C1 hC1 => ?_
  simp only [go_sem, hx30, hfx, parse_fx, hsl, digB_fx, hq, hsz, hab2, lit_e, rr_q, cr_q, Int.toNat_natCast, ↓reduceIte]
  all_goals try and_intros
  all_goals try (first | exact trivial | omega | (show okDraw _ _ = true; kernel_rfl) | assumption | rfl)
  subst hC1
  refine cut_seq fun C2 hC2 => ?_
  simp only [go_sem, hx30, hfx, parse_fx, hsl, digB_fx, hq, hsz, hab2, lit_e, rr_q, cr_q, Int.toNat_natCast, ↓reduceIte]
  all_goals try and_intros
  all_goals try (first | exact trivial | omega | (show okDraw _ _ = true; kernel_rfl) | assumption | rfl)
  subst hC2
  refine cut_seq fun C3 hC3 => ?_
  rw [codeK_seq]
  refine cut_seq fun C4 hC4 => ?_
  simp only [go_sem, hx30, hfx, parse_fx, hsl, digB_fx, hq, hsz, hab2, lit_e, rr_q, cr_q, Int.toNat_natCast, ↓reduceIte]
  all_goals try and_intros
  all_goals try (first | exact trivial | omega | (show okDraw _ _ = true; kernel_rfl) | assumption | rfl)
  subst hC4
  refine cut_cond fun X5 hX5 Y5 hY5 => ?_
  simp only [go_sem, hx30, hfx, parse_fx, hsl, digB_fx, hq, hsz, hab2, lit_e, rr_q, cr_q, Int.toNat_natCast, ↓reduceIte]
  all_goals try and_intros
  all_goals try (first | exact trivial | omega | (show okDraw _ _ = true; kernel_rfl) | assumption | rfl)
  clear hX5
  subst hY5
  simp only [go_sem, hx30, hfx, parse_fx, hsl, digB_fx, hq, hsz, hab2, lit_e, rr_q, cr_q, Int.toNat_natCast, ↓reduceIte]
  all_goals try and_intros
  all_goals try (first | exact trivial | omega | (show okDraw _ _ = true; kernel_rfl) | assumption | rfl)
  subst hC3
  refine cut_seq fun C6 hC6 => ?_
  simp only [go_sem, hx30, hfx, parse_fx, hsl, digB_fx, hq, hsz, hab2, lit_e, rr_q, cr_q, Int.toNat_natCast, ↓reduceIte]
  all_goals try and_intros
  all_goals try (first | exact trivial | omega | (show okDraw _ _ = true; kernel_rfl) | assumption | rfl)
  subst hC6
  refine cut_seq fun C7 hC7 => ?_
  simp only [go_sem, hx30, hfx, parse_fx, hsl, digB_fx, hq, hsz, hab2, lit_e, rr_q, cr_q, Int.toNat_natCast, ↓reduceIte]
  all_goals try and_intros
  all_goals try (first | exact trivial | omega | (show okDraw _ _ = true; kernel_rfl) | assumption | rfl)
  subst hC7
  refine cut_seq fun C8 hC8 => ?_
  simp only [go_sem, hx30, hfx, parse_fx, hsl, digB_fx, hq, hsz, hab2, lit_e, rr_q, cr_q, Int.toNat_natCast, ↓reduceIte]
  all_goals try and_intros
  all_goals try (first | exact trivial | omega | (show okDraw _ _ = true; kernel_rfl) | assumption | rfl)
  subst hC8
  simp only [go_sem, hx30, hfx, parse_fx, hsl, digB_fx, hq, hsz, hab2, lit_e, rr_q, cr_q, Int.toNat_natCast, ↓reduceIte]
  all_goals try and_intros
  all_goals try (first | exact trivial | omega | (show okDraw _ _ = true; kernel_rfl) | assumption | rfl)
end Go.Proofs.YtocpmekblkfdiaaGreatDoor
