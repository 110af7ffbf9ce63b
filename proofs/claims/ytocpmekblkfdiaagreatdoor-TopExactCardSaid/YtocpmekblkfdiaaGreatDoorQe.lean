/- dist: below, above, isDomain, isGreat, Check, count, chance, Cdf of tries, by the abstract walk. Conditions: the kind is Binomial, at most 256 tries, a chance from 0 to 1 of at most 1000 limbs. -/
import Derived.Test.YtocpmekblkfdiaaGreatDoorQd
import Derived.Test.YtocpmekblkfdiaaGreatDoorHg
import Derived.Test.YtocpmekblkfdiaaGreatDoorBj
namespace Go.Proofs.YtocpmekblkfdiaaGreatDoor
open Go.RowKit
set_option linter.unusedSimpArgs false
set_option linter.unusedVariables false
attribute [go_sem] d_ball_Of d_disc_BinomCdf d_nat_To d_rat_Cmp d_rat_Floor d_rat_Int
structure DD where
  k : Int
  n : Int
  m : Int
  a : RR
  b : RR
def distCells (d : DD) : List CV := [.int .i64 d.k, .int .i64 d.n, .int .i64 d.m, .bool d.a.s, .lim none d.a.n, .lim none d.a.d, .bool d.b.s, .lim none d.b.n, .lim none d.b.d]
def distV (d : DD) : AV := .one (.agg (distCells d))
def cellsDist : List CV → Option DD
  | [.int .i64 k, .int .i64 n, .int .i64 m, a1, a2, a3, b1, b2, b3] => match cellsRat [a1, a2, a3], cellsRat [b1, b2, b3] with
    | some x, some y => some ⟨k, n, m, x, y⟩
    | _, _ => none
  | _ => none
def paDist : AV → Option DD
  | .one (.agg l) => cellsDist l
  | _ => none
def DD.ok (d : DD) : Prop := d.a.ok ∧ d.b.ok
theorem all2_rat {X : Nat → Nat → Prop} {w : World} {r : RR} {v1 v2 v3 : Value} (h : All2 (fun c v => CV.P X w c v) (ratCells r) [v1, v2, v3]) : r.ok :=
  ratV_ok (X := X) (w := w) (v := .agg #[v1, v2, v3]) ⟨[v1, v2, v3], rfl, h⟩
def aDist : Arg DD where
  pa := paDist
  un := distV
  va := DD.ok
  ok := by
    intro v x h X w u hu
    unfold paDist at h
    split at h
    · rename_i l
      obtain ⟨vs, rfl, hl⟩ := hu
      refine ⟨vs, rfl, ?_⟩
      unfold cellsDist at h
      split at h
      · rename_i k n m a1 a2 a3 b1 b2 b3
        split at h
        · rename_i p q hp hq
          cases h
          cases hl with | cons h1 hl => cases hl with | cons h2 hl => cases hl with | cons h3 hl =>
          have k1 := cellsRat_P hp (hl.take 3)
          have k2 := cellsRat_P hq (hl.drop 3)
          obtain ⟨x1, x2, x3, e1, g1, g2, g3⟩ := k1.three
          obtain ⟨y1, y2, y3, e2, f1, f2, f3⟩ := k2.three
          rename_i vs'
          have : vs' = [x1, x2, x3, y1, y2, y3] := by rw [← List.take_append_drop 3 vs', e1, e2]; rfl
          subst this
          exact .cons h1 (.cons h2 (.cons h3 (.cons g1 (.cons g2 (.cons g3 (.cons f1 (.cons f2 (.cons f3 .nil))))))))
        · cases h
      · cases h
    · cases h
  st := fun _ => rfl
  vd := fun x X w u hu => by
    obtain ⟨vs, rfl, hl⟩ := hu
    cases hl with | cons h1 hl => cases hl with | cons h2 hl => cases hl with | cons h3 hl =>
    have k1 : All2 (fun c v => CV.P X w c v) (ratCells x.a) _ := hl.take 3
    have k2 : All2 (fun c v => CV.P X w c v) (ratCells x.b) _ := hl.drop 3
    obtain ⟨x1, x2, x3, e1, _⟩ := k1.three
    obtain ⟨y1, y2, y3, e2, _⟩ := k2.three
    rw [e1] at k1
    rw [e2] at k2
    exact ⟨all2_rat k1, all2_rat k2⟩
attribute [go_sem] aDist distV paDist cellsDist distCells
def binD (d : DD) : Prop := d.k = 8 ∧ 0 ≤ d.n ∧ d.n ≤ 256 ∧ 0 ≤ d.a.q ∧ d.a.q ≤ 1 ∧ d.a.sz ≤ 1000 ∧ d.b.sz ≤ 1000
def d_dist_above : Den := den2 aRat aInt (fun a n => a.sz ≤ 1000000000 ∧ -9223372036854775808 ≤ n ∧ n < 9223372036854775808) fun a n => boolV (decide ((n : Rat) < a.q))
attribute [go_sem] d_dist_above
set_option maxRecDepth 100000 in
set_option maxHeartbeats 1000000 in
theorem s_dist_above : Sound Tryz.prog 45 d_dist_above := by
  refine sound2 (fz := nofz) (l := [(27, d_rat_Int), (22, d_rat_Cmp)]) TT_ok ⟨s_rat_Int, s_rat_Cmp, trivial⟩ mixed Tryz.func45 Tryz.ntmps45 Tryz.results45 Tryz.call45 rfl (by omega) (fun _ _ => rfl) ?_
  intro a b hp ha hb
  rw [codeK_start]
  simp only [go_sem, ↓reduceIte]
  have h2 := rsb_int (n := b) (K := 2) (by omega) (by omega) (by omega)
  all_goals ((try and_intros) <;> first | exact trivial | omega | rfl | (show okDraw _ _ = true; kernel_rfl) | assumption)
def d_dist_below : Den := den2 aRat aInt (fun a n => a.sz ≤ 1000000000 ∧ -9223372036854775808 ≤ n ∧ n < 9223372036854775808) fun a n => boolV (decide (a.q < (n : Rat)))
attribute [go_sem] d_dist_below
set_option maxRecDepth 100000 in
set_option maxHeartbeats 1000000 in
theorem s_dist_below : Sound Tryz.prog 44 d_dist_below := by
  refine sound2 (fz := nofz) (l := [(27, d_rat_Int), (22, d_rat_Cmp)]) TT_ok ⟨s_rat_Int, s_rat_Cmp, trivial⟩ mixed Tryz.func44 Tryz.ntmps44 Tryz.results44 Tryz.call44 rfl (by omega) (fun _ _ => rfl) ?_
  intro a b hp ha hb
  rw [codeK_start]
  simp only [go_sem, ↓reduceIte]
  have h2 := rsb_int (n := b) (K := 2) (by omega) (by omega) (by omega)
  all_goals ((try and_intros) <;> first | exact trivial | omega | rfl | (show okDraw _ _ = true; kernel_rfl) | assumption)
def d_dist_isDomain : Den := den1 aDist (fun d => binD d) fun _ => boolV true
attribute [go_sem] d_dist_isDomain
set_option maxRecDepth 100000 in
set_option maxHeartbeats 1000000 in
theorem s_dist_isDomain : Sound Tryz.prog 38 d_dist_isDomain := by
  refine sound1 (fz := nofz) (l := [(45, d_dist_above), (44, d_dist_below)]) TT_ok ⟨s_dist_above, s_dist_below, trivial⟩ mixed Tryz.func38 Tryz.ntmps38 Tryz.results38 Tryz.call38 rfl (by omega) (fun _ => rfl) ?_
  intro a hp ha
  obtain ⟨k, n, m, r, r2⟩ := a
  obtain ⟨rfl, h1, h2, h3, h4, h5, h6⟩ := hp
  have h1 : 0 ≤ n := h1
  have h2 : n ≤ 256 := h2
  have h3 : 0 ≤ r.q := h3
  have h4 : r.q ≤ 1 := h4
  have h5 : r.sz ≤ 1000 := h5
  have h6 : r2.sz ≤ 1000 := h6
  have f1 : (r.q < ((0 : Int) : Rat)) = False := eq_false (Rat.not_lt.2 h3)
  have f2 : (((1 : Int) : Rat) < r.q) = False := eq_false (Rat.not_lt.2 h4)
  have f3 : (0 ≤ n) = True := eq_true h1
  have f4 : (256 < n) = False := eq_false (by omega)
  rw [codeK_start]
  refine cut_seq fun C0 hC0 => ?_
  simp only [go_sem, f1, f2, f3, rr_q, ↓reduceIte]
  all_goals try and_intros
  all_goals try (first | exact trivial | omega | (show okDraw _ _ = true; kernel_rfl) | assumption)
  subst hC0
  refine cut_seq fun C1 hC1 => ?_
  rw [codeK_seq]
  refine cut_seq fun C2 hC2 => ?_
  simp only [go_sem, f1, f2, f3, rr_q, ↓reduceIte]
  all_goals try and_intros
  all_goals try (first | exact trivial | omega | (show okDraw _ _ = true; kernel_rfl) | assumption)
  subst hC2
  rw [codeK_block]
  refine cut_seq fun C3 hC3 => ?_
  simp only [go_sem, f1, f2, f3, rr_q, ↓reduceIte]
  all_goals try and_intros
  all_goals try (first | exact trivial | omega | (show okDraw _ _ = true; kernel_rfl) | assumption)
  subst hC3
  refine cut_cond fun X4 hX4 Y4 hY4 => ?_
  simp only [go_sem, f1, f2, f3, rr_q, ↓reduceIte]
  all_goals try and_intros
  all_goals try (first | exact trivial | omega | (show okDraw _ _ = true; kernel_rfl) | assumption)
  clear hX4
  subst hY4
  refine cut_seq fun C5 hC5 => ?_
  simp only [go_sem, f1, f2, f3, rr_q, ↓reduceIte]
  all_goals try and_intros
  all_goals try (first | exact trivial | omega | (show okDraw _ _ = true; kernel_rfl) | assumption)
  subst hC5
  refine cut_cond fun X6 hX6 Y6 hY6 => ?_
  simp only [go_sem, f1, f2, f3, rr_q, ↓reduceIte]
  all_goals try and_intros
  all_goals try (first | exact trivial | omega | (show okDraw _ _ = true; kernel_rfl) | assumption)
  clear hX6
  subst hY6
  refine cut_seq fun C7 hC7 => ?_
  simp only [go_sem, f1, f2, f3, rr_q, ↓reduceIte]
  all_goals try and_intros
  all_goals try (first | exact trivial | omega | (show okDraw _ _ = true; kernel_rfl) | assumption)
  subst hC7
  refine cut_cond fun X8 hX8 Y8 hY8 => ?_
  simp only [go_sem, f1, f2, f3, rr_q, ↓reduceIte]
  all_goals try and_intros
  all_goals try (first | exact trivial | omega | (show okDraw _ _ = true; kernel_rfl) | assumption)
  clear hX8
  subst hY8
  refine cut_seq fun C9 hC9 => ?_
  rw [codeK_seq]
  refine cut_seq fun C10 hC10 => ?_
  simp only [go_sem, f1, f2, f3, rr_q, ↓reduceIte]
  all_goals try and_intros
  all_goals try (first | exact trivial | omega | (show okDraw _ _ = true; kernel_rfl) | assumption)
  subst hC10
  refine cut_cond fun X11 hX11 Y11 hY11 => ?_
  simp only [go_sem, f1, f2, f3, rr_q, ↓reduceIte]
  all_goals try and_intros
  all_goals try (first | exact trivial | omega | (show okDraw _ _ = true; kernel_rfl) | assumption)
  clear hX11
  subst hY11
  simp only [go_sem, f1, f2, f3, rr_q, ↓reduceIte]
  all_goals try and_intros
  all_goals try (first | exact trivial | omega | (show okDraw _ _ = true; kernel_rfl) | assumption)
  subst hC9
  refine cut_cond fun X12 hX12 Y12 hY12 => ?_
  simp only [go_sem, f1, f2, f3, rr_q, ↓reduceIte]
  all_goals try and_intros
  all_goals try (first | exact trivial | omega | (show okDraw _ _ = true; kernel_rfl) | assumption)
  clear hX12
  subst hY12
  refine cut_seq fun C13 hC13 => ?_
  rw [codeK_seq]
  refine cut_seq fun C14 hC14 => ?_
  simp only [go_sem, f1, f2, f3, rr_q, ↓reduceIte]
  all_goals try and_intros
  all_goals try (first | exact trivial | omega | (show okDraw _ _ = true; kernel_rfl) | assumption)
  subst hC14
  refine cut_cond fun X15 hX15 Y15 hY15 => ?_
  simp only [go_sem, f1, f2, f3, rr_q, ↓reduceIte]
  all_goals try and_intros
  all_goals try (first | exact trivial | omega | (show okDraw _ _ = true; kernel_rfl) | assumption)
  clear hX15
  subst hY15
  simp only [go_sem, f1, f2, f3, rr_q, ↓reduceIte]
  all_goals try and_intros
  all_goals try (first | exact trivial | omega | (show okDraw _ _ = true; kernel_rfl) | assumption)
  subst hC13
  refine cut_cond fun X16 hX16 Y16 hY16 => ?_
  simp only [go_sem, f1, f2, f3, rr_q, ↓reduceIte]
  all_goals try and_intros
  all_goals try (first | exact trivial | omega | (show okDraw _ _ = true; kernel_rfl) | assumption)
  clear hX16
  subst hY16
  refine cut_seq fun C17 hC17 => ?_
  simp only [go_sem, f1, f2, f3, rr_q, ↓reduceIte]
  all_goals try and_intros
  all_goals try (first | exact trivial | omega | (show okDraw _ _ = true; kernel_rfl) | assumption)
  subst hC17
  refine cut_cond fun X18 hX18 Y18 hY18 => ?_
  simp only [go_sem, f1, f2, f3, rr_q, ↓reduceIte]
  all_goals try and_intros
  all_goals try (first | exact trivial | omega | (show okDraw _ _ = true; kernel_rfl) | assumption)
  clear hY18
  subst hX18
  refine cut_seq fun C19 hC19 => ?_
  simp only [go_sem, f1, f2, f3, rr_q, ↓reduceIte]
  all_goals try and_intros
  all_goals try (first | exact trivial | omega | (show okDraw _ _ = true; kernel_rfl) | assumption)
  subst hC19
  simp only [go_sem, f1, f2, f3, rr_q, ↓reduceIte]
  all_goals try and_intros
  all_goals try (first | exact trivial | omega | (show okDraw _ _ = true; kernel_rfl) | assumption)
def d_dist_isGreat : Den := den1 aDist (fun d => binD d) fun _ => boolV false
attribute [go_sem] d_dist_isGreat
set_option maxRecDepth 100000 in
set_option maxHeartbeats 1000000 in
theorem s_dist_isGreat : Sound Tryz.prog 39 d_dist_isGreat := by
  refine sound1 (fz := nofz) (l := [(45, d_dist_above)]) TT_ok ⟨s_dist_above, trivial⟩ mixed Tryz.func39 Tryz.ntmps39 Tryz.results39 Tryz.call39 rfl (by omega) (fun _ => rfl) ?_
  intro a hp ha
  obtain ⟨k, n, m, r, r2⟩ := a
  obtain ⟨rfl, h1, h2, h3, h4, h5, h6⟩ := hp
  have h1 : 0 ≤ n := h1
  have h2 : n ≤ 256 := h2
  have h3 : 0 ≤ r.q := h3
  have h4 : r.q ≤ 1 := h4
  have h5 : r.sz ≤ 1000 := h5
  have h6 : r2.sz ≤ 1000 := h6
  have f1 : (r.q < ((0 : Int) : Rat)) = False := eq_false (Rat.not_lt.2 h3)
  have f2 : (((1 : Int) : Rat) < r.q) = False := eq_false (Rat.not_lt.2 h4)
  have f3 : (0 ≤ n) = True := eq_true h1
  have f4 : (256 < n) = False := eq_false (by omega)
  rw [codeK_start]
  refine cut_seq fun C0 hC0 => ?_
  simp only [go_sem, f4, rr_q, ↓reduceIte]
  all_goals try and_intros
  all_goals try (first | exact trivial | omega | (show okDraw _ _ = true; kernel_rfl) | assumption)
  subst hC0
  refine cut_seq fun C1 hC1 => ?_
  rw [codeK_seq]
  refine cut_seq fun C2 hC2 => ?_
  simp only [go_sem, f4, rr_q, ↓reduceIte]
  all_goals try and_intros
  all_goals try (first | exact trivial | omega | (show okDraw _ _ = true; kernel_rfl) | assumption)
  subst hC2
  rw [codeK_block]
  refine cut_seq fun C3 hC3 => ?_
  rw [codeK_seq]
  refine cut_seq fun C4 hC4 => ?_
  simp only [go_sem, f4, rr_q, ↓reduceIte]
  all_goals try and_intros
  all_goals try (first | exact trivial | omega | (show okDraw _ _ = true; kernel_rfl) | assumption)
  subst hC4
  refine cut_cond fun X5 hX5 Y5 hY5 => ?_
  simp only [go_sem, f4, rr_q, ↓reduceIte]
  all_goals try and_intros
  all_goals try (first | exact trivial | omega | (show okDraw _ _ = true; kernel_rfl) | assumption)
  clear hX5
  subst hY5
  refine cut_seq fun C6 hC6 => ?_
  simp only [go_sem, f4, rr_q, ↓reduceIte]
  all_goals try and_intros
  all_goals try (first | exact trivial | omega | (show okDraw _ _ = true; kernel_rfl) | assumption)
  subst hC6
  refine cut_cond fun X7 hX7 Y7 hY7 => ?_
  simp only [go_sem, f4, rr_q, ↓reduceIte]
  all_goals try and_intros
  all_goals try (first | exact trivial | omega | (show okDraw _ _ = true; kernel_rfl) | assumption)
  clear hX7
  subst hY7
  simp only [go_sem, f4, rr_q, ↓reduceIte]
  all_goals try and_intros
  all_goals try (first | exact trivial | omega | (show okDraw _ _ = true; kernel_rfl) | assumption)
  subst hC3
  refine cut_cond fun X8 hX8 Y8 hY8 => ?_
  simp only [go_sem, f4, rr_q, ↓reduceIte]
  all_goals try and_intros
  all_goals try (first | exact trivial | omega | (show okDraw _ _ = true; kernel_rfl) | assumption)
  clear hX8
  subst hY8
  refine cut_seq fun C9 hC9 => ?_
  rw [codeK_seq]
  refine cut_seq fun C10 hC10 => ?_
  simp only [go_sem, f4, rr_q, ↓reduceIte]
  all_goals try and_intros
  all_goals try (first | exact trivial | omega | (show okDraw _ _ = true; kernel_rfl) | assumption)
  subst hC10
  refine cut_cond fun X11 hX11 Y11 hY11 => ?_
  simp only [go_sem, f4, rr_q, ↓reduceIte]
  all_goals try and_intros
  all_goals try (first | exact trivial | omega | (show okDraw _ _ = true; kernel_rfl) | assumption)
  clear hX11
  subst hY11
  simp only [go_sem, f4, rr_q, ↓reduceIte]
  all_goals try and_intros
  all_goals try (first | exact trivial | omega | (show okDraw _ _ = true; kernel_rfl) | assumption)
  subst hC9
  refine cut_cond fun X12 hX12 Y12 hY12 => ?_
  simp only [go_sem, f4, rr_q, ↓reduceIte]
  all_goals try and_intros
  all_goals try (first | exact trivial | omega | (show okDraw _ _ = true; kernel_rfl) | assumption)
  clear hX12
  subst hY12
  refine cut_seq fun C13 hC13 => ?_
  simp only [go_sem, f4, rr_q, ↓reduceIte]
  all_goals try and_intros
  all_goals try (first | exact trivial | omega | (show okDraw _ _ = true; kernel_rfl) | assumption)
  subst hC13
  refine cut_cond fun X14 hX14 Y14 hY14 => ?_
  simp only [go_sem, f4, rr_q, ↓reduceIte]
  all_goals try and_intros
  all_goals try (first | exact trivial | omega | (show okDraw _ _ = true; kernel_rfl) | assumption)
  clear hY14
  subst hX14
  refine cut_seq fun C15 hC15 => ?_
  simp only [go_sem, f4, rr_q, ↓reduceIte]
  all_goals try and_intros
  all_goals try (first | exact trivial | omega | (show okDraw _ _ = true; kernel_rfl) | assumption)
  subst hC15
  simp only [go_sem, f4, rr_q, ↓reduceIte]
  all_goals try and_intros
  all_goals try (first | exact trivial | omega | (show okDraw _ _ = true; kernel_rfl) | assumption)
def d_dist_Check : Den := den1 aDist (fun d => binD d) fun _ => intV 0
attribute [go_sem] d_dist_Check
set_option maxRecDepth 100000 in
set_option maxHeartbeats 1000000 in
theorem s_dist_Check : Sound Tryz.prog 15 d_dist_Check := by
  refine sound1 (fz := nofz) (l := [(38, d_dist_isDomain), (39, d_dist_isGreat)]) TT_ok ⟨s_dist_isDomain, s_dist_isGreat, trivial⟩ mixed Tryz.func15 Tryz.ntmps15 Tryz.results15 Tryz.call15 rfl (by omega) (fun _ => rfl) ?_
  intro a hp ha
  obtain ⟨k, n, m, r, r2⟩ := a
  have hbin := hp
  obtain ⟨rfl, h1, h2, h3, h4, h5, h6⟩ := hp
  have h1 : 0 ≤ n := h1
  have h2 : n ≤ 256 := h2
  have h3 : 0 ≤ r.q := h3
  have h4 : r.q ≤ 1 := h4
  have h5 : r.sz ≤ 1000 := h5
  have h6 : r2.sz ≤ 1000 := h6
  have f1 : (r.q < ((0 : Int) : Rat)) = False := eq_false (Rat.not_lt.2 h3)
  have f2 : (((1 : Int) : Rat) < r.q) = False := eq_false (Rat.not_lt.2 h4)
  have f3 : (0 ≤ n) = True := eq_true h1
  have f4 : (256 < n) = False := eq_false (by omega)
  have hbt : binD ⟨8, n, m, ⟨r.s, r.n, r.d⟩, ⟨r2.s, r2.n, r2.d⟩⟩ = True := eq_true hbin
  rw [codeK_start]
  refine cut_seq fun C0 hC0 => ?_
  simp only [go_sem, hbt, ↓reduceIte]
  all_goals try and_intros
  all_goals try (first | exact trivial | omega | (show okDraw _ _ = true; kernel_rfl) | assumption)
  subst hC0
  refine cut_seq fun C1 hC1 => ?_
  rw [codeK_seq]
  rw [codeK_block]
  refine cut_seq fun C2 hC2 => ?_
  simp only [go_sem, hbt, ↓reduceIte]
  all_goals try and_intros
  all_goals try (first | exact trivial | omega | (show okDraw _ _ = true; kernel_rfl) | assumption)
  subst hC2
  refine cut_cond fun X3 hX3 Y3 hY3 => ?_
  simp only [go_sem, hbt, ↓reduceIte]
  all_goals try and_intros
  all_goals try (first | exact trivial | omega | (show okDraw _ _ = true; kernel_rfl) | assumption)
  clear hX3
  subst hY3
  refine cut_seq fun C4 hC4 => ?_
  simp only [go_sem, hbt, ↓reduceIte]
  all_goals try and_intros
  all_goals try (first | exact trivial | omega | (show okDraw _ _ = true; kernel_rfl) | assumption)
  subst hC4
  refine cut_cond fun X5 hX5 Y5 hY5 => ?_
  simp only [go_sem, hbt, ↓reduceIte]
  all_goals try and_intros
  all_goals try (first | exact trivial | omega | (show okDraw _ _ = true; kernel_rfl) | assumption)
  clear hX5
  subst hY5
  simp only [go_sem, hbt, ↓reduceIte]
  all_goals try and_intros
  all_goals try (first | exact trivial | omega | (show okDraw _ _ = true; kernel_rfl) | assumption)
  subst hC1
  refine cut_seq fun C6 hC6 => ?_
  simp only [go_sem, hbt, ↓reduceIte]
  all_goals try and_intros
  all_goals try (first | exact trivial | omega | (show okDraw _ _ = true; kernel_rfl) | assumption)
  subst hC6
  simp only [go_sem, hbt, ↓reduceIte]
  all_goals try and_intros
  all_goals try (first | exact trivial | omega | (show okDraw _ _ = true; kernel_rfl) | assumption)
def d_dist_count : Den := den2 aRat aInt (fun a n => a.sz ≤ 1000 ∧ 0 ≤ a.q ∧ a.q ≤ (n : Rat) ∧ 0 ≤ n ∧ n ≤ 1000) fun a _ => intV a.q.floor
attribute [go_sem] d_dist_count
set_option maxRecDepth 100000 in
set_option maxHeartbeats 1000000 in
theorem s_dist_count : Sound Tryz.prog 55 d_dist_count := by
  refine sound2 (fz := nofz) (l := [(45, d_dist_above), (114, d_rat_Floor), (113, d_nat_To)]) TT_ok ⟨s_dist_above, s_rat_Floor, s_nat_To, trivial⟩ mixed Tryz.func55 Tryz.ntmps55 Tryz.results55 Tryz.call55 rfl (by omega) (fun _ _ => rfl) ?_
  intro a b hp ha hb
  have f1 : (((b : Int) : Rat) < a.q) = False := eq_false (Rat.not_lt.2 hp.2.2.1)
  have hr : rs a.q ≤ 1000 := rs_ok ha hp.1 (by omega)
  have hrf := rsb_floor hr (Nat.le_refl _)
  have hfl0 : 0 ≤ a.q.floor := Rat.le_floor_iff.2 (by rw [show ((0 : Int) : Rat) = 0 from rfl]; exact hp.2.1)
  have hfl1 : a.q.floor ≤ b := by
    have h := Rat.le_trans (Rat.floor_le a.q) hp.2.2.1
    rwa [Rat.intCast_le_intCast] at h
  have hnm : nm ((a.q.floor : Int) : Rat) = a.q.floor.toNat := by
    show (((a.q.floor : Int) : Rat)).num.natAbs = _
    rw [Rat.num_intCast]; omega
  have hln : (limbs a.q.floor.toNat).length ≤ 2 := limbs_len_le (by omega)
  have hw : IntKind.wrap .i64 ((a.q.floor.toNat : Nat) : Int) = a.q.floor := by rw [IntKind.wrap_i64]; omega
  rw [codeK_start]
  refine cut_seq fun C0 hC0 => ?_
  simp only [go_sem, f1, hnm, hw, rr_q, cr_n, val_limbs, ↓reduceIte]
  all_goals try and_intros
  all_goals try (first | exact trivial | omega | (show okDraw _ _ = true; kernel_rfl) | assumption)
  subst hC0
  refine cut_seq fun C1 hC1 => ?_
  rw [codeK_seq]
  refine cut_seq fun C2 hC2 => ?_
  simp only [go_sem, f1, hnm, hw, rr_q, cr_n, val_limbs, ↓reduceIte]
  all_goals try and_intros
  all_goals try (first | exact trivial | omega | (show okDraw _ _ = true; kernel_rfl) | assumption)
  subst hC2
  refine cut_cond fun X3 hX3 Y3 hY3 => ?_
  simp only [go_sem, f1, hnm, hw, rr_q, cr_n, val_limbs, ↓reduceIte]
  all_goals try and_intros
  all_goals try (first | exact trivial | omega | (show okDraw _ _ = true; kernel_rfl) | assumption)
  clear hX3
  subst hY3
  simp only [go_sem, f1, hnm, hw, rr_q, cr_n, val_limbs, ↓reduceIte]
  all_goals try and_intros
  all_goals try (first | exact trivial | omega | (show okDraw _ _ = true; kernel_rfl) | assumption)
  subst hC1
  refine cut_seq fun C4 hC4 => ?_
  simp only [go_sem, f1, hnm, hw, rr_q, cr_n, val_limbs, ↓reduceIte]
  all_goals try and_intros
  all_goals try (first | exact trivial | omega | (show okDraw _ _ = true; kernel_rfl) | assumption)
  subst hC4
  refine cut_seq fun C5 hC5 => ?_
  simp only [go_sem, f1, hnm, hw, rr_q, cr_n, val_limbs, ↓reduceIte]
  all_goals try and_intros
  all_goals try (first | exact trivial | omega | (show okDraw _ _ = true; kernel_rfl) | assumption)
  subst hC5
  simp only [go_sem, f1, hnm, hw, rr_q, cr_n, val_limbs, ↓reduceIte]
  all_goals try and_intros
  all_goals try (first | exact trivial | omega | (show okDraw _ _ = true; kernel_rfl) | assumption)
def d_dist_chance : Den := den3 aDist aRat aInt (fun d x p => binD d ∧ x.sz ≤ 1000 ∧ 0 ≤ x.q ∧ x.q ≤ ((256 : Int) : Rat)) fun d x _ => .tup [.agg (ballCells (bb (cQ d.n x.q.floor d.a.q) (cQ d.n x.q.floor d.a.q))), .cel (.bool true)]
attribute [go_sem] d_dist_chance
set_option maxRecDepth 100000 in
set_option maxHeartbeats 1000000 in
theorem s_dist_chance : Sound Tryz.prog 16 d_dist_chance := by
  refine sound3 (fz := nofz) (l := [(44, d_dist_below), (55, d_dist_count), (54, d_disc_BinomCdf), (46, d_ball_Of)]) TT_ok ⟨s_dist_below, s_dist_count, s_disc_BinomCdf, s_ball_Of, trivial⟩ mixed Tryz.func16 Tryz.ntmps16 Tryz.results16 Tryz.call16 rfl (by omega) (fun _ _ _ => rfl) ?_
  intro d x p hp hd hx hp
  obtain ⟨k, n, m, r, r2⟩ := d
  obtain ⟨hbin, hx1, hx2, hx3⟩ := hp
  have hbin2 := hbin
  obtain ⟨rfl, h1, h2, h3, h4, h5, h6⟩ := hbin
  have h1 : 0 ≤ n := h1
  have h2 : n ≤ 256 := h2
  have h3 : 0 ≤ r.q := h3
  have h4 : r.q ≤ 1 := h4
  have h5 : r.sz ≤ 1000 := h5
  have h6 : r2.sz ≤ 1000 := h6
  have f1 : (r.q < ((0 : Int) : Rat)) = False := eq_false (Rat.not_lt.2 h3)
  have f2 : (((1 : Int) : Rat) < r.q) = False := eq_false (Rat.not_lt.2 h4)
  have f3 : (0 ≤ n) = True := eq_true h1
  have f4 : (256 < n) = False := eq_false (by omega)
  have g1 : (x.q < ((0 : Int) : Rat)) = False := eq_false (Rat.not_lt.2 hx2)
  have g2 : tryB n r.q = true := by
    unfold tryB
    rw [decide_eq_true h1, decide_eq_true h2, decide_eq_true h3, decide_eq_true h4]; rfl
  have hcs : rs (cQ n x.q.floor r.q) ≤ 256001 := rs_cQ hd.1 h5 _ _
  have hbt : binD ⟨8, n, m, ⟨r.s, r.n, r.d⟩, ⟨r2.s, r2.n, r2.d⟩⟩ = True := eq_true hbin2
  rw [codeK_start]
  refine cut_seq fun C0 hC0 => ?_
  simp only [go_sem, g1, g2, rr_q, cr_q, bb, ballCells, ↓reduceIte]
  all_goals try and_intros
  all_goals try (first | exact trivial | omega | (show okDraw _ _ = true; kernel_rfl) | assumption)
  subst hC0
  refine cut_seq fun C1 hC1 => ?_
  rw [codeK_seq]
  refine cut_seq fun C2 hC2 => ?_
  simp only [go_sem, g1, g2, rr_q, cr_q, bb, ballCells, ↓reduceIte]
  all_goals try and_intros
  all_goals try (first | exact trivial | omega | (show okDraw _ _ = true; kernel_rfl) | assumption)
  subst hC2
  rw [codeK_block]
  refine cut_seq fun C3 hC3 => ?_
  simp only [go_sem, g1, g2, rr_q, cr_q, bb, ballCells, ↓reduceIte]
  all_goals try and_intros
  all_goals try (first | exact trivial | omega | (show okDraw _ _ = true; kernel_rfl) | assumption)
  subst hC3
  refine cut_cond fun X4 hX4 Y4 hY4 => ?_
  simp only [go_sem, g1, g2, rr_q, cr_q, bb, ballCells, ↓reduceIte]
  all_goals try and_intros
  all_goals try (first | exact trivial | omega | (show okDraw _ _ = true; kernel_rfl) | assumption)
  clear hX4
  subst hY4
  refine cut_seq fun C5 hC5 => ?_
  simp only [go_sem, g1, g2, rr_q, cr_q, bb, ballCells, ↓reduceIte]
  all_goals try and_intros
  all_goals try (first | exact trivial | omega | (show okDraw _ _ = true; kernel_rfl) | assumption)
  subst hC5
  refine cut_cond fun X6 hX6 Y6 hY6 => ?_
  simp only [go_sem, g1, g2, rr_q, cr_q, bb, ballCells, ↓reduceIte]
  all_goals try and_intros
  all_goals try (first | exact trivial | omega | (show okDraw _ _ = true; kernel_rfl) | assumption)
  clear hX6
  subst hY6
  simp only [go_sem, g1, g2, rr_q, cr_q, bb, ballCells, ↓reduceIte]
  all_goals try and_intros
  all_goals try (first | exact trivial | omega | (show okDraw _ _ = true; kernel_rfl) | assumption)
  subst hC1
  refine cut_seq fun C7 hC7 => ?_
  rw [codeK_seq]
  refine cut_seq fun C8 hC8 => ?_
  simp only [go_sem, g1, g2, rr_q, cr_q, bb, ballCells, ↓reduceIte]
  all_goals try and_intros
  all_goals try (first | exact trivial | omega | (show okDraw _ _ = true; kernel_rfl) | assumption)
  subst hC8
  refine cut_cond fun X9 hX9 Y9 hY9 => ?_
  simp only [go_sem, g1, g2, rr_q, cr_q, bb, ballCells, ↓reduceIte]
  all_goals try and_intros
  all_goals try (first | exact trivial | omega | (show okDraw _ _ = true; kernel_rfl) | assumption)
  clear hX9
  subst hY9
  simp only [go_sem, g1, g2, rr_q, cr_q, bb, ballCells, ↓reduceIte]
  all_goals try and_intros
  all_goals try (first | exact trivial | omega | (show okDraw _ _ = true; kernel_rfl) | assumption)
  subst hC7
  refine cut_seq fun C10 hC10 => ?_
  rw [codeK_seq]
  refine cut_seq fun C11 hC11 => ?_
  simp only [go_sem, g1, g2, rr_q, cr_q, bb, ballCells, ↓reduceIte]
  all_goals try and_intros
  all_goals try (first | exact trivial | omega | (show okDraw _ _ = true; kernel_rfl) | assumption)
  subst hC11
  rw [codeK_block]
  refine cut_seq fun C12 hC12 => ?_
  simp only [go_sem, g1, g2, rr_q, cr_q, bb, ballCells, ↓reduceIte]
  all_goals try and_intros
  all_goals try (first | exact trivial | omega | (show okDraw _ _ = true; kernel_rfl) | assumption)
  subst hC12
  refine cut_cond fun X13 hX13 Y13 hY13 => ?_
  simp only [go_sem, g1, g2, rr_q, cr_q, bb, ballCells, ↓reduceIte]
  all_goals try and_intros
  all_goals try (first | exact trivial | omega | (show okDraw _ _ = true; kernel_rfl) | assumption)
  clear hX13
  subst hY13
  refine cut_seq fun C14 hC14 => ?_
  simp only [go_sem, g1, g2, rr_q, cr_q, bb, ballCells, ↓reduceIte]
  all_goals try and_intros
  all_goals try (first | exact trivial | omega | (show okDraw _ _ = true; kernel_rfl) | assumption)
  subst hC14
  refine cut_cond fun X15 hX15 Y15 hY15 => ?_
  simp only [go_sem, g1, g2, rr_q, cr_q, bb, ballCells, ↓reduceIte]
  all_goals try and_intros
  all_goals try (first | exact trivial | omega | (show okDraw _ _ = true; kernel_rfl) | assumption)
  clear hX15
  subst hY15
  refine cut_seq fun C16 hC16 => ?_
  simp only [go_sem, g1, g2, rr_q, cr_q, bb, ballCells, ↓reduceIte]
  all_goals try and_intros
  all_goals try (first | exact trivial | omega | (show okDraw _ _ = true; kernel_rfl) | assumption)
  subst hC16
  refine cut_cond fun X17 hX17 Y17 hY17 => ?_
  simp only [go_sem, g1, g2, rr_q, cr_q, bb, ballCells, ↓reduceIte]
  all_goals try and_intros
  all_goals try (first | exact trivial | omega | (show okDraw _ _ = true; kernel_rfl) | assumption)
  clear hX17
  subst hY17
  refine cut_seq fun C18 hC18 => ?_
  simp only [go_sem, g1, g2, rr_q, cr_q, bb, ballCells, ↓reduceIte]
  all_goals try and_intros
  all_goals try (first | exact trivial | omega | (show okDraw _ _ = true; kernel_rfl) | assumption)
  subst hC18
  refine cut_cond fun X19 hX19 Y19 hY19 => ?_
  simp only [go_sem, g1, g2, rr_q, cr_q, bb, ballCells, ↓reduceIte]
  all_goals try and_intros
  all_goals try (first | exact trivial | omega | (show okDraw _ _ = true; kernel_rfl) | assumption)
  clear hX19
  subst hY19
  refine cut_seq fun C20 hC20 => ?_
  simp only [go_sem, g1, g2, rr_q, cr_q, bb, ballCells, ↓reduceIte]
  all_goals try and_intros
  all_goals try (first | exact trivial | omega | (show okDraw _ _ = true; kernel_rfl) | assumption)
  subst hC20
  refine cut_cond fun X21 hX21 Y21 hY21 => ?_
  simp only [go_sem, g1, g2, rr_q, cr_q, bb, ballCells, ↓reduceIte]
  all_goals try and_intros
  all_goals try (first | exact trivial | omega | (show okDraw _ _ = true; kernel_rfl) | assumption)
  clear hX21
  subst hY21
  refine cut_seq fun C22 hC22 => ?_
  simp only [go_sem, g1, g2, rr_q, cr_q, bb, ballCells, ↓reduceIte]
  all_goals try and_intros
  all_goals try (first | exact trivial | omega | (show okDraw _ _ = true; kernel_rfl) | assumption)
  subst hC22
  refine cut_cond fun X23 hX23 Y23 hY23 => ?_
  simp only [go_sem, g1, g2, rr_q, cr_q, bb, ballCells, ↓reduceIte]
  all_goals try and_intros
  all_goals try (first | exact trivial | omega | (show okDraw _ _ = true; kernel_rfl) | assumption)
  clear hY23
  subst hX23
  refine cut_seq fun C24 hC24 => ?_
  simp only [go_sem, g1, g2, rr_q, cr_q, bb, ballCells, ↓reduceIte]
  all_goals try and_intros
  all_goals try (first | exact trivial | omega | (show okDraw _ _ = true; kernel_rfl) | assumption)
  subst hC24
  refine cut_seq fun C25 hC25 => ?_
  simp only [go_sem, g1, g2, rr_q, cr_q, bb, ballCells, ↓reduceIte]
  all_goals try and_intros
  all_goals try (first | exact trivial | omega | (show okDraw _ _ = true; kernel_rfl) | assumption)
  subst hC25
  simp only [go_sem, g1, g2, rr_q, cr_q, bb, ballCells, ↓reduceIte]
  all_goals try and_intros
  all_goals try (first | exact trivial | omega | (show okDraw _ _ = true; kernel_rfl) | assumption)
def d_dist_Cdf : Den := den3 aDist aRat aInt (fun d x p => binD d ∧ x.sz ≤ 1000 ∧ 0 ≤ x.q ∧ x.q ≤ ((256 : Int) : Rat)) fun d x _ => .tup [.agg (ballCells (bb (cQ d.n x.q.floor d.a.q) (cQ d.n x.q.floor d.a.q))), .cel (.int .i64 0)]
attribute [go_sem] d_dist_Cdf
set_option maxRecDepth 100000 in
set_option maxHeartbeats 1000000 in
theorem s_dist_Cdf : Sound Tryz.prog 6 d_dist_Cdf := by
  refine sound3 (fz := nofz) (l := [(15, d_dist_Check), (16, d_dist_chance)]) TT_ok ⟨s_dist_Check, s_dist_chance, trivial⟩ mixed Tryz.func6 Tryz.ntmps6 Tryz.results6 Tryz.call6 rfl (by omega) (fun _ _ _ => rfl) ?_
  intro d x p hp hd hx hp
  obtain ⟨k, n, m, r, r2⟩ := d
  obtain ⟨hbin, hx1, hx2, hx3⟩ := hp
  have hbin2 := hbin
  obtain ⟨rfl, h1, h2, h3, h4, h5, h6⟩ := hbin
  have h1 : 0 ≤ n := h1
  have h2 : n ≤ 256 := h2
  have h3 : 0 ≤ r.q := h3
  have h4 : r.q ≤ 1 := h4
  have h5 : r.sz ≤ 1000 := h5
  have h6 : r2.sz ≤ 1000 := h6
  have f1 : (r.q < ((0 : Int) : Rat)) = False := eq_false (Rat.not_lt.2 h3)
  have f2 : (((1 : Int) : Rat) < r.q) = False := eq_false (Rat.not_lt.2 h4)
  have f3 : (0 ≤ n) = True := eq_true h1
  have f4 : (256 < n) = False := eq_false (by omega)
  have g1 : (x.q < ((0 : Int) : Rat)) = False := eq_false (Rat.not_lt.2 hx2)
  have g2 : tryB n r.q = true := by
    unfold tryB
    rw [decide_eq_true h1, decide_eq_true h2, decide_eq_true h3, decide_eq_true h4]; rfl
  have hcs : rs (cQ n x.q.floor r.q) ≤ 256001 := rs_cQ hd.1 h5 _ _
  have hbt : binD ⟨8, n, m, ⟨r.s, r.n, r.d⟩, ⟨r2.s, r2.n, r2.d⟩⟩ = True := eq_true hbin2
  rw [codeK_start]
  refine cut_seq fun C0 hC0 => ?_
  simp only [go_sem, hbt, bb, ballCells, ↓reduceIte]
  all_goals try and_intros
  all_goals try (first | exact trivial | omega | (show okDraw _ _ = true; kernel_rfl) | assumption)
  subst hC0
  refine cut_seq fun C1 hC1 => ?_
  rw [codeK_seq]
  refine cut_seq fun C2 hC2 => ?_
  simp only [go_sem, hbt, bb, ballCells, ↓reduceIte]
  all_goals try and_intros
  all_goals try (first | exact trivial | omega | (show okDraw _ _ = true; kernel_rfl) | assumption)
  subst hC2
  refine cut_seq fun C3 hC3 => ?_
  simp only [go_sem, hbt, bb, ballCells, ↓reduceIte]
  all_goals try and_intros
  all_goals try (first | exact trivial | omega | (show okDraw _ _ = true; kernel_rfl) | assumption)
  subst hC3
  refine cut_cond fun X4 hX4 Y4 hY4 => ?_
  simp only [go_sem, hbt, bb, ballCells, ↓reduceIte]
  all_goals try and_intros
  all_goals try (first | exact trivial | omega | (show okDraw _ _ = true; kernel_rfl) | assumption)
  clear hX4
  subst hY4
  simp only [go_sem, hbt, bb, ballCells, ↓reduceIte]
  all_goals try and_intros
  all_goals try (first | exact trivial | omega | (show okDraw _ _ = true; kernel_rfl) | assumption)
  subst hC1
  refine cut_seq fun C5 hC5 => ?_
  simp only [go_sem, hbt, bb, ballCells, ↓reduceIte]
  all_goals try and_intros
  all_goals try (first | exact trivial | omega | (show okDraw _ _ = true; kernel_rfl) | assumption)
  subst hC5
  refine cut_seq fun C6 hC6 => ?_
  rw [codeK_seq]
  refine cut_seq fun C7 hC7 => ?_
  simp only [go_sem, hbt, bb, ballCells, ↓reduceIte]
  all_goals try and_intros
  all_goals try (first | exact trivial | omega | (show okDraw _ _ = true; kernel_rfl) | assumption)
  subst hC7
  refine cut_cond fun X8 hX8 Y8 hY8 => ?_
  simp only [go_sem, hbt, bb, ballCells, ↓reduceIte]
  all_goals try and_intros
  all_goals try (first | exact trivial | omega | (show okDraw _ _ = true; kernel_rfl) | assumption)
  clear hX8
  subst hY8
  simp only [go_sem, hbt, bb, ballCells, ↓reduceIte]
  all_goals try and_intros
  all_goals try (first | exact trivial | omega | (show okDraw _ _ = true; kernel_rfl) | assumption)
  subst hC6
  refine cut_seq fun C9 hC9 => ?_
  simp only [go_sem, hbt, bb, ballCells, ↓reduceIte]
  all_goals try and_intros
  all_goals try (first | exact trivial | omega | (show okDraw _ _ = true; kernel_rfl) | assumption)
  subst hC9
  simp only [go_sem, hbt, bb, ballCells, ↓reduceIte]
  all_goals try and_intros
  all_goals try (first | exact trivial | omega | (show okDraw _ _ = true; kernel_rfl) | assumption)
end Go.Proofs.YtocpmekblkfdiaaGreatDoor
