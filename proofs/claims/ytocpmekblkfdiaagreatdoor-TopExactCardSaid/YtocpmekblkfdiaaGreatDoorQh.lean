/- How near a decimal is to its number; chances lie from 0 to 1. No condition. The walk of the law TopExact. No condition on its arguments but their sizes; a variable of the program holds an int. -/
import Derived.Test.YtocpmekblkfdiaaGreatDoorQf
import Derived.Test.YtocpmekblkfdiaaGreatDoorQe
import Derived.Test.YtocpmekblkfdiaaGreatDoorVo
namespace Go.Proofs.YtocpmekblkfdiaaGreatDoor
open Go.RowKit
set_option linter.unusedSimpArgs false
set_option linter.unusedVariables false
theorem ab_le {x t : Rat} (h1 : x ≤ t) (h2 : -x ≤ t) : ab x ≤ t := by
  cases h : ng x with
  | false => rw [ab_nonneg h]; exact h1
  | true =>
    have e : -x = ab x := by
      conv => lhs; rw [← qv_self x, h, qv_neg]
      rfl
    rw [← e]; exact h2
theorem near_un {q : Rat} (h0 : 0 ≤ q) (n : Nat) : ab (qv false (unQ q n) (10 ^ n) - q) ≤ tnQ n := by
  have hT : 0 < 10 ^ n := Nat.pow_pos (by omega)
  have hD : 0 < q.den := Nat.pos_of_ne_zero q.den_nz
  have hq : q = qv false (nm q) q.den := qv_of (ng_nonneg h0)
  have l1 := halfEven_lo (N := nm q * 10 ^ n) hD
  have l2 := halfEven_hi (N := nm q * 10 ^ n) hD
  have e1 : qv false (unQ q n) (10 ^ n) ≤ q + tnQ n := by
    conv => rhs; rw [hq]
    unfold tnQ
    rw [qv_add _ _ _ _ _ (Nat.ne_of_gt hD) (Nat.ne_of_gt hT), qv_le hT (Nat.mul_pos hD hT), Nat.one_mul]
    have h : unQ q n * q.den ≤ nm q * 10 ^ n + q.den := by unfold unQ; omega
    have := Nat.mul_le_mul_right (10 ^ n) h
    rwa [Nat.mul_assoc] at this
  have e2 : q ≤ qv false (unQ q n) (10 ^ n) + tnQ n := by
    conv => lhs; rw [hq]
    unfold tnQ
    rw [qv_add _ _ _ _ _ (Nat.ne_of_gt hT) (Nat.ne_of_gt hT), qv_le hD (Nat.mul_pos hT hT), Nat.one_mul]
    have h : nm q * 10 ^ n ≤ unQ q n * q.den + q.den := by unfold unQ; omega
    have h3 := Nat.mul_le_mul_right (10 ^ n) h
    rw [Nat.mul_assoc] at h3
    refine Nat.le_trans h3 (Nat.le_of_eq ?_)
    rw [Nat.add_mul, Nat.add_mul, Nat.mul_right_comm, Nat.mul_comm q.den]
  refine ab_le ?_ ?_
  · rw [Rat.sub_eq_add_neg]
    have := Rat.add_le_add_right (c := -q).2 e1
    rw [Rat.add_comm q, Rat.add_assoc, Rat.add_neg_cancel, Rat.add_zero] at this
    exact this
  · have := Rat.add_le_add_right (c := -(qv false (unQ q n) (10 ^ n))).2 e2
    rw [Rat.add_comm (qv false (unQ q n) (10 ^ n)), Rat.add_assoc, Rat.add_neg_cancel, Rat.add_zero] at this
    have e : -(qv false (unQ q n) (10 ^ n) - q) = q + -(qv false (unQ q n) (10 ^ n)) := by rw [Rat.neg_sub, Rat.sub_eq_add_neg]
    rw [e]; exact this
theorem sumN_grow (f : Nat → Nat) : ∀ {m n : Nat}, m ≤ n → sumN f m ≤ sumN f n
  | m, 0, h => by rw [show m = 0 by omega]; exact Nat.le_refl _
  | m, n + 1, h => by
    rcases Nat.lt_or_ge n m with h1 | h1
    · rw [show m = n + 1 by omega]; exact Nat.le_refl _
    · exact Nat.le_trans (sumN_grow f h1) (Nat.le_add_right _ _)
theorem cdf_le {q : Rat} (h : 0 ≤ q) (h1 : q ≤ 1) {n k : Nat} (hk : k ≤ n) : cdfQ q n k ≤ 1 := by
  have hd : 0 < q.den ^ n := Nat.pow_pos (Nat.pos_of_ne_zero q.den_nz)
  have e := bin_certain h h1 n
  have e2 : sumTo (binQ q n) (n + 1) = qv false (sumN (binN q n) (n + 1)) (q.den ^ n) := qv_sum _ _ _
  rw [← e, e2]
  exact (qv_le' hd).2 (sumN_grow _ (by omega))
theorem cQ_in {n k : Int} {q : Rat} (h : 0 ≤ q) (h1 : q ≤ 1) : 0 ≤ cQ n k q ∧ cQ n k q ≤ 1 := by
  unfold cQ
  split
  · split
    · exact ⟨by decide, Rat.le_refl⟩
    · rename_i a b
      exact ⟨qv_nonneg _ _, cdf_le h h1 (by omega)⟩
  · exact ⟨Rat.le_refl, by decide⟩
theorem isB_cr0 (l : Rat) : isB ⟨cr l, cr l⟩ = true := by
  unfold isB
  simp only [cr_q, oneB_cr, decide_true, Bool.true_and, decide_eq_true (Rat.le_refl (a := l))]
theorem hasB_self (l : Rat) : hasB l l l = true := by unfold hasB; rw [decide_eq_true (Rat.le_refl (a := l))]; rfl
end Go.Proofs.YtocpmekblkfdiaaGreatDoor
namespace Go.Proofs.YtocpmekblkfdiaaGreatDoor
open Go.RowKit
set_option linter.unusedSimpArgs false
set_option linter.unusedVariables false
attribute [go_sem] d_dist_Cdf d_ref13_BinomCdf d_ref20_Near d_ref2_Cmp d_ref2_Int d_ref4_Has d_show_Dec
def d_known : Den := den0 (boolV true)
attribute [go_sem] d_known
theorem s_known : SoundG Tryz.prog 11 d_known := by
  refine ⟨Tryz.call11, fun avs X w vs hd hX hgl hvs => ?_, fun avs hd => ?_⟩
  · obtain ⟨h1, μ, h2⟩ := hgl
    have hn : avs = [] := by
      unfold d_known den0 at hd
      split at hd
      · rfl
      · exact hd.elim
    subst hn
    cases hvs
    exact (known_calls w μ h2 h1).mono fun e w' ⟨he, hb⟩ => ⟨.bool true, he, rfl, hb⟩
  · unfold d_known den0 at hd ⊢
    split at hd
    · rfl
    · exact hd.elim
def fz_top : Nat → List Nat
  | 1000015 => [1]
  | _ => []
def d_top : Den := den4 aInt aInt aRat aInt (fun n k c d => (-9223372036854775808 ≤ n ∧ n ≤ 9223372036854775807) ∧ (-9223372036854775808 ≤ k ∧ k ≤ 9223372036854775807) ∧ c.sz ≤ 100000000000000) fun _ _ _ _ => boolV true
attribute [go_sem] d_top
set_option maxRecDepth 100000 in
set_option maxHeartbeats 4000000 in
theorem s_top : SoundG Tryz.prog 3 d_top := by
  refine soundG_of_awp (envOk (fz := fz_top) TT_ok (l := [(4, d_ref2_Cmp), (5, d_ref2_Int), (6, d_dist_Cdf), (7, d_ref13_BinomCdf), (8, d_show_Dec), (9, d_ref4_Has), (10, d_ref20_Near), (3000000 + 11, d_known)]) ⟨s_ref2_Cmp, s_ref2_Int, s_dist_Cdf, s_ref13_BinomCdf, s_show_Dec, s_ref4_Has, s_ref20_Near, s_known, trivial⟩) mixed Tryz.func3 rfl Tryz.ntmps3 Tryz.results3 Tryz.call3 ?_ ?_
  · intro avs hd
    obtain ⟨a, b, d, e', _, _, e⟩ := den4_inv hd
    have e : (d_top avs).2 = boolV true := e
    rw [e]; rfl
  intro avs X w vs hd hvs
  obtain ⟨n, k, c, d, h1, hp, e⟩ := den4_inv hd
  have e : (d_top avs).2 = boolV true := e
  rw [e]
  have hvs' := h1 X w vs hvs
  have hc : c.ok := by
    cases hvs' with | cons v1 hvs' => cases hvs' with | cons v2 hvs' => cases hvs' with | cons v3 hvs' => exact aRat.vd _ _ _ _ v3
  refine ⟨_, h1, by simp, rfl, ?_⟩
  obtain ⟨hn0, hk0, hcz⟩ := hp
  have hl := RR.lens hcz
  rw [codeK_start]
  by_cases bx1 : n < 0
  · have x1 := eq_true bx1
    refine cut_seq fun C0 hC0 => ?_
    simp only [go_sem, fz_top, startOf, den0, x1, rr_q, ↓reduceIte]
    all_goals try and_intros
    all_goals try (first | exact trivial | omega | (show okDraw _ _ = true; kernel_rfl) | assumption | rfl)
    subst hC0
    refine cut_seq fun C1 hC1 => ?_
    rw [codeK_seq]
    refine cut_seq fun C2 hC2 => ?_
    simp only [go_sem, fz_top, startOf, den0, x1, rr_q, ↓reduceIte]
    all_goals try and_intros
    all_goals try (first | exact trivial | omega | (show okDraw _ _ = true; kernel_rfl) | assumption | rfl)
    subst hC2
    refine cut_cond fun X3 hX3 Y3 hY3 => ?_
    simp only [go_sem, fz_top, startOf, den0, x1, rr_q, ↓reduceIte]
    all_goals try and_intros
    all_goals try (first | exact trivial | omega | (show okDraw _ _ = true; kernel_rfl) | assumption | rfl)
    clear hY3
    subst hX3
    refine cut_seq fun C4 hC4 => ?_
    simp only [go_sem, fz_top, startOf, den0, x1, rr_q, ↓reduceIte]
    all_goals try and_intros
    all_goals try (first | exact trivial | omega | (show okDraw _ _ = true; kernel_rfl) | assumption | rfl)
    subst hC4
    simp only [go_sem, fz_top, startOf, den0, x1, rr_q, ↓reduceIte]
    all_goals try and_intros
    all_goals try (first | exact trivial | omega | (show okDraw _ _ = true; kernel_rfl) | assumption | rfl)
  have x1 := eq_false bx1
  by_cases bx2 : 10 < n
  · have x2 := eq_true bx2
    refine cut_seq fun C0 hC0 => ?_
    simp only [go_sem, fz_top, startOf, den0, x1, x2, rr_q, ↓reduceIte]
    all_goals try and_intros
    all_goals try (first | exact trivial | omega | (show okDraw _ _ = true; kernel_rfl) | assumption | rfl)
    subst hC0
    refine cut_seq fun C1 hC1 => ?_
    rw [codeK_seq]
    refine cut_seq fun C2 hC2 => ?_
    simp only [go_sem, fz_top, startOf, den0, x1, x2, rr_q, ↓reduceIte]
    all_goals try and_intros
    all_goals try (first | exact trivial | omega | (show okDraw _ _ = true; kernel_rfl) | assumption | rfl)
    subst hC2
    refine cut_cond fun X3 hX3 Y3 hY3 => ?_
    simp only [go_sem, fz_top, startOf, den0, x1, x2, rr_q, ↓reduceIte]
    all_goals try and_intros
    all_goals try (first | exact trivial | omega | (show okDraw _ _ = true; kernel_rfl) | assumption | rfl)
    clear hY3
    subst hX3
    refine cut_seq fun C4 hC4 => ?_
    simp only [go_sem, fz_top, startOf, den0, x1, x2, rr_q, ↓reduceIte]
    all_goals try and_intros
    all_goals try (first | exact trivial | omega | (show okDraw _ _ = true; kernel_rfl) | assumption | rfl)
    subst hC4
    simp only [go_sem, fz_top, startOf, den0, x1, x2, rr_q, ↓reduceIte]
    all_goals try and_intros
    all_goals try (first | exact trivial | omega | (show okDraw _ _ = true; kernel_rfl) | assumption | rfl)
  have x2 := eq_false bx2
  by_cases bx3 : k < 0
  · have x3 := eq_true bx3
    refine cut_seq fun C0 hC0 => ?_
    simp only [go_sem, fz_top, startOf, den0, x1, x2, x3, rr_q, ↓reduceIte]
    all_goals try and_intros
    all_goals try (first | exact trivial | omega | (show okDraw _ _ = true; kernel_rfl) | assumption | rfl)
    subst hC0
    refine cut_seq fun C1 hC1 => ?_
    rw [codeK_seq]
    refine cut_seq fun C2 hC2 => ?_
    simp only [go_sem, fz_top, startOf, den0, x1, x2, x3, rr_q, ↓reduceIte]
    all_goals try and_intros
    all_goals try (first | exact trivial | omega | (show okDraw _ _ = true; kernel_rfl) | assumption | rfl)
    subst hC2
    refine cut_cond fun X3 hX3 Y3 hY3 => ?_
    simp only [go_sem, fz_top, startOf, den0, x1, x2, x3, rr_q, ↓reduceIte]
    all_goals try and_intros
    all_goals try (first | exact trivial | omega | (show okDraw _ _ = true; kernel_rfl) | assumption | rfl)
    clear hY3
    subst hX3
    refine cut_seq fun C4 hC4 => ?_
    simp only [go_sem, fz_top, startOf, den0, x1, x2, x3, rr_q, ↓reduceIte]
    all_goals try and_intros
    all_goals try (first | exact trivial | omega | (show okDraw _ _ = true; kernel_rfl) | assumption | rfl)
    subst hC4
    simp only [go_sem, fz_top, startOf, den0, x1, x2, x3, rr_q, ↓reduceIte]
    all_goals try and_intros
    all_goals try (first | exact trivial | omega | (show okDraw _ _ = true; kernel_rfl) | assumption | rfl)
  have x3 := eq_false bx3
  by_cases bx4 : n < k
  · have x4 := eq_true bx4
    refine cut_seq fun C0 hC0 => ?_
    simp only [go_sem, fz_top, startOf, den0, x1, x2, x3, x4, rr_q, ↓reduceIte]
    all_goals try and_intros
    all_goals try (first | exact trivial | omega | (show okDraw _ _ = true; kernel_rfl) | assumption | rfl)
    subst hC0
    refine cut_seq fun C1 hC1 => ?_
    rw [codeK_seq]
    refine cut_seq fun C2 hC2 => ?_
    simp only [go_sem, fz_top, startOf, den0, x1, x2, x3, x4, rr_q, ↓reduceIte]
    all_goals try and_intros
    all_goals try (first | exact trivial | omega | (show okDraw _ _ = true; kernel_rfl) | assumption | rfl)
    subst hC2
    refine cut_cond fun X3 hX3 Y3 hY3 => ?_
    simp only [go_sem, fz_top, startOf, den0, x1, x2, x3, x4, rr_q, ↓reduceIte]
    all_goals try and_intros
    all_goals try (first | exact trivial | omega | (show okDraw _ _ = true; kernel_rfl) | assumption | rfl)
    clear hY3
    subst hX3
    refine cut_seq fun C4 hC4 => ?_
    simp only [go_sem, fz_top, startOf, den0, x1, x2, x3, x4, rr_q, ↓reduceIte]
    all_goals try and_intros
    all_goals try (first | exact trivial | omega | (show okDraw _ _ = true; kernel_rfl) | assumption | rfl)
    subst hC4
    simp only [go_sem, fz_top, startOf, den0, x1, x2, x3, x4, rr_q, ↓reduceIte]
    all_goals try and_intros
    all_goals try (first | exact trivial | omega | (show okDraw _ _ = true; kernel_rfl) | assumption | rfl)
  have x4 := eq_false bx4
  by_cases bx5 : 1 < ((c.n.length : Nat) : Int)
  · have x5 := eq_true bx5
    refine cut_seq fun C0 hC0 => ?_
    simp only [go_sem, fz_top, startOf, den0, x1, x2, x3, x4, x5, rr_q, ↓reduceIte]
    all_goals try and_intros
    all_goals try (first | exact trivial | omega | (show okDraw _ _ = true; kernel_rfl) | assumption | rfl)
    subst hC0
    refine cut_seq fun C1 hC1 => ?_
    rw [codeK_seq]
    refine cut_seq fun C2 hC2 => ?_
    simp only [go_sem, fz_top, startOf, den0, x1, x2, x3, x4, x5, rr_q, ↓reduceIte]
    all_goals try and_intros
    all_goals try (first | exact trivial | omega | (show okDraw _ _ = true; kernel_rfl) | assumption | rfl)
    subst hC2
    refine cut_cond fun X3 hX3 Y3 hY3 => ?_
    simp only [go_sem, fz_top, startOf, den0, x1, x2, x3, x4, x5, rr_q, ↓reduceIte]
    all_goals try and_intros
    all_goals try (first | exact trivial | omega | (show okDraw _ _ = true; kernel_rfl) | assumption | rfl)
    clear hY3
    subst hX3
    refine cut_seq fun C4 hC4 => ?_
    simp only [go_sem, fz_top, startOf, den0, x1, x2, x3, x4, x5, rr_q, ↓reduceIte]
    all_goals try and_intros
    all_goals try (first | exact trivial | omega | (show okDraw _ _ = true; kernel_rfl) | assumption | rfl)
    subst hC4
    simp only [go_sem, fz_top, startOf, den0, x1, x2, x3, x4, x5, rr_q, ↓reduceIte]
    all_goals try and_intros
    all_goals try (first | exact trivial | omega | (show okDraw _ _ = true; kernel_rfl) | assumption | rfl)
  have x5 := eq_false bx5
  by_cases bx6 : 1 < ((c.d.length : Nat) : Int)
  · have x6 := eq_true bx6
    refine cut_seq fun C0 hC0 => ?_
    simp only [go_sem, fz_top, startOf, den0, x1, x2, x3, x4, x5, x6, rr_q, ↓reduceIte]
    all_goals try and_intros
    all_goals try (first | exact trivial | omega | (show okDraw _ _ = true; kernel_rfl) | assumption | rfl)
    subst hC0
    refine cut_seq fun C1 hC1 => ?_
    rw [codeK_seq]
    refine cut_seq fun C2 hC2 => ?_
    simp only [go_sem, fz_top, startOf, den0, x1, x2, x3, x4, x5, x6, rr_q, ↓reduceIte]
    all_goals try and_intros
    all_goals try (first | exact trivial | omega | (show okDraw _ _ = true; kernel_rfl) | assumption | rfl)
    subst hC2
    refine cut_cond fun X3 hX3 Y3 hY3 => ?_
    simp only [go_sem, fz_top, startOf, den0, x1, x2, x3, x4, x5, x6, rr_q, ↓reduceIte]
    all_goals try and_intros
    all_goals try (first | exact trivial | omega | (show okDraw _ _ = true; kernel_rfl) | assumption | rfl)
    clear hY3
    subst hX3
    refine cut_seq fun C4 hC4 => ?_
    simp only [go_sem, fz_top, startOf, den0, x1, x2, x3, x4, x5, x6, rr_q, ↓reduceIte]
    all_goals try and_intros
    all_goals try (first | exact trivial | omega | (show okDraw _ _ = true; kernel_rfl) | assumption | rfl)
    subst hC4
    simp only [go_sem, fz_top, startOf, den0, x1, x2, x3, x4, x5, x6, rr_q, ↓reduceIte]
    all_goals try and_intros
    all_goals try (first | exact trivial | omega | (show okDraw _ _ = true; kernel_rfl) | assumption | rfl)
  have x6 := eq_false bx6
  by_cases bx7 : d < 0
  · have x7 := eq_true bx7
    refine cut_seq fun C0 hC0 => ?_
    simp only [go_sem, fz_top, startOf, den0, x1, x2, x3, x4, x5, x6, x7, rr_q, ↓reduceIte]
    all_goals try and_intros
    all_goals try (first | exact trivial | omega | (show okDraw _ _ = true; kernel_rfl) | assumption | rfl)
    subst hC0
    refine cut_seq fun C1 hC1 => ?_
    rw [codeK_seq]
    refine cut_seq fun C2 hC2 => ?_
    simp only [go_sem, fz_top, startOf, den0, x1, x2, x3, x4, x5, x6, x7, rr_q, ↓reduceIte]
    all_goals try and_intros
    all_goals try (first | exact trivial | omega | (show okDraw _ _ = true; kernel_rfl) | assumption | rfl)
    subst hC2
    refine cut_cond fun X3 hX3 Y3 hY3 => ?_
    simp only [go_sem, fz_top, startOf, den0, x1, x2, x3, x4, x5, x6, x7, rr_q, ↓reduceIte]
    all_goals try and_intros
    all_goals try (first | exact trivial | omega | (show okDraw _ _ = true; kernel_rfl) | assumption | rfl)
    clear hY3
    subst hX3
    refine cut_seq fun C4 hC4 => ?_
    simp only [go_sem, fz_top, startOf, den0, x1, x2, x3, x4, x5, x6, x7, rr_q, ↓reduceIte]
    all_goals try and_intros
    all_goals try (first | exact trivial | omega | (show okDraw _ _ = true; kernel_rfl) | assumption | rfl)
    subst hC4
    simp only [go_sem, fz_top, startOf, den0, x1, x2, x3, x4, x5, x6, x7, rr_q, ↓reduceIte]
    all_goals try and_intros
    all_goals try (first | exact trivial | omega | (show okDraw _ _ = true; kernel_rfl) | assumption | rfl)
  have x7 := eq_false bx7
  by_cases bx8 : 12 < d
  · have x8 := eq_true bx8
    refine cut_seq fun C0 hC0 => ?_
    simp only [go_sem, fz_top, startOf, den0, x1, x2, x3, x4, x5, x6, x7, x8, rr_q, ↓reduceIte]
    all_goals try and_intros
    all_goals try (first | exact trivial | omega | (show okDraw _ _ = true; kernel_rfl) | assumption | rfl)
    subst hC0
    refine cut_seq fun C1 hC1 => ?_
    rw [codeK_seq]
    refine cut_seq fun C2 hC2 => ?_
    simp only [go_sem, fz_top, startOf, den0, x1, x2, x3, x4, x5, x6, x7, x8, rr_q, ↓reduceIte]
    all_goals try and_intros
    all_goals try (first | exact trivial | omega | (show okDraw _ _ = true; kernel_rfl) | assumption | rfl)
    subst hC2
    refine cut_cond fun X3 hX3 Y3 hY3 => ?_
    simp only [go_sem, fz_top, startOf, den0, x1, x2, x3, x4, x5, x6, x7, x8, rr_q, ↓reduceIte]
    all_goals try and_intros
    all_goals try (first | exact trivial | omega | (show okDraw _ _ = true; kernel_rfl) | assumption | rfl)
    clear hY3
    subst hX3
    refine cut_seq fun C4 hC4 => ?_
    simp only [go_sem, fz_top, startOf, den0, x1, x2, x3, x4, x5, x6, x7, x8, rr_q, ↓reduceIte]
    all_goals try and_intros
    all_goals try (first | exact trivial | omega | (show okDraw _ _ = true; kernel_rfl) | assumption | rfl)
    subst hC4
    simp only [go_sem, fz_top, startOf, den0, x1, x2, x3, x4, x5, x6, x7, x8, rr_q, ↓reduceIte]
    all_goals try and_intros
    all_goals try (first | exact trivial | omega | (show okDraw _ _ = true; kernel_rfl) | assumption | rfl)
  have x8 := eq_false bx8
  have hsz : c.sz ≤ 1 := RR.sz_le (by omega) (by omega)
  have hr1 : rs c.q ≤ 1 := rs_ok hc hsz (by omega)
  have hz0 := rsb_int (n := 0) (K := 2) (by omega) (by omega) (by omega)
  have hz1 := rsb_int (n := 1) (K := 2) (by omega) (by omega) (by omega)
  by_cases bx9 : c.q < ((0 : Int) : Rat)
  · have x9 := eq_true bx9
    refine cut_seq fun C0 hC0 => ?_
    simp only [go_sem, fz_top, startOf, den0, x1, x2, x3, x4, x5, x6, x7, x8, x9, rr_q, ↓reduceIte]
    all_goals try and_intros
    all_goals try (first | exact trivial | omega | (show okDraw _ _ = true; kernel_rfl) | assumption | rfl)
    subst hC0
    refine cut_seq fun C1 hC1 => ?_
    rw [codeK_seq]
    refine cut_seq fun C2 hC2 => ?_
    simp only [go_sem, fz_top, startOf, den0, x1, x2, x3, x4, x5, x6, x7, x8, x9, rr_q, ↓reduceIte]
    all_goals try and_intros
    all_goals try (first | exact trivial | omega | (show okDraw _ _ = true; kernel_rfl) | assumption | rfl)
    subst hC2
    refine cut_cond fun X3 hX3 Y3 hY3 => ?_
    simp only [go_sem, fz_top, startOf, den0, x1, x2, x3, x4, x5, x6, x7, x8, x9, rr_q, ↓reduceIte]
    all_goals try and_intros
    all_goals try (first | exact trivial | omega | (show okDraw _ _ = true; kernel_rfl) | assumption | rfl)
    clear hY3
    subst hX3
    refine cut_seq fun C4 hC4 => ?_
    simp only [go_sem, fz_top, startOf, den0, x1, x2, x3, x4, x5, x6, x7, x8, x9, rr_q, ↓reduceIte]
    all_goals try and_intros
    all_goals try (first | exact trivial | omega | (show okDraw _ _ = true; kernel_rfl) | assumption | rfl)
    subst hC4
    simp only [go_sem, fz_top, startOf, den0, x1, x2, x3, x4, x5, x6, x7, x8, x9, rr_q, ↓reduceIte]
    all_goals try and_intros
    all_goals try (first | exact trivial | omega | (show okDraw _ _ = true; kernel_rfl) | assumption | rfl)
  have x9 := eq_false bx9
  by_cases bx10 : ((1 : Int) : Rat) < c.q
  · have x10 := eq_true bx10
    refine cut_seq fun C0 hC0 => ?_
    simp only [go_sem, fz_top, startOf, den0, x1, x2, x3, x4, x5, x6, x7, x8, x9, x10, rr_q, ↓reduceIte]
    all_goals try and_intros
    all_goals try (first | exact trivial | omega | (show okDraw _ _ = true; kernel_rfl) | assumption | rfl)
    subst hC0
    refine cut_seq fun C1 hC1 => ?_
    rw [codeK_seq]
    refine cut_seq fun C2 hC2 => ?_
    simp only [go_sem, fz_top, startOf, den0, x1, x2, x3, x4, x5, x6, x7, x8, x9, x10, rr_q, ↓reduceIte]
    all_goals try and_intros
    all_goals try (first | exact trivial | omega | (show okDraw _ _ = true; kernel_rfl) | assumption | rfl)
    subst hC2
    refine cut_cond fun X3 hX3 Y3 hY3 => ?_
    simp only [go_sem, fz_top, startOf, den0, x1, x2, x3, x4, x5, x6, x7, x8, x9, x10, rr_q, ↓reduceIte]
    all_goals try and_intros
    all_goals try (first | exact trivial | omega | (show okDraw _ _ = true; kernel_rfl) | assumption | rfl)
    clear hY3
    subst hX3
    refine cut_seq fun C4 hC4 => ?_
    simp only [go_sem, fz_top, startOf, den0, x1, x2, x3, x4, x5, x6, x7, x8, x9, x10, rr_q, ↓reduceIte]
    all_goals try and_intros
    all_goals try (first | exact trivial | omega | (show okDraw _ _ = true; kernel_rfl) | assumption | rfl)
    subst hC4
    simp only [go_sem, fz_top, startOf, den0, x1, x2, x3, x4, x5, x6, x7, x8, x9, x10, rr_q, ↓reduceIte]
    all_goals try and_intros
    all_goals try (first | exact trivial | omega | (show okDraw _ _ = true; kernel_rfl) | assumption | rfl)
  have x10 := eq_false bx10
  obtain ⟨M, rfl⟩ := Int.eq_ofNat_of_zero_le (show 0 ≤ d by omega)
  have hq0 : 0 ≤ c.q := Rat.not_lt.1 bx9
  have hq1 : c.q ≤ 1 := Rat.not_lt.1 bx10
  have hfl : ((k : Int) : Rat).floor = k := Rat.floor_intCast k
  generalize hC : cQ n k c.q = C
  have hCin : 0 ≤ C ∧ C ≤ 1 := by rw [← hC]; exact cQ_in hq0 hq1
  have hCr : rs C ≤ 256001 := by rw [← hC]; exact rs_cQ hc (by omega) _ _
  have hbin : binD ⟨8, n, 0, ⟨c.s, c.n, c.d⟩, ⟨false, [], []⟩⟩ = True := eq_true ⟨rfl, by show 0 ≤ n; omega, by show n ≤ 256; omega, hq0, hq1, by show c.sz ≤ 1000; omega, by show RR.sz ⟨false, [], []⟩ ≤ 1000; decide⟩
  have hkr := rsb_int (n := k) (K := 2) (by omega) (by omega) (by omega)
  have hk0 : (0 ≤ ((k : Int) : Rat)) = True := eq_true (by rw [show (0 : Rat) = ((0 : Int) : Rat) from rfl, Rat.intCast_le_intCast]; omega)
  have hk1 : (((k : Int) : Rat) ≤ ((256 : Int) : Rat)) = True := eq_true (by rw [Rat.intCast_le_intCast]; omega)
  have hcq : RR.q ⟨(cr C).s, (cr C).n, (cr C).d⟩ = C := cr_q C
  have hcz : RR.sz ⟨(cr C).s, (cr C).n, (cr C).d⟩ = rs C := rfl
  have hbz : BB.sz ⟨⟨(cr C).s, (cr C).n, (cr C).d⟩, ⟨(cr C).s, (cr C).n, (cr C).d⟩⟩ = rs C := Nat.max_self _
  have hib : isB ⟨⟨(cr C).s, (cr C).n, (cr C).d⟩, ⟨(cr C).s, (cr C).n, (cr C).d⟩⟩ = true := isB_cr0 C
  have g2 : tryB n c.q = true := by
    unfold tryB
    rw [decide_eq_true (show 0 ≤ n by omega), decide_eq_true (show n ≤ 256 by omega), decide_eq_true hq0, decide_eq_true hq1]; rfl
  have zz0 := eq_true hCin.1
  have zz1 := eq_true hCin.2
  have h12 := pow12 (n := M) (by omega)
  have hnear : nearP (fx (unQ C M) M) C M = True := eq_true ⟨unQ C M, by have := unQ_le hCin.1 hCin.2 M; omega, rfl, near_un hCin.1 M⟩
  refine cut_seq fun C0 hC0 => ?_
  simp only [go_sem, fz_top, startOf, den0, x1, x2, x3, x4, x5, x6, x7, x8, x9, x10, rr_q, hbin, hfl, hC, hk0, hk1, hcq, hcz, hbz, hib, g2, zz0, zz1, hnear, hasB_self, cr_q, bb, ballCells, Int.toNat_natCast, lit_e, ↓reduceIte]
  all_goals try and_intros
  all_goals try (first | exact trivial | omega | (show okDraw _ _ = true; kernel_rfl) | assumption | rfl)
  subst hC0
  refine cut_seq fun C1 hC1 => ?_
  rw [codeK_seq]
  refine cut_seq fun C2 hC2 => ?_
  simp only [go_sem, fz_top, startOf, den0, x1, x2, x3, x4, x5, x6, x7, x8, x9, x10, rr_q, hbin, hfl, hC, hk0, hk1, hcq, hcz, hbz, hib, g2, zz0, zz1, hnear, hasB_self, cr_q, bb, ballCells, Int.toNat_natCast, lit_e, ↓reduceIte]
  all_goals try and_intros
  all_goals try (first | exact trivial | omega | (show okDraw _ _ = true; kernel_rfl) | assumption | rfl)
  subst hC2
  refine cut_cond fun X3 hX3 Y3 hY3 => ?_
  simp only [go_sem, fz_top, startOf, den0, x1, x2, x3, x4, x5, x6, x7, x8, x9, x10, rr_q, hbin, hfl, hC, hk0, hk1, hcq, hcz, hbz, hib, g2, zz0, zz1, hnear, hasB_self, cr_q, bb, ballCells, Int.toNat_natCast, lit_e, ↓reduceIte]
  all_goals try and_intros
  all_goals try (first | exact trivial | omega | (show okDraw _ _ = true; kernel_rfl) | assumption | rfl)
  clear hX3
  subst hY3
  simp only [go_sem, fz_top, startOf, den0, x1, x2, x3, x4, x5, x6, x7, x8, x9, x10, rr_q, hbin, hfl, hC, hk0, hk1, hcq, hcz, hbz, hib, g2, zz0, zz1, hnear, hasB_self, cr_q, bb, ballCells, Int.toNat_natCast, lit_e, ↓reduceIte]
  all_goals try and_intros
  all_goals try (first | exact trivial | omega | (show okDraw _ _ = true; kernel_rfl) | assumption | rfl)
  subst hC1
  refine cut_seq fun C4 hC4 => ?_
  simp only [go_sem, fz_top, startOf, den0, x1, x2, x3, x4, x5, x6, x7, x8, x9, x10, rr_q, hbin, hfl, hC, hk0, hk1, hcq, hcz, hbz, hib, g2, zz0, zz1, hnear, hasB_self, cr_q, bb, ballCells, Int.toNat_natCast, lit_e, ↓reduceIte]
  all_goals try and_intros
  all_goals try (first | exact trivial | omega | (show okDraw _ _ = true; kernel_rfl) | assumption | rfl)
  subst hC4
  refine cut_seq fun C5 hC5 => ?_
  simp only [go_sem, fz_top, startOf, den0, x1, x2, x3, x4, x5, x6, x7, x8, x9, x10, rr_q, hbin, hfl, hC, hk0, hk1, hcq, hcz, hbz, hib, g2, zz0, zz1, hnear, hasB_self, cr_q, bb, ballCells, Int.toNat_natCast, lit_e, ↓reduceIte]
  all_goals try and_intros
  all_goals try (first | exact trivial | omega | (show okDraw _ _ = true; kernel_rfl) | assumption | rfl)
  subst hC5
  refine cut_seq fun C6 hC6 => ?_
  simp only [go_sem, fz_top, startOf, den0, x1, x2, x3, x4, x5, x6, x7, x8, x9, x10, rr_q, hbin, hfl, hC, hk0, hk1, hcq, hcz, hbz, hib, g2, zz0, zz1, hnear, hasB_self, cr_q, bb, ballCells, Int.toNat_natCast, lit_e, ↓reduceIte]
  all_goals try and_intros
  all_goals try (first | exact trivial | omega | (show okDraw _ _ = true; kernel_rfl) | assumption | rfl)
  subst hC6
  refine cut_seq fun C7 hC7 => ?_
  simp only [go_sem, fz_top, startOf, den0, x1, x2, x3, x4, x5, x6, x7, x8, x9, x10, rr_q, hbin, hfl, hC, hk0, hk1, hcq, hcz, hbz, hib, g2, zz0, zz1, hnear, hasB_self, cr_q, bb, ballCells, Int.toNat_natCast, lit_e, ↓reduceIte]
  all_goals try and_intros
  all_goals try (first | exact trivial | omega | (show okDraw _ _ = true; kernel_rfl) | assumption | rfl)
  subst hC7
  simp only [go_sem, fz_top, startOf, den0, x1, x2, x3, x4, x5, x6, x7, x8, x9, x10, rr_q, hbin, hfl, hC, hk0, hk1, hcq, hcz, hbz, hib, g2, zz0, zz1, hnear, hasB_self, cr_q, bb, ballCells, Int.toNat_natCast, lit_e, ↓reduceIte]
  all_goals try and_intros
  all_goals try (first | exact trivial | omega | (show okDraw _ _ = true; kernel_rfl) | assumption | rfl)
end Go.Proofs.YtocpmekblkfdiaaGreatDoor
