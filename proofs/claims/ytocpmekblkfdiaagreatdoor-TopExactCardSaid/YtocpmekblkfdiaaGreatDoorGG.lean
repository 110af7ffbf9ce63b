/- Contract of vernierref2.Norm. Conditions: at most 10^11 limbs. Words for the walks of vernierref2: contracts at canonical limbs; a box that holds a normal rational, taken apart. Contracts of vernierref2.Neg, vernierref2.Zero, vernierref2.Large. Conditions: at most 10^11 limbs. -/
import Derived.Test.YtocpmekblkfdiaaGreatDoorGF
import Derived.Test.YtocpmekblkfdiaaGreatDoorRefDiv
import Derived.Test.YtocpmekblkfdiaaGreatDoorGD
import Derived.Test.YtocpmekblkfdiaaGreatDoorGE
import Derived.Test.YtocpmekblkfdiaaGreatDoorGI
namespace Go.Proofs.YtocpmekblkfdiaaGreatDoor
open Go.RowKit
theorem cGcd (w : World) (v1 v2 : Value) (m n b1 b2 : Nat) (h1 : Nt b1 w v1 (limbs m)) (h2 : Nt b2 w v2 (limbs n)) (l1 : (limbs m).length ≤ 500000000000) (l2 : (limbs n).length ≤ 500000000000) :
    Calls Tryz.prog 87 #[v1, v2] w (RetNat (Nat.gcd m n) w) := by
  have h := refGcd w v1 v2 _ _ b1 b2 h1 h2 l1 l2
  rwa [val_limbs, val_limbs] at h
theorem cDivMod (w : World) (v1 v2 : Value) (m n b1 b2 : Nat) (h1 : Nt b1 w v1 (limbs m)) (h2 : Nt b2 w v2 (limbs n)) (l1 : (limbs m).length ≤ 500000000000) (l2 : (limbs n).length ≤ 500000000000) :
    Calls Tryz.prog 88 #[v1, v2] w (RetDivMod m n w) := by
  have h := refDivMod w v1 v2 _ _ b1 b2 h1 h2 l1 l2
  rwa [val_limbs, val_limbs] at h
theorem boxesR (w : World) (a b c : Value) : ∃ K, K = w.heap.size ∧
    Below K w ((w.alloc (.cells #[a, b, c] 24)).alloc (.cells #[.bool false, .slice none 0 0, .slice none 0 0] 24)) ∧
    Bx 24 ((w.alloc (.cells #[a, b, c] 24)).alloc (.cells #[.bool false, .slice none 0 0, .slice none 0 0] 24)) K [a, b, c] ∧
    Bx 24 ((w.alloc (.cells #[a, b, c] 24)).alloc (.cells #[.bool false, .slice none 0 0, .slice none 0 0] 24)) (K + 1) [.bool false, .slice none 0 0, .slice none 0 0] :=
  ⟨_, rfl, allocs_below [.cells #[a, b, c] 24, .cells #[.bool false, .slice none 0 0, .slice none 0 0] 24] w, allocs_at [.cells #[a, b, c] 24, .cells #[.bool false, .slice none 0 0, .slice none 0 0] 24] w 0 _ rfl, allocs_at [.cells #[a, b, c] 24, .cells #[.bool false, .slice none 0 0, .slice none 0 0] 24] w 1 _ rfl⟩
set_option maxRecDepth 100000 in
set_option maxHeartbeats 2000000 in
theorem r2Norm (w : World) (v : Value) (q : Rat) (h : RatR 100000000000 w v q) :
    Calls Tryz.prog 36 #[v] w (RetRat q w) := by
  obtain ⟨s, v1, v2, xs, ys, rfl, h1, h2, rfl, hL1, hL2⟩ := h
  have l1 := limbs_len_val h1.lt
  have l2 := limbs_len_val h2.lt
  have G1 := Lib.hid (fun w1 (hb : Below w.heap.size w w1) => refTrim w1 v1 xs _ (h1.below hb (Nat.le_refl _)) (by omega))
  have G2 := Lib.hid (fun w1 (hb : Below w.heap.size w w1) => refTrim w1 v2 ys _ (h2.below hb (Nat.le_refl _)) (by omega))
  obtain ⟨ao1, c1, rfl, _⟩ := h1.open
  obtain ⟨ao2, c2, rfl, _⟩ := h2.open
  clear h1 h2
  generalize val xs = m at *
  generalize val ys = n at *
  generalize xs.length = n1 at *
  generalize ys.length = n2 at *
  have hm : (limbs m).length ≤ 500000000000 := by omega
  have hn : (limbs n).length ≤ 500000000000 := by omega
  clear hL1 hL2 l1 l2
  have hcase : (m = 0 ∨ n = 0) ∧ qv s m n = 0 ∧ (((((limbs n).length : Int) == 0) = true) ∨ (((((limbs n).length : Int) == 0) = false) ∧ ((((limbs m).length : Int) == 0) = true))) ∨ (m ≠ 0 ∧ n ≠ 0 ∧ (((limbs n).length : Int) == 0) = false ∧ (((limbs m).length : Int) == 0) = false) := by
    by_cases hz : m = 0 ∨ n = 0
    · refine .inl ⟨hz, ?_, ?_⟩
      · rcases hz with h | h
        · subst h; exact qv_zero_num _ _
        · subst h; exact qv_zero_den _ _
      · by_cases h : n = 0
        · subst h; left; rfl
        · right
          rcases hz with h' | h'
          · subst h'
            exact ⟨beq_eq_false_iff_ne.2 fun hc => h (limbs_len_zero.1 (by omega)), rfl⟩
          · exact absurd h' h
    · have hm0 : m ≠ 0 := fun h => hz (.inl h)
      have hn0 : n ≠ 0 := fun h => hz (.inr h)
      exact .inr ⟨hm0, hn0, beq_eq_false_iff_ne.2 fun hc => hn0 (limbs_len_zero.1 (by omega)), beq_eq_false_iff_ne.2 fun hc => hm0 (limbs_len_zero.1 (by omega))⟩
  have S0 : Hid (m ≠ 0 → n ≠ 0 → ∀ w' v1 v2, Nt w.heap.size w' v1 (limbs (m / Nat.gcd m n)) → Nt w.heap.size w' v2 (limbs (n / Nat.gcd m n)) → RatC w.heap.size w' (.agg #[.bool s, v1, v2]) (qv s m n)) := Lib.hid (by
    intro hm0 hn0 w' v1 v2 h1 h2
    obtain ⟨e1, e2, e3⟩ := nm_qv s m n hm0 hn0
    exact ⟨v1, v2, by rw [e3], by rw [e1]; exact h1, by rw [e2]; exact h2⟩)
  unfold RetNat at G1 G2
  rcases hcase with ⟨_, hq, hT⟩ | ⟨hm0, hn0, hT2, hT1⟩
  · rw [hq]
    clear hq S0
    generalize limbs m = A at *
    generalize limbs n = C at *
    rcases hT with hT | ⟨hT, hT2⟩
    all_goals
      go_enter Tryz.func36, Tryz.ntmps36
      go_wp2_with fail
      obtain ⟨K, rfl, hb0, hB1, hB2⟩ := boxesR w (.bool s) (.slice ao1 n1 c1) (.slice ao2 n2 c2)
      generalize ((w.alloc (.cells #[.bool s, .slice ao1 n1 c1, .slice ao2 n2 c2] 24)).alloc (.cells #[.bool false, .slice none 0 0, .slice none 0 0] 24)) = w0 at *
      have hS : Hid (∀ w', Below w0.heap.size w0 w' → w'.cell? ⟨w.heap.size, 1, none⟩ = some (.slice ao1 n1 c1) ∧ w'.cell? ⟨w.heap.size, 2, none⟩ = some (.slice ao2 n2 c2)) := Lib.hid (fun w' hb => ⟨(hB1.below hb (Nat.le_refl _)).at 1 rfl, (hB1.below hb (Nat.le_refl _)).at 2 rfl⟩)
      have b0 : Below w0.heap.size w0 w0.drew := (Below.refl _ _).drew
      have hb00 : Below w.heap.size w w0.drew := hb0.drew
      go_region_held3 (fun w' => w'.cell? ⟨w.heap.size, 1, none⟩ = some (.slice ao1 n1 c1) ∧ w'.cell? ⟨w.heap.size, 2, none⟩ = some (.slice ao2 n2 c2))
        (first | exact hS.out _ b0 | exact hS.out _ b1 | exact hS.out _ b2)
        (first
          | ((go_simp; go_at_call 37; (with_reducible refine (G1.out w0.drew hb00).mono ?_); rintro e w1 ⟨u1, rfl, t1, e1⟩; have b1 := bthen b0 e1; have hb01 := bthen hb00 e1; obtain ⟨ao3, c3, rfl, _⟩ := t1.open))
          | ((go_simp; go_at_call 37; (with_reducible refine (G2.out w1 hb01).mono ?_); rintro e w2 ⟨u2, rfl, t2, e2⟩; have b2 := bthen b1 e2; have hb02 := bthen hb01 e2; obtain ⟨ao4, c4, rfl, _⟩ := t2.open)))
      clear hS t1 t2 G1 G2
      have hB3 := hB2.below b2 (Nat.le_refl _)
      have k0 := hB3.at 0 rfl
      have k1 := hB3.at 1 rfl
      have k2 := hB3.at 2 rfl
      have f0 := hB3.fr 0
      have f1 := hB3.fr 1
      have f2 := hB3.fr 2
      have hKs : w.heap.size + 1 < w2.heap.size := hB3.lt
      go_wp2
      have hB4 := hB3.stored3 (x := .bool false) (y := .slice none 0 0) (z := .slice (some ⟨w2.heap.size, 0, none⟩) 1 1)
      have hbS := below_set3 (x := .bool false) (y := .slice none 0 0) (z := .slice (some ⟨w2.heap.size, 0, none⟩) 1 1) (g := w.heap.size + 1) hb02 (by omega)
      have hsz : (S3 w2 (w.heap.size + 1) (.bool false) (.slice none 0 0) (.slice (some ⟨w2.heap.size, 0, none⟩) 1 1)).heap.size = w2.heap.size := size_S3
      have t3 := nt_one 46 (S3 w2 (w.heap.size + 1) (.bool false) (.slice none 0 0) (.slice (some ⟨w2.heap.size, 0, none⟩) 1 1)) 1 1 rfl (by omega)
      rw [hsz] at t3
      have hB5 := hB4.al (o := .cells #[.int .u32 1] 46)
      have hbE := Below.al (o := .cells #[.int .u32 1] 46) hbS
      have r0 := hB5.at 0 rfl
      have r1 := hB5.at 1 rfl
      have r2 := hB5.at 2 rfl
      exact bodyPost_ret (v := .agg #[.bool false, .slice none 0 0, .slice (some ⟨w2.heap.size, 0, none⟩) 1 1]) (by simp [results, Tryz.results36, go_sem, r0, r1, r2]) rfl
            ⟨_, rfl, ⟨_, _, rfl, Nt.nil _ _, t3.mono (by omega)⟩, hbE⟩
  · have hgl : (limbs (Nat.gcd m n)).length ≤ 500000000000 := Nat.le_trans (limbs_len_mono (Nat.le_of_dvd (Nat.pos_of_ne_zero hm0) (Nat.gcd_dvd_left m n))) hm
    have CG := Lib.hid (fun w1 v1 v2 b1 b2 h1 h2 => cGcd w1 v1 v2 m n b1 b2 h1 h2 hm hn)
    have CM := Lib.hid (fun w1 v1 v2 b1 b2 h1 h2 => cDivMod w1 v1 v2 m (Nat.gcd m n) b1 b2 h1 h2 hm hgl)
    have CN := Lib.hid (fun w1 v1 v2 b1 b2 h1 h2 => cDivMod w1 v1 v2 n (Nat.gcd m n) b1 b2 h1 h2 hn hgl)
    have HR := Lib.hid (S0.out hm0 hn0)
    unfold RetNat at CG
    unfold RetDivMod at CM CN
    clear hgl hm hn S0
    generalize limbs (m / Nat.gcd m n) = QM at *
    generalize limbs (n / Nat.gcd m n) = QN at *
    generalize limbs (Nat.gcd m n) = GG at *
    generalize limbs m = A at *
    generalize limbs n = C at *
    go_enter Tryz.func36, Tryz.ntmps36
    go_wp2_with fail
    obtain ⟨K, rfl, hb0, hB1, hB2⟩ := boxesR w (.bool s) (.slice ao1 n1 c1) (.slice ao2 n2 c2)
    generalize ((w.alloc (.cells #[.bool s, .slice ao1 n1 c1, .slice ao2 n2 c2] 24)).alloc (.cells #[.bool false, .slice none 0 0, .slice none 0 0] 24)) = w0 at *
    have hS : Hid (∀ w', Below w0.heap.size w0 w' → w'.cell? ⟨w.heap.size, 1, none⟩ = some (.slice ao1 n1 c1) ∧ w'.cell? ⟨w.heap.size, 2, none⟩ = some (.slice ao2 n2 c2)) := Lib.hid (fun w' hb => ⟨(hB1.below hb (Nat.le_refl _)).at 1 rfl, (hB1.below hb (Nat.le_refl _)).at 2 rfl⟩)
    have b0 : Below w0.heap.size w0 w0.drew := (Below.refl _ _).drew
    have hb00 : Below w.heap.size w w0.drew := hb0.drew
    go_region_held3 (fun w' => w'.cell? ⟨w.heap.size, 1, none⟩ = some (.slice ao1 n1 c1) ∧ w'.cell? ⟨w.heap.size, 2, none⟩ = some (.slice ao2 n2 c2))
      (first | exact hS.out _ b0 | exact hS.out _ b1 | exact hS.out _ b2)
      (first
        | ((go_simp; go_at_call 37; (with_reducible refine (G1.out w0.drew hb00).mono ?_); rintro e w1 ⟨u1, rfl, t1, e1⟩; have b1 := bthen b0 e1; have hb01 := bthen hb00 e1; obtain ⟨ao3, c3, rfl, _⟩ := t1.open))
        | ((go_simp; go_at_call 37; (with_reducible refine (G2.out w1 hb01).mono ?_); rintro e w2 ⟨u2, rfl, t2, e2⟩; have b2 := bthen b1 e2; have hb02 := bthen hb01 e2; obtain ⟨ao4, c4, rfl, _⟩ := t2.open)))
    replace t1 := t1.below e2 (Nat.le_refl _)
    replace hB1 := hB1.below b2 (Nat.le_refl _)
    replace hB2 := hB2.below b2 (Nat.le_refl _)
    have hg2 : w.heap.size + 1 < w2.heap.size := hB2.lt
    clear hS G1 G2 hb01 hb00 b1 e1 e2 b2
    go_wp2_with fail
    refine (CG.out w2 _ _ _ _ t1 t2).mono ?_
    rintro e w3 ⟨u3, rfl, t3, hb3⟩
    obtain ⟨ao5, c5, rfl, _⟩ := t3.open
    replace hB1 := hB1.below hb3 (Nat.le_refl _)
    replace hB2 := hB2.below hb3 (Nat.le_refl _)
    have hb03 := bthen hb02 hb3
    have hg3 : w.heap.size + 1 < w3.heap.size := hB2.lt
    replace t1 := t1.below hb3 (Nat.le_refl _)
    replace t2 := t2.below hb3 (Nat.le_refl _)
    clear hb02 hb3
    go_wp2_with fail
    refine (CM.out w3 _ _ _ _ t1 t3).mono ?_
    rintro e w4 ⟨u4, u4', rfl, t4, _, hb4⟩
    obtain ⟨ao6, c6, rfl, _⟩ := t4.open
    replace hB1 := hB1.below hb4 (Nat.le_refl _)
    replace hB2 := hB2.below hb4 (Nat.le_refl _)
    have hb04 := bthen hb03 hb4
    have hg4 : w.heap.size + 1 < w4.heap.size := hB2.lt
    replace t2 := t2.below hb4 (Nat.le_refl _)
    replace t3 := t3.below hb4 (Nat.le_refl _)
    clear hb03 hb4
    go_wp2_with fail
    refine (CN.out w4 _ _ _ _ t2 t3).mono ?_
    rintro e w5 ⟨u5, u5', rfl, t5, _, hb5⟩
    obtain ⟨ao7, c7, rfl, _⟩ := t5.open
    replace hB1 := hB1.below hb5 (Nat.le_refl _)
    replace hB2 := hB2.below hb5 (Nat.le_refl _)
    have hb05 := bthen hb04 hb5
    replace t4 := t4.below hb5 (Nat.le_refl _)
    have k00 := hB1.at 0 rfl
    have k0 := hB2.at 0 rfl
    have k1 := hB2.at 1 rfl
    have k2 := hB2.at 2 rfl
    have f0 := hB2.fr 0
    have f1 := hB2.fr 1
    have f2 := hB2.fr 2
    clear hb04 hb5 t1 t2 t3
    go_wp2
    have hB5 := hB2.stored3 (x := .bool s) (y := .slice ao6 QM.length c6) (z := .slice ao7 QN.length c7)
    have r0 := hB5.at 0 rfl
    have r1 := hB5.at 1 rfl
    have r2 := hB5.at 2 rfl
    exact bodyPost_ret (v := .agg #[.bool s, .slice ao6 QM.length c6, .slice ao7 QN.length c7]) (by simp [results, Tryz.results36, go_sem, r0, r1, r2]) rfl
      ⟨_, rfl, HR.out _ _ _ ((t4.set3 hg3).mono (by omega)) ((t5.set3 hg4).mono (by omega)), below_set3 hb05 (by omega)⟩
end Go.Proofs.YtocpmekblkfdiaaGreatDoor
namespace Go.Proofs.YtocpmekblkfdiaaGreatDoor
open Go.RowKit
set_option maxRecDepth 100000 in
set_option maxHeartbeats 2000000 in
theorem r2Of (w : World) (s : Bool) (v1 v2 : Value) (xs ys : List Nat) (b1 b2 : Nat) (h1 : Nt b1 w v1 xs) (h2 : Nt b2 w v2 ys) (hL1 : xs.length ≤ 100000000000) (hL2 : ys.length ≤ 100000000000) :
    Calls Tryz.prog 13 #[.bool s, v1, v2] w (RetRat (qv s (val xs) (val ys)) w) := by
  have CO := Lib.hid (fun w1 (hb : Below w.heap.size w w1) => r2Norm w1 (.agg #[.bool s, v1, v2]) (qv s (val xs) (val ys)) ⟨s, v1, v2, xs, ys, rfl, (h1.below hb (Nat.le_refl _)).mono (Nat.zero_le _), (h2.below hb (Nat.le_refl _)).mono (Nat.zero_le _), rfl, hL1, hL2⟩)
  obtain ⟨ao1, c1, rfl, _⟩ := h1.open
  obtain ⟨ao2, c2, rfl, _⟩ := h2.open
  generalize xs.length = n1 at *
  generalize ys.length = n2 at *
  generalize qv s (val xs) (val ys) = q at *
  clear h1 h2
  go_enter Tryz.func13, Tryz.ntmps13
  go_wp2_with fail
  have hb1 : Below w.heap.size w (w.alloc (.cells #[.bool false, .slice none 0 0, .slice none 0 0] 24)) := (Below.refl _ _).alloc (Nat.le_refl _) _
  have hB1 := Bx.new 24 w [.bool false, .slice none 0 0, .slice none 0 0]
  generalize (w.alloc (.cells #[.bool false, .slice none 0 0, .slice none 0 0] 24)) = w1 at *
  have hg1 : w.heap.size < w1.heap.size := hB1.lt
  refine (CO.out w1 hb1).mono ?_
  rintro e w2 ⟨v, rfl, hC, hb2⟩
  obtain ⟨s3, ao3, n3, c3, ao4, n4, c4, rfl⟩ := hC.open
  have hB2 := hB1.below hb2 (Nat.le_refl _)
  have hb02 := bthen hb1 hb2
  have k0 := hB2.at 0 rfl
  have k1 := hB2.at 1 rfl
  have k2 := hB2.at 2 rfl
  have f0 := hB2.fr 0
  have f1 := hB2.fr 1
  have f2 := hB2.fr 2
  clear hb1 hb2 hB1
  go_wp2
  have hB5 := hB2.stored3 (x := .bool s3) (y := .slice ao3 n3 c3) (z := .slice ao4 n4 c4)
  have r0 := hB5.at 0 rfl
  have r1 := hB5.at 1 rfl
  have r2 := hB5.at 2 rfl
  exact bodyPost_ret (v := .agg #[.bool s3, .slice ao3 n3 c3, .slice ao4 n4 c4]) (by simp [results, Tryz.results13, go_sem, r0, r1, r2]) rfl
    ⟨_, rfl, (hC.set3 hg1).mono (by omega), below_set3 hb02 (by omega)⟩
end Go.Proofs.YtocpmekblkfdiaaGreatDoor
namespace Go.Proofs.YtocpmekblkfdiaaGreatDoor
open Go.RowKit
set_option maxRecDepth 100000 in
set_option maxHeartbeats 2000000 in
theorem r2Neg (w : World) (v : Value) (q : Rat) (h : RatR 100000000000 w v q) :
    Calls Tryz.prog 35 #[v] w (RetRat (-q) w) := by
  have C1 := Lib.hid (fun w1 (hb : Below w.heap.size w w1) => r2Norm w1 v q (h.below hb (Nat.le_refl _)))
  obtain ⟨s1, p1, i1, c1, o1, j1, d1, rfl⟩ := h.open
  clear h
  go_enter Tryz.func35, Tryz.ntmps35
  go_wp2_with fail
  obtain ⟨K, rfl, hb0, hB1, hB2⟩ := boxesR w (.bool s1) (.slice p1 i1 c1) (.slice o1 j1 d1)
  generalize ((w.alloc (.cells #[.bool s1, .slice p1 i1 c1, .slice o1 j1 d1] 24)).alloc (.cells #[.bool false, .slice none 0 0, .slice none 0 0] 24)) = w0 at *
  have hg0 := hB2.lt
  refine (C1.out w0 hb0).mono ?_
  rintro e w1 ⟨u, rfl, ⟨x1, x2, rfl, n1, n2⟩, hb1⟩
  obtain ⟨p2, c2, rfl, _⟩ := n1.open
  obtain ⟨o2, d2, rfl, _⟩ := n2.open
  have hbT := bthen hb0 hb1
  replace hB2 := hB2.below hb1 (Nat.le_refl _)
  have hz1 := hb1.size
  have HN := Lib.hid (ng_neg q)
  have HP : Hid (∀ w' b y1 y2, Nt b w' y1 (limbs (nm q)) → Nt b w' y2 (limbs q.den) → RatC b w' (.agg #[.bool (!ng q && decide (0 < (limbs (nm q)).length)), y1, y2]) (-q)) :=
    Lib.hid (fun w' b y1 y2 m1 m2 => ⟨y1, y2, by rw [ng_neg], by rw [nm_neg]; exact m1, by rw [den_neg]; exact m2⟩)
  have k0 := hB2.at 0 rfl
  have k1 := hB2.at 1 rfl
  have k2 := hB2.at 2 rfl
  have f0 := hB2.fr 0
  have f1 := hB2.fr 1
  have f2 := hB2.fr 2
  have hg1 := hB2.lt
  clear C1 hb0 hb1 HN
  have hcase : (ng q = true) ∨ (ng q = false ∧ decide ((0 : Int) < ((limbs (nm q)).length : Int)) = true ∧ decide (0 < (limbs (nm q)).length) = true) ∨ (ng q = false ∧ decide ((0 : Int) < ((limbs (nm q)).length : Int)) = false ∧ decide (0 < (limbs (nm q)).length) = false) := by
    cases hn : ng q
    · by_cases hl : 0 < (limbs (nm q)).length
      · exact .inr (.inl ⟨rfl, decide_eq_true (by omega), decide_eq_true hl⟩)
      · exact .inr (.inr ⟨rfl, decide_eq_false (by omega), decide_eq_false hl⟩)
    · exact .inl rfl
  generalize ng q = sq at *
  rcases hcase with rfl | ⟨rfl, q1, q2⟩ | ⟨rfl, q1, q2⟩
  · have HP' := Lib.hid (HP.out)
    simp only [Bool.not_true, Bool.false_and] at HP'
    clear HP
    generalize limbs (nm q) = A at *
    generalize limbs q.den = B at *
    go_wp2
    have hR := Bx.stored3 (x := .bool false) (y := .slice p2 A.length c2) (z := .slice o2 B.length d2) hB2
    have hR2 := hR.al (o := .cells #[.bool false, .slice p2 A.length c2, .slice o2 B.length d2] 24)
    have r0 := hR2.at 0 rfl
    have r1 := hR2.at 1 rfl
    have r2 := hR2.at 2 rfl
    exact bodyPost_ret (v := .agg #[.bool false, .slice p2 A.length c2, .slice o2 B.length d2]) (by simp [results, Tryz.results35, go_sem, r0, r1, r2]) rfl
      ⟨_, rfl, (HP'.out _ _ _ _ (((n1.set3 hg0).below ((Below.refl _ _).alloc (Nat.le_refl _) _) (Nat.le_refl _))) (((n2.set3 hg0).below ((Below.refl _ _).alloc (Nat.le_refl _) _) (Nat.le_refl _)))).mono (by omega), Below.al (below_set3 hbT (by omega))⟩
  · have HP' := Lib.hid (HP.out)
    simp only [Bool.not_false, Bool.true_and, q2] at HP'
    clear HP
    clear q1
    generalize limbs (nm q) = A at *
    generalize limbs q.den = B at *
    go_wp2
    have hR := Bx.stored3 (x := .bool true) (y := .slice p2 A.length c2) (z := .slice o2 B.length d2) hB2
    have hR2 := hR.al (o := .cells #[.bool true, .slice p2 A.length c2, .slice o2 B.length d2] 24)
    have r0 := hR2.at 0 rfl
    have r1 := hR2.at 1 rfl
    have r2 := hR2.at 2 rfl
    exact bodyPost_ret (v := .agg #[.bool true, .slice p2 A.length c2, .slice o2 B.length d2]) (by simp [results, Tryz.results35, go_sem, r0, r1, r2]) rfl
      ⟨_, rfl, (HP'.out _ _ _ _ (((n1.set3 hg0).below ((Below.refl _ _).alloc (Nat.le_refl _) _) (Nat.le_refl _))) (((n2.set3 hg0).below ((Below.refl _ _).alloc (Nat.le_refl _) _) (Nat.le_refl _)))).mono (by omega), Below.al (below_set3 hbT (by omega))⟩
  · have HP' := Lib.hid (HP.out)
    simp only [Bool.not_false, Bool.true_and, q2] at HP'
    clear HP
    clear q1
    generalize limbs (nm q) = A at *
    generalize limbs q.den = B at *
    go_wp2
    have hR := Bx.stored3 (x := .bool false) (y := .slice p2 A.length c2) (z := .slice o2 B.length d2) hB2
    have hR2 := hR.al (o := .cells #[.bool false, .slice p2 A.length c2, .slice o2 B.length d2] 24)
    have r0 := hR2.at 0 rfl
    have r1 := hR2.at 1 rfl
    have r2 := hR2.at 2 rfl
    exact bodyPost_ret (v := .agg #[.bool false, .slice p2 A.length c2, .slice o2 B.length d2]) (by simp [results, Tryz.results35, go_sem, r0, r1, r2]) rfl
      ⟨_, rfl, (HP'.out _ _ _ _ (((n1.set3 hg0).below ((Below.refl _ _).alloc (Nat.le_refl _) _) (Nat.le_refl _))) (((n2.set3 hg0).below ((Below.refl _ _).alloc (Nat.le_refl _) _) (Nat.le_refl _)))).mono (by omega), Below.al (below_set3 hbT (by omega))⟩
end Go.Proofs.YtocpmekblkfdiaaGreatDoor
