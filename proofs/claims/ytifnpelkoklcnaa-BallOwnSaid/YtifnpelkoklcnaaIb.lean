/- Contract of ball.Of: what it answers lies in new memory. Condition: at most 10^11 limbs. -/
import Derived.Test.YtifnpelkoklcnaaIa
import Derived.Test.YtifnpelkoklcnaaAu
namespace Go.Proofs.Ytifnpelkoklcnaa
open Go.RowKit

def RetBall (q : Rat) (w : World) (e : Ending) (w' : World) : Prop :=
  ∃ s1 x1 y1 s2 x2 y2, e = .returned (.agg #[s1, x1, y1, s2, x2, y2]) ∧ RatC w.heap.size w' (.agg #[s1, x1, y1]) q ∧ RatC w.heap.size w' (.agg #[s2, x2, y2]) q ∧ Below w.heap.size w w'
theorem Bx.stored6 {t : Nat} {w : World} {g : Nat} {a b c d e f x y z u v r : Value} (h : Bx t w g [a, b, c, d, e, f]) : Bx t ((((((w.setCell ⟨g, 0, none⟩ x).setCell ⟨g, 1, none⟩ y).setCell ⟨g, 2, none⟩ z).setCell ⟨g, 3, none⟩ u).setCell ⟨g, 4, none⟩ v).setCell ⟨g, 5, none⟩ r) g [x, y, z, u, v, r] := h.st.st.st.st.st.st
theorem cS6 {w : World} {g g' i : Nat} {x y z u v r : Value} (hne : g ≠ g') : ((((((w.setCell ⟨g', 0, none⟩ x).setCell ⟨g', 1, none⟩ y).setCell ⟨g', 2, none⟩ z).setCell ⟨g', 3, none⟩ u).setCell ⟨g', 4, none⟩ v).setCell ⟨g', 5, none⟩ r).cell? ⟨g, i, none⟩ = w.cell? ⟨g, i, none⟩ := by
  have h : ∀ k, (⟨g', k, none⟩ : Addr) ≠ ⟨g, i, none⟩ := fun k e => hne (congrArg Addr.block e).symm
  rw [World.cell?_setCell_other _ _ _ _ (h 5), World.cell?_setCell_other _ _ _ _ (h 4), World.cell?_setCell_other _ _ _ _ (h 3), World.cell?_setCell_other _ _ _ _ (h 2), World.cell?_setCell_other _ _ _ _ (h 1), World.cell?_setCell_other _ _ _ _ (h 0)]
theorem RatC.set6 {base : Nat} {w : World} {v0 : Value} {q : Rat} (h : RatC base w v0 q) {g : Nat} (hg : g < base) {x y z u v r : Value} : RatC base ((((((w.setCell ⟨g, 0, none⟩ x).setCell ⟨g, 1, none⟩ y).setCell ⟨g, 2, none⟩ z).setCell ⟨g, 3, none⟩ u).setCell ⟨g, 4, none⟩ v).setCell ⟨g, 5, none⟩ r) v0 q :=
  h.keeps ((((((Keeps.refl _ _ _).st (.inl hg)).st (.inl hg)).st (.inl hg)).st (.inl hg)).st (.inl hg) |>.st (.inl hg))
theorem below_set6 {B g : Nat} {w0 w : World} {x y z u v r : Value} (h : Below B w0 w) (hg : B ≤ g) : Below B w0 ((((((w.setCell ⟨g, 0, none⟩ x).setCell ⟨g, 1, none⟩ y).setCell ⟨g, 2, none⟩ z).setCell ⟨g, 3, none⟩ u).setCell ⟨g, 4, none⟩ v).setCell ⟨g, 5, none⟩ r) :=
  (((((h.setCell (by exact hg) _).setCell (by exact hg) _).setCell (by exact hg) _).setCell (by exact hg) _).setCell (by exact hg) _).setCell (by exact hg) _

set_option maxRecDepth 100000 in
set_option maxHeartbeats 4000000 in
theorem ballOfE (w : World) (v1 : Value) (a : Rat) (h1 : RatR 1000000000000 w v1 a)  :
    Calls Try.prog 14 #[v1] w (RetBall a w) := by
  have z1 := h1.size (by omega)
  obtain ⟨s1, p1, i1, c1, o1, j1, d1, rfl⟩ := h1.open
  go_enter Try.func14, Try.ntmps14
  go_wp2_with fail
  have hbN : Below w.heap.size w ((w.alloc (.cells #[.bool s1, .slice p1 i1 c1, .slice o1 j1 d1] 24)).alloc (.cells #[.bool false, .slice none 0 0, .slice none 0 0, .bool false, .slice none 0 0, .slice none 0 0] 28)) := allocs_below [(.cells #[.bool s1, .slice p1 i1 c1, .slice o1 j1 d1] 24), (.cells #[.bool false, .slice none 0 0, .slice none 0 0, .bool false, .slice none 0 0, .slice none 0 0] 28)] w
  have Q0 : Bx 24 ((w.alloc (.cells #[.bool s1, .slice p1 i1 c1, .slice o1 j1 d1] 24)).alloc (.cells #[.bool false, .slice none 0 0, .slice none 0 0, .bool false, .slice none 0 0, .slice none 0 0] 28)) (w.heap.size) [.bool s1, .slice p1 i1 c1, .slice o1 j1 d1] := allocs_at [(.cells #[.bool s1, .slice p1 i1 c1, .slice o1 j1 d1] 24), (.cells #[.bool false, .slice none 0 0, .slice none 0 0, .bool false, .slice none 0 0, .slice none 0 0] 28)] w 0 _ rfl
  have Q1 : Bx 28 ((w.alloc (.cells #[.bool s1, .slice p1 i1 c1, .slice o1 j1 d1] 24)).alloc (.cells #[.bool false, .slice none 0 0, .slice none 0 0, .bool false, .slice none 0 0, .slice none 0 0] 28)) (w.heap.size + 1) [.bool false, .slice none 0 0, .slice none 0 0, .bool false, .slice none 0 0, .slice none 0 0] := allocs_at [(.cells #[.bool s1, .slice p1 i1 c1, .slice o1 j1 d1] 24), (.cells #[.bool false, .slice none 0 0, .slice none 0 0, .bool false, .slice none 0 0, .slice none 0 0] 28)] w 1 _ rfl
  generalize ((w.alloc (.cells #[.bool s1, .slice p1 i1 c1, .slice o1 j1 d1] 24)).alloc (.cells #[.bool false, .slice none 0 0, .slice none 0 0, .bool false, .slice none 0 0, .slice none 0 0] 28)) = w1 at *
  have hbT := hbN
  replace h1 := h1.below hbN (Nat.le_refl _)
  have sz_w1 := hbN.size
  clear hbN
  have hgr0 := Q1.lt
  have hS : Hid (∀ w', Below w1.heap.size w1 w' → w'.cell? ⟨w.heap.size, 0, none⟩ = some (.bool s1) ∧ w'.cell? ⟨w.heap.size, 1, none⟩ = some (.slice p1 i1 c1) ∧ w'.cell? ⟨w.heap.size, 2, none⟩ = some (.slice o1 j1 d1)) := Lib.hid (fun w' hb => by
    have h0 := Q0.below hb (Nat.le_refl _)
    exact ⟨h0.at 0 rfl, h0.at 1 rfl, h0.at 2 rfl⟩)
  have b0 : Below w1.heap.size w1 w1.drew := (Below.refl _ _).drew
  have hgr := Q1.lt
  have hlt_0 := Q0.lt
  go_region_held3 (fun w' => w'.cell? ⟨w.heap.size, 0, none⟩ = some (.bool s1) ∧ w'.cell? ⟨w.heap.size, 1, none⟩ = some (.slice p1 i1 c1) ∧ w'.cell? ⟨w.heap.size, 2, none⟩ = some (.slice o1 j1 d1))
    (first | with_reducible exact hS.out _ b0 | with_reducible exact hS.out _ b1 | with_reducible exact hS.out _ b2 | exact ⟨(cS6 (by omega)).trans (hS.out _ b2).1, (cS6 (by omega)).trans (hS.out _ b2).2.1, (cS6 (by omega)).trans (hS.out _ b2).2.2⟩)
    (first
      | ((go_simp; go_at_call 64; (with_reducible refine (ratNorm w1.drew _ a ((h1.below b0 (Nat.le_refl _)).more (by omega))).mono ?_); rintro e x1 ⟨u1, rfl, t1, e1⟩; have b1 := bthen b0 e1; obtain ⟨sR, pR, iR, cR, oR, jR, dR, rfl⟩ := t1.open))
      | ((go_simp; go_at_call 64; (with_reducible refine (ratNorm x1 _ a ((h1.below b1 (Nat.le_refl _)).more (by omega))).mono ?_); rintro e x2 ⟨u2, rfl, t2, e2⟩; have b2 := bthen b1 e2; obtain ⟨sT, pT, iT, cT, oT, jT, dT, rfl⟩ := t2.open; have Qr_ := Q1.below b2 (Nat.le_refl _); have k_0 := Qr_.at 0 rfl; have k_1 := Qr_.at 1 rfl; have k_2 := Qr_.at 2 rfl; have k_3 := Qr_.at 3 rfl; have k_4 := Qr_.at 4 rfl; have k_5 := Qr_.at 5 rfl; have f_0 := Qr_.fr 0; have f_1 := Qr_.fr 1; have f_2 := Qr_.fr 2; have f_3 := Qr_.fr 3; have f_4 := Qr_.fr 4; have f_5 := Qr_.fr 5)))
  clear hS
  have hbE := bthen hbT b2
  go_wp2_with fail
  have HR := Bx.stored6 (x := .bool sR) (y := .slice pR iR cR) (z := .slice oR jR dR) (u := .bool sT) (v := .slice pT iT cT) (r := .slice oT jT dT) Qr_
  have r0 := HR.at 0 rfl
  have r1 := HR.at 1 rfl
  have r2 := HR.at 2 rfl
  have r3 := HR.at 3 rfl
  have r4 := HR.at 4 rfl
  have r5 := HR.at 5 rfl
  have hz0 := hbT.size
  have hz1 := b1.size
  have hz2 := b2.size
  have hz3 : w1.drew.heap.size = w1.heap.size := rfl
  exact bodyPost_ret (v := .agg #[.bool sR, .slice pR iR cR, .slice oR jR dR, .bool sT, .slice pT iT cT, .slice oT jT dT]) (by simp [results, Try.results14, go_sem, r0, r1, r2, r3, r4, r5]) rfl
    ⟨_, _, _, _, _, _, rfl, ((t1.below e2 (Nat.le_refl _)).set6 (by omega)).mono (by omega), (t2.set6 (by omega)).mono (by omega), below_set6 hbE (by omega)⟩

theorem sn_ball_Of : SoundN Try.prog 14 d_ball_Of :=
  told1N Try.call14 (fun _ => rfl) fun a X w u h hu Y hY => by
    refine (ballOfE w u a.q ((rat_R hu h).more (by omega))).mono ?_
    rintro e w' ⟨s1, x1, y1, s2, x2, y2, rfl, h1, h2, hb⟩
    refine ⟨_, rfl, ?_, hb⟩
    obtain ⟨vs1, e1, l1⟩ := ratC_P h1 hY
    obtain ⟨vs2, e2, l2⟩ := ratC_P h2 hY
    have f1 : [s1, x1, y1] = vs1 := congrArg Array.toList (Value.agg.inj e1)
    have f2 : [s2, x2, y2] = vs2 := congrArg Array.toList (Value.agg.inj e2)
    subst f1 f2
    exact ⟨[s1, x1, y1, s2, x2, y2], rfl, all2_append l1 l2⟩


end Go.Proofs.Ytifnpelkoklcnaa
