/- Functions that change a row of the caller's, by the abstract walk. No condition. -/
import Derived.Test.YtocpmekblkfdiaaGreatDoorAm
namespace Go.Proofs.YtocpmekblkfdiaaGreatDoor
open Go.RowKit
/-- the heap's first blocks alone -/
def worldCut (w : World) (b : Nat) : World := { w with heap := w.heap.extract 0 b }
theorem worldCut_size {w : World} {b : Nat} (h : b ≤ w.heap.size) : (worldCut w b).heap.size = b := by unfold worldCut; simp; omega
theorem worldCut_below {w : World} {b : Nat} (h : b ≤ w.heap.size) : Below (worldCut w b).heap.size (worldCut w b) w := by
  refine ⟨rfl, rfl, rfl, by rw [worldCut_size h]; exact h, fun k hk => ?_⟩
  rw [worldCut_size h] at hk
  unfold worldCut
  simp only [Array.getElem?_extract, Nat.zero_add]
  rw [if_pos (by omega)]
/-- all that was there is there, but for a block -/
def keptP (w : World) (b cap : Nat) (X0 : Nat → Nat → Prop) (σ κ : Nat) (X : Nat → Nat → Prop) (who : Nat → Option (Nat × Bool)) (w' : World) : Prop :=
  σ = b ∧ κ = cap ∧ w.heap.size ≤ w'.heap.size ∧ (∀ k, who k ≠ none → 0 < cap ∧ k = b ∨ w.heap.size ≤ k) ∧ (∀ k, k < w.heap.size → ¬ (0 < cap ∧ k = b) → w'.heap[k]? = w.heap[k]?) ∧ ∀ k o, k < w.heap.size → ¬ (0 < cap ∧ k = b) → X0 k o → X k o
theorem keptP_step {w : World} {b cap : Nat} {X0 : Nat → Nat → Prop} (u v : Nat) (X : Nat → Nat → Prop) (who : Nat → Option (Nat × Bool)) (w1 : World) (X' : Nat → Nat → Prop) (who' : Nat → Option (Nat × Bool)) (w2 : World) (h : keptP w b cap X0 u v X who w1) (s : Step X who w1 X' who' w2) : keptP w b cap X0 u v X' who' w2 := by
  obtain ⟨h1, h2, h3, h4, h5, h6⟩ := h
  obtain ⟨s1, s2, s3, s4⟩ := s
  have hw : ∀ k, k < w.heap.size → ¬ (0 < cap ∧ k = b) → who k = none := fun k hk hn => by
    cases hq : who k with
    | none => rfl
    | some x =>
      rcases h4 k (by rw [hq]; simp) with h | h
      · exact absurd h hn
      · omega
  refine ⟨h1, h2, Nat.le_trans h3 s1, fun k hk => ?_, fun k hk hn => ?_, fun k o hk hn hx => s4 k o (hw k hk hn) (h6 k o hk hn hx)⟩
  · rcases s2 k hk with h | h
    · exact h4 k h
    · exact .inr (Nat.le_trans h3 h)
  · rw [s3 k (by omega) (hw k hk hn), h5 k hk hn]
theorem outOf_row {c c' : RC} {v : AV} (h : rowOf c v = some c') : outOf v = (v, .tup []) := by
  unfold rowOf at h
  split at h
  · rfl
  · rfl
  · cases h
theorem soundM_of_awp {P : Program} {E : Env} (hE : EnvOk P E) (hm : P.follows .mixedOrders = true) {f : Nat} {fn : Func} {c : Code} {d : Den} (hf : P.funcs[f]? = some fn) (hc : fn.body = some c) (hn : fn.ntmps = E.N) (hrs : fn.results = #[])
    (hcall : ∀ (args : Array Value) (w : World), (callFunc f args).run P w = .ok (.enter f args) w)
    (h : ∀ (r : RC) avs, (d (.one (.cel (cvRow (some r))) :: avs)).1 → r.ok → (∀ X w vs, All2 (fun a v => AV.P X w a v) avs vs → ∃ avs' r', rowOf r (d (.one (.cel (cvRow (some r))) :: avs)).2 = some r' ∧ r'.len = r.len ∧ r'.t = r.t ∧ argsLe avs avs' ∧ avs'.length + 1 ≤ E.N ∧ avs'.map AV.strip = avs' ∧
      ∀ p, awp E c (endsM p r') ((0, 0, .av (.one (.cel (.rf 0 r.len)))) :: (0, 1, .row r) :: (0, 2, .ext p) :: startOf 1 avs'))) : SoundM P f d := by
  refine ⟨hcall, fun r avs X w vs b cap ao hd hok hX hat hvs => ?_⟩
  obtain ⟨avs', r', ho, hl', ht', hle, hlen, hst, hawp⟩ := h r avs hd hok X w vs hvs
  have hvs' := hle X w vs hvs
  refine calls_of_wp hf hc ?_
  obtain ⟨a1, a2, a3, a4⟩ := hat
  let B : Nat := if 0 < cap then b else w.heap.size
  have hB : B ≤ w.heap.size := by
    show (if 0 < cap then b else w.heap.size) ≤ _
    split
    · rename_i hp; exact Nat.le_of_lt (a3 hp).1
    · exact Nat.le_refl _
  have hBs := worldCut_size hB
  let who0 : Nat → Option (Nat × Bool) := fun k => if 0 < cap ∧ k = b then some (0, true) else none
  have H : Gam E.N (fun k o => X k o ∧ k < B) (worldCut w B) ((0, 0, .av (.one (.cel (.rf 0 r.len)))) :: (0, 1, .row r) :: (0, 2, .ext (keptP w b cap X)) :: startOf 1 avs')
      { tmps := (Value.slice ao r.len cap :: vs).toArray ++ Array.replicate (fn.ntmps - (Value.slice ao r.len cap :: vs).toArray.size) undef, defers := [] } w ⟨fun _ => b, fun _ => cap, X⟩ who0 := by
    have hl := hvs'.len
    have hsz : ((Value.slice ao r.len cap :: vs).toArray ++ Array.replicate (fn.ntmps - (Value.slice ao r.len cap :: vs).toArray.size) undef).size = E.N := by simp [hn]; omega
    have hget : ∀ i u, (Value.slice ao r.len cap :: vs)[i]? = some u → ((Value.slice ao r.len cap :: vs).toArray ++ Array.replicate (fn.ntmps - (Value.slice ao r.len cap :: vs).toArray.size) undef).getD i undef = u := by
      intro i u hu
      have hlt := (List.getElem?_eq_some_iff.1 hu).1
      rw [Array.getD_eq_getD_getElem?, Array.getElem?_append_left (by simpa using hlt)]
      simp [hu]
    refine ⟨rfl, hsz, worldCut_below hB, fun k o hx => ⟨hx.1, by rw [hBs]; exact hx.2⟩, fun k o hx => ?_, hX, fun k x hx => ?_, fun n k rv hr => ?_⟩
    · rw [hBs]
      rcases Nat.lt_or_ge k B with hk | hk
      · exact .inl ⟨hx, hk⟩
      · exact .inr hk
    · left
      simp only [who0] at hx
      split at hx
      · rename_i hk
        rw [hk.2]
        exact (a3 hk.1).2.1
      · cases hx
    · by_cases h0 : 0 = n ∧ 0 = k
      · obtain ⟨rfl, rfl⟩ := h0
        rw [AS.get_cons_self] at hr
        cases hr
        refine ⟨rfl, by rw [hsz]; omega, ?_⟩
        rw [hget 0 _ rfl]
        refine ⟨ao, rfl, ?_⟩
        rcases a2 with ⟨e1, e2, e3⟩ | e
        · exact .inl ⟨e1, e2, e3⟩
        · exact .inr e
      rw [AS.get_cons_ne _ _ h0] at hr
      by_cases h1 : 0 = n ∧ 1 = k
      · obtain ⟨rfl, rfl⟩ := h1
        rw [AS.get_cons_self] at hr
        cases hr
        refine ⟨rfl, hok, a1, fun hp => ?_, a4⟩
        obtain ⟨q1, q2, q3⟩ := a3 hp
        have hBb : B = b := if_pos hp
        exact ⟨by rw [hBs, hBb]; exact Nat.le_refl _, q1, if_pos ⟨hp, rfl⟩, fun j hj => ⟨q2 j, q3 j hj⟩⟩
      rw [AS.get_cons_ne _ _ h1] at hr
      by_cases h2 : 0 = n ∧ 2 = k
      · obtain ⟨rfl, rfl⟩ := h2
        rw [AS.get_cons_self] at hr
        cases hr
        refine ⟨by omega, ⟨rfl, rfl, Nat.le_refl _, fun k hk => ?_, fun _ _ _ => rfl, fun _ _ _ _ h => h⟩, fun u v X1 who w1 X2 who' w2 hp hs => keptP_step u v X1 who w1 X2 who' w2 hp hs⟩
        simp only [who0] at hk
        split at hk
        · rename_i hh; exact .inl hh
        · exact absurd rfl hk
      rw [AS.get_cons_ne _ _ h2] at hr
      obtain ⟨h1', h2', v, h3, h4⟩ := get_startOf _ _ _ _ _ hr
      subst h4 h1'
      obtain ⟨u, hu, hP⟩ := hvs'.get h3
      have hu' : vs[n - 1]? = some u := by simpa using hu
      have hlt : n - 1 < vs.length := (List.getElem?_eq_some_iff.1 hu').1
      refine ⟨rfl, by rw [hsz]; omega, ?_⟩
      rw [hget n u (by rw [show n = (n - 1) + 1 by omega]; simpa using hu')]
      exact AV.P.toG' hP (map_self hst _ (List.mem_of_getElem? h3))
  refine awp_sound hE hm c H (hawp _) ?_
  intro e s a' w' g who hr H'
  have key : s.get 0 1 = some (.row r') → s.get 0 2 = some (.ext (keptP w b cap X)) → a'.defers = [] ∧ ∃ v, (results fn a'.tmps).run P w' = .ok v w' ∧ (∃ u, Ending.returned v = .returned u ∧ (outOf (d (.one (.cel (cvRow (some r))) :: avs)).2).2.P X w' u ∧ ∃ c', rowOf r (outOf (d (.one (.cel (cvRow (some r))) :: avs)).2).1 = some c' ∧ c'.ok ∧ c'.len = r.len ∧ c'.t = r.t ∧ rowAt X w' b cap ao c' ∧
      w'.os = w.os ∧ w'.tape = w.tape ∧ w'.output = w.output ∧ w.heap.size ≤ w'.heap.size ∧ ∀ k, k < w.heap.size → ¬ (0 < cap ∧ k = b) → w'.heap[k]? = w.heap[k]?) := by
    intro k1 k2
    obtain ⟨_, cok, hle', hown, hcells⟩ := H'.res _ _ _ k1
    obtain ⟨_, ⟨e1, e2, e3, e4, e5, e6⟩, _⟩ := H'.res _ _ _ k2
    rw [e1, e2] at hown
    rw [e2] at hle'
    rw [e1] at hcells
    have hmy : 0 < cap → ∀ o, g.X b o := fun hp => by
      obtain ⟨q1, q2, q3, q4⟩ := hown hp
      rcases H'.whole _ _ q3 with h | h
      · exact h
      · exact absurd (q4 0 (Nat.mul_pos hp (RC.t_pos cok))).1 (h 0)
    have hevo : Evo g.X w' X w' := ⟨Nat.le_refl _, fun k o _ hx => ⟨rfl, fun hX1 => hx (by
      by_cases hk : 0 < cap ∧ k = b
      · rw [hk.2]; exact hmy hk.1 o
      · exact e6 k o (hX k o hX1) hk hX1)⟩⟩
    rw [outOf_row ho]
    refine ⟨H'.defers, .tuple #[], ?_, _, rfl, ⟨[], rfl, .nil⟩, r', ho, cok, hl', ht', ⟨hle', by rw [hl']; exact a2, fun hp => ?_, fun j x hx => ?_⟩, H'.below.os, H'.below.tape, H'.below.output, e3, e5⟩
    · rw [results_eq, hrs]
      simp
    · obtain ⟨q1, q2, q3, q4⟩ := hown hp
      exact ⟨q2, (a3 hp).2.1, fun j hj => (q4 j hj).2⟩
    · obtain ⟨v, hv, hP⟩ := hcells j x hx
      exact ⟨v, hv, CV.P.evo hevo x hP⟩
  cases e with
  | normal => exact key hr.1 hr.2
  | ret => exact key hr.1 hr.2
  | exit _ => exact hr.elim
end Go.Proofs.YtocpmekblkfdiaaGreatDoor
