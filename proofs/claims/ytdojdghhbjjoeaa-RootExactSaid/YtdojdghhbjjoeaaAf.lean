/- The abstract walk, sixth part: an operation's whole effect; regions whose order is the text's; code. No condition. -/
import Derived.Test.YtdojdghhbjjoeaaAe
namespace Go.Proofs.Ytdojdghhbjjoeaa
open Go.RowKit

section
variable {P : Program} {E : Env} {N : Nat} {X0 : Nat → Nat → Prop} {w0 : World} {s : AS} {a : Act} {w : World} {g : Gh} {who : Nat → Option (Nat × Bool)}

theorem row_in {B : Nat} {n k : Nat} {c : RC} (h : RV.H B g who a w n k (.row c)) {j : Nat} {x : CV} (hx : c.flat[j]? = some x) : 0 < g.κ n ∧ j < g.κ n * c.t := by
  obtain ⟨_, hok, hle, _, _⟩ := h
  have hj := (List.getElem?_eq_some_iff.1 hx).1
  rw [RC.flat_len hok] at hj
  have h2 : c.len * c.t ≤ g.κ n * c.t := Nat.mul_le_mul_right _ hle
  refine ⟨?_, by omega⟩
  rcases Nat.eq_zero_or_pos (g.κ n) with h0 | h0
  · rw [h0] at h2; omega
  · exact h0

/-- a row stays as it is -/
theorem row_keep {B : Nat} {a' : Act} {w' : World} {g' : Gh} {who' : Nat → Option (Nat × Bool)} {n k : Nat} {c : RC} (h : RV.H B g who a w n k (.row c)) (e : Evo g.X w g'.X w') (hσ : g'.σ n = g.σ n) (hκ : g'.κ n = g.κ n)
    (hk : 0 < g.κ n → who' (g.σ n) = some (n, true) ∧ ∀ j, j < g.κ n * c.t → g'.X (g.σ n) j ∧ w'.frozen? ⟨g.σ n, j, none⟩ = w.frozen? ⟨g.σ n, j, none⟩ ∧ w'.cell? ⟨g.σ n, j, none⟩ = w.cell? ⟨g.σ n, j, none⟩) : RV.H B g' who' a' w' n k (.row c) := by
  have hin := fun {j : Nat} {x : CV} (hx : c.flat[j]? = some x) => row_in h hx
  obtain ⟨h1, h2, h3, h4, h5⟩ := h
  simp only [RV.H, hσ, hκ]
  refine ⟨h1, h2, h3, fun hp => ?_, fun j x hx => ?_⟩
  · obtain ⟨k1, k2, k3, k4⟩ := h4 hp
    obtain ⟨l1, l2⟩ := hk hp
    exact ⟨k1, Nat.lt_of_lt_of_le k2 e.1, l1, fun j hj => ⟨(l2 j hj).1, by rw [(l2 j hj).2.1]; exact (k4 j hj).2.1, by rw [(l2 j hj).2.2]; exact (k4 j hj).2.2⟩⟩
  · obtain ⟨hp, hj⟩ := hin hx
    obtain ⟨v, hv, hP⟩ := h5 j x hx
    exact ⟨v, by rw [((hk hp).2 j hj).2.2]; exact hv, CV.P.evo e x hP⟩

/-- what a resource says stays so in a world that has only grown -/
theorem RV.H.below {B : Nat} {a' : Act} {w' : World} {n k : Nat} {rv : RV} (h : rv.H B g who a w n k) (hb : Below w.heap.size w w') (hs : k = 0 → a'.tmps.size = a.tmps.size ∧ a'.tmps.getD n undef = a.tmps.getD n undef) :
    rv.H B g who a' w' n k := by
  cases rv with
  | av v =>
    obtain ⟨h1, h2, h3⟩ := h
    obtain ⟨e1, e2⟩ := hs h1
    exact ⟨h1, by rw [e1]; exact h2, by rw [e2]; exact h3.evo (evo_below hb) fun _ _ => ⟨rfl, rfl⟩⟩
  | cv c =>
    obtain ⟨h1, h2, h3, h4, h5, h6, v, h7, h8⟩ := h
    exact ⟨h1, h2, Nat.lt_of_lt_of_le h3 hb.size, h4, h5, by rw [hb.frozen (p := ⟨g.σ n, k - 1, none⟩) h3]; exact h6, v, by rw [hb.cell (p := ⟨g.σ n, k - 1, none⟩) h3]; exact h7, h8.evo (evo_below hb) fun _ _ => ⟨rfl, rfl⟩⟩
  | row c =>
    have hrow := h
    obtain ⟨_, _, _, h4, _⟩ := h
    refine row_keep hrow (evo_below hb) rfl rfl fun hp => ?_
    obtain ⟨k1, k2, k3, k4⟩ := h4 hp
    exact ⟨k3, fun j hj => ⟨(k4 j hj).1, hb.frozen (p := ⟨g.σ n, j, none⟩) k2, hb.cell (p := ⟨g.σ n, j, none⟩) k2⟩⟩
  | off => trivial

theorem put_slot {d n : Nat} {v : Value} (hn : n ≠ d) : (a.put (some d) v).tmps.size = a.tmps.size ∧ (a.put (some d) v).tmps.getD n undef = a.tmps.getD n undef := by
  constructor
  · simp [Act.put]
  · simp only [Act.put, Array.getD_eq_getD_getElem?]
    rw [Array.getElem?_setIfInBounds_ne (by omega)]

theorem put_self {d : Nat} {v : Value} (h : d < a.tmps.size) : (a.put (some d) v).tmps.getD d undef = v := by
  simp [Act.put, Array.getD_eq_getD_getElem?, h]

theorem Gam.put (H : Gam N X0 w0 s a w g who) {d : Nat} (hd : d < N) {w' : World} (hb : Below w.heap.size w w') {v : Value} {rv : RV} (hG : ∀ av, rv = .av av → av.G g w' v) (hrv : (∃ av, rv = .av av) ∨ rv = .off) :
    Gam N X0 w0 ((d, 0, rv) :: s) (a.put (some d) v) w' g who := by
  refine ⟨H.defers, by have := H.size; simp [Act.put]; exact this, bthen H.below hb, H.sub, H.sup, fun b o h => Nat.lt_of_lt_of_le (H.lt b o h) hb.size, ?_⟩
  intro n k r hr
  by_cases hnk : d = n ∧ 0 = k
  · obtain ⟨rfl, rfl⟩ := hnk
    rw [AS.get_cons_self] at hr
    cases hr
    have hsz : d < a.tmps.size := by rw [H.size]; exact hd
    rcases hrv with ⟨av, rfl⟩ | rfl
    · exact ⟨rfl, by simpa [Act.put] using hsz, by rw [put_self hsz]; exact hG av rfl⟩
    · trivial
  · rw [AS.get_cons_ne _ _ hnk] at hr
    exact (H.res n k r hr).below hb fun hk => put_slot (by rintro rfl; exact hnk ⟨rfl, hk.symm⟩)

theorem put_none (v : Value) : a.put none v = a := rfl

theorem Gam.grow (H : Gam N X0 w0 s a w g who) {w' : World} (hb : Below w.heap.size w w') : Gam N X0 w0 s a w' g who :=
  ⟨H.defers, H.size, bthen H.below hb, H.sub, H.sup, fun b o h => Nat.lt_of_lt_of_le (H.lt b o h) hb.size, fun n k r hr => (H.res n k r hr).below hb fun _ => ⟨rfl, rfl⟩⟩

theorem get_mkCells (id : Nat) : ∀ (cs : List CV) (k0 n k : Nat) (s : AS), (mkCells id k0 cs ++ s).get n k = if n = id ∧ k0 ≤ k ∧ k < k0 + cs.length then (cs[k - k0]?).map RV.cv else s.get n k
  | [], k0, n, k, s => by simp only [mkCells, List.nil_append, List.length_nil, Nat.add_zero]; rw [if_neg (by omega)]
  | c :: cs, k0, n, k, s => by
    simp only [mkCells, List.cons_append]
    by_cases h : id = n ∧ k0 = k
    · obtain ⟨rfl, rfl⟩ := h
      rw [AS.get_cons_self, if_pos ⟨rfl, Nat.le_refl _, by simp⟩]
      simp
    · rw [AS.get_cons_ne _ _ h, get_mkCells id cs (k0 + 1) n k s]
      by_cases h2 : n = id ∧ k0 + 1 ≤ k ∧ k < k0 + 1 + cs.length
      · rw [if_pos h2, if_pos ⟨h2.1, by omega, by simp; omega⟩]
        obtain ⟨j, hj⟩ : ∃ j, k - k0 = j + 1 := ⟨k - k0 - 1, by omega⟩
        rw [hj, show k - (k0 + 1) = j by omega]
        simp
      · rw [if_neg h2, if_neg]
        simp only [List.length_cons]
        rintro ⟨h3, h4, h5⟩
        exact h2 ⟨h3, by omega, by omega⟩

def upd {α : Type} (f : Nat → α) (d : Nat) (x : α) : Nat → α := fun n => if n = d then x else f n
theorem upd_self {α : Type} (f : Nat → α) (d : Nat) (x : α) : upd f d x d = x := if_pos rfl
theorem upd_ne {α : Type} (f : Nat → α) {d n : Nat} (x : α) (h : n ≠ d) : upd f d x n = f n := if_neg h

theorem AS.get_mem : ∀ {s : AS} {n k : Nat} {r : RV}, s.get n k = some r → (n, k, r) ∈ s
  | [], _, _, _, h => by simp [AS.get] at h
  | (n', k', v) :: s, n, k, r, h => by
    by_cases hnk : n' = n ∧ k' = k
    · obtain ⟨rfl, rfl⟩ := hnk
      rw [AS.get_cons_self] at h
      cases h
      simp
    · rw [AS.get_cons_ne _ _ hnk] at h
      exact List.mem_cons_of_mem _ (AS.get_mem h)

theorem AS.fresh_get {d n k : Nat} {r : RV} (hf : s.fresh d = true) (h : s.get n k = some r) : r.men d = false ∧ (n = d → k = 0) := by
  have := List.all_eq_true.1 hf _ (AS.get_mem h)
  simp only [Bool.and_eq_true, Bool.not_eq_true', Bool.or_eq_true, bne_iff_ne, beq_iff_eq] at this
  exact ⟨this.1, fun e => this.2.resolve_left (fun h => h e)⟩

theorem CV.strip_men {c : CV} (h : c.strip = c) (id : Nat) : c.men id = false := by
  cases c <;> simp [CV.strip] at h <;> first | rfl | skip
  case lim own xs => subst h; rfl
  case sl own t rows => subst h; rfl

/-- a new block of the activation's own -/
theorem Gam.alloc (H : Gam N X0 w0 s a w g who) {d : Nat} (hd : d < N) (hf : s.fresh d = true) {cs : List CV} {us : List Value} (hcs : All2 (fun c u => CV.G g w c u) cs us) (hm : ∀ c ∈ cs, c.men d = false) (t : Nat) :
    Gam N X0 w0 ((d, 0, .av (.cel (.ptr d 0))) :: mkCells d 1 cs ++ s) (a.put (some d) (.pointer (some ⟨w.heap.size, 0, none⟩))) (w.alloc (.cells us.toArray t))
      ⟨upd g.σ d w.heap.size, g.κ, fun b o => g.X b o ∨ b = w.heap.size⟩ (upd who w.heap.size (some (d, false))) := by
  have hb : Below w.heap.size w (w.alloc (.cells us.toArray t)) := below_alloc _
  have hevo : Evo g.X w (fun b o => g.X b o ∨ b = w.heap.size) (w.alloc (.cells us.toArray t)) := ⟨by simp, fun b o h hx => ⟨hb.cell (p := ⟨b, o, none⟩) h, by rintro (h' | h'); exact hx h'; omega⟩⟩
  have hle : w0.heap.size ≤ w.heap.size := H.below.size
  refine ⟨H.defers, by have := H.size; simp [Act.put]; exact this, bthen H.below hb, fun b o h => ⟨.inl (H.sub b o h).1, (H.sub b o h).2⟩, ?_, ?_, ?_⟩
  · rintro b o (h | h)
    · exact H.sup b o h
    · right; omega
  · rintro b o (h | h)
    · have := H.lt b o h; simp; omega
    · simp; omega
  · intro n k r hr
    rw [List.cons_append] at hr
    by_cases hnk : d = n ∧ 0 = k
    · obtain ⟨rfl, rfl⟩ := hnk
      rw [AS.get_cons_self] at hr
      cases hr
      have hsz : d < a.tmps.size := by rw [H.size]; exact hd
      exact ⟨rfl, by simpa [Act.put] using hsz, by rw [put_self hsz]; show _ = _; simp [upd_self]⟩
    · rw [AS.get_cons_ne _ _ hnk, get_mkCells] at hr
      split at hr
      · rename_i hc
        obtain ⟨rfl, h1, h2⟩ := hc
        obtain ⟨c, hc, rfl⟩ := Option.map_eq_some_iff.1 hr
        obtain ⟨u, hu, hG⟩ := hcs.get hc
        refine ⟨by omega, by simp only [upd_self]; omega, by simp [upd_self], by simp [upd_self], .inr (by simp [upd_self]), by simp [upd_self], u, ?_, ?_⟩
        · simp only [upd_self, World.cell?_alloc_new]; simpa using hu
        · exact hG.evo hevo fun id hid => ⟨upd_ne _ _ (by rintro rfl; rw [hm c (List.mem_of_getElem? hc)] at hid; cases hid), rfl⟩
      · rename_i hc
        obtain ⟨f1, f2⟩ := AS.fresh_get hf hr
        have hres := H.res n k r hr
        cases r with
        | av v =>
          obtain ⟨h1, h2, h3⟩ := hres
          have hne : n ≠ d := by rintro rfl; exact hnk ⟨rfl, h1.symm⟩
          obtain ⟨e1, e2⟩ := put_slot (a := a) (v := .pointer (some ⟨w.heap.size, 0, none⟩)) hne
          exact ⟨h1, by rw [e1]; exact h2, by rw [e2]; exact h3.evo hevo fun id hid => ⟨upd_ne _ _ (by rintro rfl; simp only [RV.men] at f1; rw [f1] at hid; cases hid), rfl⟩⟩
        | cv c =>
          obtain ⟨h1, h2, h3, h4, h5, h6, v, h7, h8⟩ := hres
          have hne : n ≠ d := fun e => by have := f2 e; omega
          have hlt : g.σ n ≠ w.heap.size := by omega
          simp only [RV.H, upd_ne _ _ hne]
          exact ⟨h1, h2, Nat.lt_of_lt_of_le h3 hb.size, by rw [upd_ne _ _ hlt]; exact h4, .inl h5, by rw [hb.frozen (p := ⟨g.σ n, k - 1, none⟩) h3]; exact h6, v, by rw [hb.cell (p := ⟨g.σ n, k - 1, none⟩) h3]; exact h7,
            h8.evo hevo fun id hid => ⟨upd_ne _ _ (by rintro rfl; simp only [RV.men] at f1; rw [f1] at hid; cases hid), rfl⟩⟩
        | row c =>
          have hrow := hres
          obtain ⟨h1, _, _, h4, _⟩ := hres
          have hne : n ≠ d := fun e => by have := f2 e; omega
          refine row_keep hrow hevo (upd_ne _ _ hne) rfl fun hp => ?_
          obtain ⟨k1, k2, k3, k4⟩ := h4 hp
          have hlt : g.σ n ≠ w.heap.size := by omega
          exact ⟨by rw [upd_ne _ _ hlt]; exact k3, fun j hj => ⟨.inl (k4 j hj).1, hb.frozen (p := ⟨g.σ n, j, none⟩) k2, hb.cell (p := ⟨g.σ n, j, none⟩) k2⟩⟩
        | off => trivial

theorem cvs_all : ∀ (n id k0 : Nat) (cs : List CV), cvs ((keysFrom id k0 n).map fun r => s.get r.1 r.2) = some cs → ∀ j, j < n → ∃ c, s.get id (k0 + j) = some (.cv c)
  | 0, _, _, _, _, j, hj => by omega
  | n + 1, id, k0, cs, h, j, hj => by
    simp only [keysFrom, List.map_cons] at h
    cases hg : s.get id k0 with
    | none => rw [hg] at h; simp [cvs] at h
    | some rv =>
      rw [hg] at h
      cases rv with
      | cv c =>
        simp only [cvs] at h
        split at h
        · rename_i cs' hcs
          cases j with
          | zero => exact ⟨c, hg⟩
          | succ j => rw [show k0 + (j + 1) = k0 + 1 + j by omega]; exact cvs_all n id (k0 + 1) cs' hcs j (by omega)
        · cases h
      | _ => simp [cvs] at h

theorem Gam.store (H : Gam N X0 w0 s a w g who) {id off : Nat} {cs : List CV} {us : List Value} (hcs : All2 (fun c u => CV.G g w c u) cs us) (hall : ∀ j, j < cs.length → ∃ c, s.get id (off + 1 + j) = some (.cv c)) :
    Gam N X0 w0 (mkCells id (off + 1) cs ++ s) a (w.setCells (g.σ id) off us) g who := by
  have hl := hcs.len
  have hown : ∀ j, j < cs.length → w0.heap.size ≤ g.σ id ∧ g.σ id < w.heap.size ∧ who (g.σ id) = some (id, false) ∧ g.X (g.σ id) (off + j) ∧ w.frozen? ⟨g.σ id, off + j, none⟩ = false ∧ (w.cell? ⟨g.σ id, off + j, none⟩).isSome = true := by
    intro j hj
    obtain ⟨c, hc⟩ := hall j hj
    obtain ⟨h1, h2, h3, h4, h5, h6, v, h7, h8⟩ := H.res _ _ _ hc
    rw [show off + 1 + j - 1 = off + j by omega] at *
    exact ⟨h2, h3, h4, h5, h6, by rw [h7]; rfl⟩
  have hsize : (w.setCells (g.σ id) off us).heap.size = w.heap.size := by
    have : ∀ (us : List Value) (o : Nat) (w : World), (w.setCells (g.σ id) o us).heap.size = w.heap.size := by
      intro us
      induction us with
      | nil => intro o w; rfl
      | cons u us ih => intro o w; rw [World.setCells, ih]; simp [World.setCell]
    exact this us off w
  have hout : ∀ (b o : Nat), ¬ (b = g.σ id ∧ off ≤ o ∧ o < off + us.length) → (w.setCells (g.σ id) off us).cell? ⟨b, o, none⟩ = w.cell? ⟨b, o, none⟩ := by
    intro b o h
    refine World.cell?_setCells_out _ _ _ _ _ fun e _ => ?_
    have e' : b = g.σ id := e
    show o < off ∨ off + us.length ≤ o
    rcases Nat.lt_or_ge o off with h1 | h1
    · exact .inl h1
    · right
      rcases Nat.lt_or_ge o (off + us.length) with h2 | h2
      · exact absurd ⟨e', h1, h2⟩ h
      · exact h2
  have hevo : Evo g.X w g.X (w.setCells (g.σ id) off us) := by
    refine ⟨by rw [hsize]; exact Nat.le_refl _, fun b o h hx => ⟨hout b o ?_, hx⟩⟩
    rintro ⟨rfl, h1, h2⟩
    have := (hown (o - off) (by omega)).2.2.2.1
    rw [show off + (o - off) = o by omega] at this
    exact hx this
  have hb0 : Below w0.heap.size w (w.setCells (g.σ id) off us) := by
    rcases us with _ | ⟨u, us⟩
    · exact Below.refl _ _
    · have hge := (hown 0 (by simp at hl; omega)).1
      have : ∀ (vs : List Value) (o : Nat) (v : World), Below w0.heap.size v (v.setCells (g.σ id) o vs) := by
        intro vs
        induction vs with
        | nil => intro o v; exact Below.refl _ _
        | cons x vs ih => intro o v; rw [World.setCells]; exact ((Below.refl _ _).setCell hge _).trans (ih _ _)
      exact this _ _ _
  refine ⟨H.defers, H.size, H.below.trans hb0, H.sub, H.sup, fun b o h => by rw [hsize]; exact H.lt b o h, ?_⟩
  intro n k r hr
  rw [get_mkCells] at hr
  split at hr
  · rename_i hc
    obtain ⟨rfl, h1, h2⟩ := hc
    obtain ⟨c, hc, rfl⟩ := Option.map_eq_some_iff.1 hr
    obtain ⟨u, hu, hG⟩ := hcs.get hc
    obtain ⟨o1, o2, o3, o4, o5, o6⟩ := hown (k - (off + 1)) (by omega)
    have hk : off + (k - (off + 1)) = k - 1 := by omega
    rw [hk] at o4 o5
    refine ⟨by omega, o1, by rw [hsize]; exact o2, o3, o4, by rw [World.frozen?_setCells]; exact o5, u, ?_, hG.evo hevo fun _ _ => ⟨rfl, rfl⟩⟩
    have hj : k - (off + 1) < us.length := by omega
    have := World.cell?_setCells_in (g.σ n) us off w (fun j hj' => (hown j (by omega)).2.2.2.2.2) (k - (off + 1)) hj
    rw [hk] at this
    rw [this]
    rw [List.getElem?_eq_getElem hj] at hu
    exact hu
  · rename_i hc
    have hres := H.res n k r hr
    cases r with
    | av v =>
      obtain ⟨h1, h2, h3⟩ := hres
      exact ⟨h1, h2, h3.evo hevo fun _ _ => ⟨rfl, rfl⟩⟩
    | cv c =>
      obtain ⟨h1, h2, h3, h4, h5, h6, v, h7, h8⟩ := hres
      refine ⟨h1, h2, by rw [hsize]; exact h3, h4, h5, by rw [World.frozen?_setCells]; exact h6, v, ?_, h8.evo hevo fun _ _ => ⟨rfl, rfl⟩⟩
      rw [hout _ _ ?_]
      · exact h7
      · rintro ⟨e, e1, e2⟩
        have hj := hown 0 (by omega)
        have : some (n, false) = some (id, false) := by rw [← h4, e]; exact hj.2.2.1
        cases this
        exact hc ⟨rfl, by omega, by omega⟩
    | row c =>
      have hrow := hres
      obtain ⟨h1, _, _, h4, _⟩ := hres
      refine row_keep hrow hevo rfl rfl fun hp => ?_
      obtain ⟨k1, k2, k3, k4⟩ := h4 hp
      refine ⟨k3, fun j hj => ⟨(k4 j hj).1, by rw [World.frozen?_setCells], hout _ _ ?_⟩⟩
      rintro ⟨e, e1, e2⟩
      have hj := hown 0 (by omega)
      have : some (n, true) = some (id, false) := by rw [← k3, e]; exact hj.2.2.1
      cases this
    | off => trivial

end
end Go.Proofs.Ytdojdghhbjjoeaa
