/- The abstract walk: rows of one's own: new ones, what is put behind them, what is laid in them. No condition. -/
import Derived.Test.YtdojdghhbjjoeaaAf
import Derived.Deep.AppendSrc
import Derived.Laws.MakeOwn
namespace Go.Proofs.Ytdojdghhbjjoeaa
open Go.RowKit

section
variable {P : Program} {E : Env} {N : Nat} {X0 : Nat → Nat → Prop} {w0 : World} {s : AS} {a : Act} {w : World} {g : Gh} {who : Nat → Option (Nat × Bool)}

theorem Gam.off (H : Gam N X0 w0 s a w g who) (n k : Nat) : Gam N X0 w0 ((n, k, .off) :: s) a w g who := by
  refine ⟨H.defers, H.size, H.below, H.sub, H.sup, H.lt, fun n' k' r hr => ?_⟩
  by_cases h : n = n' ∧ k = k'
  · obtain ⟨rfl, rfl⟩ := h
    rw [AS.get_cons_self] at hr
    cases hr
    trivial
  · rw [AS.get_cons_ne _ _ h] at hr
    exact H.res _ _ _ hr

theorem get_rowAS {d n : Nat} {c : RC} {s : AS} (n' k' : Nat) : (rowAS d n c ++ s).get n' k' = if n' = d ∧ k' = 0 then some (.av (.cel (.rf d n))) else if n' = d ∧ k' = 1 then some (.row c) else s.get n' k' := by
  simp only [rowAS, List.cons_append, List.nil_append]
  by_cases h0 : n' = d ∧ k' = 0
  · obtain ⟨rfl, rfl⟩ := h0
    rw [AS.get_cons_self, if_pos ⟨rfl, rfl⟩]
  · rw [AS.get_cons_ne _ _ (by rintro ⟨rfl, rfl⟩; exact h0 ⟨rfl, rfl⟩), if_neg h0]
    by_cases h1 : n' = d ∧ k' = 1
    · obtain ⟨rfl, rfl⟩ := h1
      rw [AS.get_cons_self, if_pos ⟨rfl, rfl⟩]
    · rw [AS.get_cons_ne _ _ (by rintro ⟨rfl, rfl⟩; exact h1 ⟨rfl, rfl⟩), if_neg h1]

theorem same_upd {g : Gh} {X : Nat → Nat → Prop} {d b cap id : Nat} (h : id ≠ d) : g.same ⟨upd g.σ d b, upd g.κ d cap, X⟩ id := ⟨upd_ne _ _ h, upd_ne _ _ h⟩

/-- a new row -/
theorem Gam.newRow (H : Gam N X0 w0 s a w g who) {d : Nat} (hd : d < N) (hf : s.fresh d = true) {c : RC} (hok : c.ok) {cap b : Nat} {w' : World} (hb : Below w.heap.size w w') (hb1 : w.heap.size ≤ b) (hb2 : b < w'.heap.size) (hle : c.len ≤ cap)
    (hc : ∀ j, j < cap * c.t → w'.frozen? ⟨b, j, none⟩ = false ∧ (w'.cell? ⟨b, j, none⟩).isSome = true) (hcell : ∀ j x, c.flat[j]? = some x → ∃ v, w'.cell? ⟨b, j, none⟩ = some v ∧ x.P g.X w v) :
    Gam N X0 w0 (rowAS d c.len c ++ s) (a.put (some d) (.slice (some ⟨b, 0, none⟩) c.len cap)) w' ⟨upd g.σ d b, upd g.κ d cap, fun b' o => g.X b' o ∨ b' = b⟩ (upd who b (some (d, true))) := by
  have hevo : Evo g.X w (fun b' o => g.X b' o ∨ b' = b) w' := ⟨hb.size, fun b' o h hx => ⟨hb.cell (p := ⟨b', o, none⟩) h, by rintro (h' | h'); exact hx h'; omega⟩⟩
  have hle0 : w0.heap.size ≤ w.heap.size := H.below.size
  refine ⟨H.defers, by have := H.size; simp [Act.put]; exact this, bthen H.below hb, fun b o h => ⟨.inl (H.sub b o h).1, (H.sub b o h).2⟩, ?_, ?_, ?_⟩
  · rintro b' o (h | h)
    · exact H.sup b' o h
    · right; omega
  · rintro b' o (h | h)
    · exact Nat.lt_of_lt_of_le (H.lt b' o h) hb.size
    · show b' < _; rw [h]; exact hb2
  · intro n k r hr
    rw [get_rowAS] at hr
    split at hr
    · rename_i hnk
      obtain ⟨rfl, rfl⟩ := hnk
      cases hr
      have hsz : n < a.tmps.size := by rw [H.size]; exact hd
      refine ⟨rfl, by simpa [Act.put] using hsz, ?_⟩
      rw [put_self hsz]
      exact ⟨some ⟨b, 0, none⟩, by simp only [upd_self], .inr (by simp only [upd_self])⟩
    · rename_i hnk0
      split at hr
      · rename_i hnk
        obtain ⟨rfl, rfl⟩ := hnk
        cases hr
        refine ⟨rfl, hok, by simp only [upd_self]; exact hle, fun _ => ?_, fun j x hx => ?_⟩
        · simp only [upd_self]
          exact ⟨by omega, hb2, trivial, fun j hj => ⟨.inr trivial, hc j hj⟩⟩
        · simp only [upd_self]
          obtain ⟨v, hv, hP⟩ := hcell j x hx
          exact ⟨v, hv, CV.P.evo hevo x hP⟩
      · rename_i hnk
        obtain ⟨f1, f2⟩ := AS.fresh_get hf hr
        have hres := H.res n k r hr
        cases r with
        | av v =>
          obtain ⟨h1, h2, h3⟩ := hres
          have hne : n ≠ d := by rintro rfl; exact hnk0 ⟨rfl, h1⟩
          obtain ⟨e1, e2⟩ := put_slot (a := a) (v := .slice (some ⟨b, 0, none⟩) c.len cap) hne
          exact ⟨h1, by rw [e1]; exact h2, by rw [e2]; exact h3.evo hevo fun id hid => same_upd (by rintro rfl; simp only [RV.men] at f1; rw [f1] at hid; cases hid)⟩
        | cv x =>
          obtain ⟨h1, h2, h3, h4, h5, h6, v, h7, h8⟩ := hres
          have hne : n ≠ d := fun e => by have := f2 e; omega
          have hlt : g.σ n ≠ b := by omega
          simp only [RV.H, upd_ne _ _ hne]
          exact ⟨h1, h2, Nat.lt_of_lt_of_le h3 hb.size, by rw [upd_ne _ _ hlt]; exact h4, .inl h5, by rw [hb.frozen (p := ⟨g.σ n, k - 1, none⟩) h3]; exact h6, v, by rw [hb.cell (p := ⟨g.σ n, k - 1, none⟩) h3]; exact h7,
            h8.evo hevo fun id hid => same_upd (by rintro rfl; simp only [RV.men] at f1; rw [f1] at hid; cases hid)⟩
        | row x =>
          have hrow := hres
          obtain ⟨h1, _, _, h4, _⟩ := hres
          have hne : n ≠ d := fun e => by have := f2 e; omega
          refine row_keep hrow hevo (upd_ne _ _ hne) (upd_ne _ _ hne) fun hp => ?_
          obtain ⟨k1, k2, k3, k4⟩ := h4 hp
          have hlt : g.σ n ≠ b := by omega
          exact ⟨by rw [upd_ne _ _ hlt]; exact k3, fun j hj => ⟨.inl (k4 j hj).1, hb.frozen (p := ⟨g.σ n, j, none⟩) k2, hb.cell (p := ⟨g.σ n, j, none⟩) k2⟩⟩
        | off => trivial

theorem size_setCells (b : Nat) : ∀ (us : List Value) (o : Nat) (w : World), (w.setCells b o us).heap.size = w.heap.size
  | [], _, _ => rfl
  | u :: us, o, w => by rw [World.setCells, size_setCells b us]; simp [World.setCell]

theorem below_setCells {B b : Nat} (h : B ≤ b) : ∀ (vs : List Value) (o : Nat) (v : World), Below B v (v.setCells b o vs)
  | [], _, _ => Below.refl _ _
  | x :: vs, o, v => by rw [World.setCells]; exact ((Below.refl _ _).setCell h _).trans (below_setCells h vs _ _)

/-- cells of an own row are laid anew: all else stays -/
theorem Gam.rowWrite (H : Gam N X0 w0 s a w g who) {id : Nat} {c : RC} (hid : s.get id 1 = some (.row c)) (hκ : 0 < g.κ id) {off : Nat} {us : List Value} (hin : off + us.length ≤ g.κ id * c.t) :
    Evo g.X w g.X (w.setCells (g.σ id) off us) ∧ Below w0.heap.size w (w.setCells (g.σ id) off us) ∧ (w.setCells (g.σ id) off us).heap.size = w.heap.size ∧
    (∀ j, (j < off ∨ off + us.length ≤ j) → (w.setCells (g.σ id) off us).cell? ⟨g.σ id, j, none⟩ = w.cell? ⟨g.σ id, j, none⟩) ∧
    (∀ j v, us[j]? = some v → (w.setCells (g.σ id) off us).cell? ⟨g.σ id, off + j, none⟩ = some v) ∧
    ∀ n k r, ¬ (n = id ∧ k = 1) → s.get n k = some r → r.H w0.heap.size g who a (w.setCells (g.σ id) off us) n k := by
  obtain ⟨_, hok, hle, hown, hcells⟩ := H.res _ _ _ hid
  obtain ⟨k1, k2, k3, k4⟩ := hown hκ
  have hsize := size_setCells (g.σ id) us off w
  have hout : ∀ (b o : Nat), ¬ (b = g.σ id ∧ off ≤ o ∧ o < off + us.length) → (w.setCells (g.σ id) off us).cell? ⟨b, o, none⟩ = w.cell? ⟨b, o, none⟩ := by
    intro b o h
    refine World.cell?_setCells_out _ _ _ _ _ fun e _ => ?_
    have e' : b = g.σ id := e
    show o < off ∨ off + us.length ≤ o
    rcases Nat.lt_or_ge o off with h1 | h1
    · exact .inl h1
    · right
      rcases Nat.lt_or_ge o (off + us.length) with h2 | h2
      · exact absurd ⟨e', h1, h2⟩ h
      · exact h2
  have hevo : Evo g.X w g.X (w.setCells (g.σ id) off us) := by
    refine ⟨by rw [hsize]; exact Nat.le_refl _, fun b o h hx => ⟨hout b o ?_, hx⟩⟩
    rintro ⟨rfl, h1, h2⟩
    exact hx (k4 o (by omega)).1
  refine ⟨hevo, below_setCells k1 _ _ _, hsize, fun j hj => hout _ _ (by rintro ⟨_, h1, h2⟩; omega), fun j v hv => ?_, fun n k r hnk hr => ?_⟩
  · have hj := (List.getElem?_eq_some_iff.1 hv).1
    have := World.cell?_setCells_in (g.σ id) us off w (fun j hj' => (k4 _ (by omega)).2.2) j hj
    rw [this]
    rw [List.getElem?_eq_getElem hj] at hv
    exact hv
  · have hres := H.res n k r hr
    cases r with
    | av v =>
      obtain ⟨h1, h2, h3⟩ := hres
      exact ⟨h1, h2, h3.evo hevo fun _ _ => ⟨rfl, rfl⟩⟩
    | cv c =>
      obtain ⟨h1, h2, h3, h4, h5, h6, v, h7, h8⟩ := hres
      refine ⟨h1, h2, by rw [hsize]; exact h3, h4, h5, by rw [World.frozen?_setCells]; exact h6, v, ?_, h8.evo hevo fun _ _ => ⟨rfl, rfl⟩⟩
      rw [hout _ _ ?_]
      · exact h7
      · rintro ⟨e, _, _⟩
        have : some (n, false) = some (id, true) := by rw [← h4, e]; exact k3
        cases this
    | row x =>
      have hrow := hres
      obtain ⟨h1, _, _, h4, _⟩ := hres
      refine row_keep hrow hevo rfl rfl fun hp => ?_
      obtain ⟨l1, l2, l3, l4⟩ := h4 hp
      refine ⟨l3, fun j hj => ⟨(l4 j hj).1, by rw [World.frozen?_setCells], hout _ _ ?_⟩⟩
      rintro ⟨e, _, _⟩
      have : some (n, true) = some (id, true) := by rw [← l3, e]; exact k3
      cases this
      exact hnk ⟨rfl, h1⟩
    | off => trivial

theorem u32One_eq {cs : List CV} {v : Int} (h : u32One cs = some v) : cs = [.int .u32 v] := by
  unfold u32One at h
  split at h
  · cases h; rfl
  · cases h

/-- a place of an own row is laid anew -/
theorem Gam.rowSet (H : Gam N X0 w0 s a w g who) {id : Nat} {c : RC} (hid : s.get id 1 = some (.row c)) {i : Nat} (hi : i < c.len) {cs : List CV} {us : List Value} (hcs : All2 (fun c u => CV.G g w c u) cs us) (hset : (c.setC i cs).1) :
    us.length = c.t ∧ 0 < g.κ id ∧ i * c.t + us.length ≤ g.κ id * c.t ∧ Gam N X0 w0 ((id, 1, .row (c.setC i cs).2) :: s) a (w.setCells (g.σ id) (i * c.t) us) g who := by
  have hrow := H.res _ _ _ hid
  obtain ⟨_, hok, hle, hown, hcells⟩ := hrow
  have hκ : 0 < g.κ id := by omega
  have hlen : us.length = c.t := by
    rw [← hcs.len]
    cases c with
    | u32 xs =>
      simp only [RC.setC] at hset
      split at hset
      · rename_i v hv; rw [u32One_eq hv]; rfl
      · exact hset.elim
    | gen t rows => exact hset
  have hin : i * c.t + us.length ≤ g.κ id * c.t := by
    rw [hlen, ← Nat.succ_mul]; exact Nat.mul_le_mul_right _ (by omega)
  obtain ⟨hevo, hbel, hsize, hout, hnew, hrest⟩ := H.rowWrite hid hκ hin
  obtain ⟨k1, k2, k3, k4⟩ := hown hκ
  refine ⟨hlen, hκ, hin, H.defers, H.size, H.below.trans hbel, H.sub, H.sup, fun b o h => by rw [hsize]; exact H.lt b o h, ?_⟩
  intro n k r hr
  by_cases hnk : id = n ∧ 1 = k
  · obtain ⟨rfl, rfl⟩ := hnk
    rw [AS.get_cons_self] at hr
    cases hr
    have key : ∀ c' : RC, c' = (c.setC i cs).2 → c'.ok ∧ c'.len = c.len ∧ c'.t = c.t ∧ ∀ j x, c'.flat[j]? = some x → (∃ m, m < c.t ∧ j = i * c.t + m ∧ (cs.map CV.strip)[m]? = some x) ∨ ((j < i * c.t ∨ i * c.t + c.t ≤ j) ∧ c.flat[j]? = some x) := by
      intro c' hc'
      cases c with
      | u32 xs =>
        simp only [RC.setC] at hset hc'
        split at hset
        · rename_i v hv
          rw [hv] at hc'
          simp only at hc'
          subst hc'
          rw [u32One_eq hv]
          refine ⟨?_, by simp [RC.len], rfl, ?_⟩
          · intro x hx
            rcases List.mem_or_eq_of_mem_set hx with hx | rfl
            · exact hok x hx
            · have := hset.2; have := hset.1; omega
          · intro j x hx
            have hi' : i < xs.length := hi
            simp only [RC.flat, RC.t, List.map_set, Nat.mul_one] at hx ⊢
            by_cases hj : i = j
            · subst hj
              rw [List.getElem?_set_self (by simpa using hi')] at hx
              cases hx
              refine .inl ⟨0, by omega, rfl, ?_⟩
              simp [CV.strip, u32C]
              have := hset.1
              omega
            · rw [List.getElem?_set_ne hj] at hx
              exact .inr ⟨by omega, hx⟩
        · exact hset.elim
      | gen t rows =>
        simp only [RC.setC] at hset hc'
        subst hc'
        have hl : (cs.map CV.strip).length = t := by simpa using hset
        have hi' : i < rows.length := hi
        have hall : ∀ (rows : List (List CV)) (i : Nat), allLen t rows → i < rows.length → allLen t (rows.set i (cs.map CV.strip)) ∧ ∀ j x, (rows.set i (cs.map CV.strip)).flatten[j]? = some x → (∃ m, m < t ∧ j = i * t + m ∧ (cs.map CV.strip)[m]? = some x) ∨ ((j < i * t ∨ i * t + t ≤ j) ∧ rows.flatten[j]? = some x) := by
          intro rows
          induction rows with
          | nil => intro i _ hi; simp at hi
          | cons r rs ih =>
            intro i h hi
            cases i with
            | zero =>
              refine ⟨⟨hl, h.2⟩, fun j x hx => ?_⟩
              simp only [List.set_cons_zero, List.flatten_cons] at hx ⊢
              rcases Nat.lt_or_ge j t with hj | hj
              · rw [List.getElem?_append_left (by omega)] at hx
                exact .inl ⟨j, hj, by omega, hx⟩
              · rw [List.getElem?_append_right (by omega), hl] at hx
                rw [List.getElem?_append_right (by rw [h.1]; exact hj), h.1]
                exact .inr ⟨by omega, hx⟩
            | succ i =>
              obtain ⟨i1, i2⟩ := ih i h.2 (by simpa using hi)
              refine ⟨⟨h.1, i1⟩, fun j x hx => ?_⟩
              simp only [List.set_cons_succ, List.flatten_cons] at hx ⊢
              rcases Nat.lt_or_ge j t with hj | hj
              · rw [List.getElem?_append_left (by rw [h.1]; exact hj)] at hx ⊢
                exact .inr ⟨.inl (by rw [Nat.succ_mul]; omega), hx⟩
              · rw [List.getElem?_append_right (by rw [h.1]; exact hj), h.1] at hx ⊢
                rcases i2 _ x hx with ⟨m, h1, h2, h3⟩ | ⟨h1, h2⟩
                · exact .inl ⟨m, h1, by rw [Nat.succ_mul]; omega, h3⟩
                · exact .inr ⟨by rw [Nat.succ_mul]; omega, h2⟩
        obtain ⟨g1, g2⟩ := hall rows i hok.2 hi'
        exact ⟨⟨hok.1, g1⟩, by simp [RC.len], rfl, g2⟩
    obtain ⟨q1, q2, q3, q4⟩ := key _ rfl
    refine ⟨rfl, q1, by rw [q2]; exact hle, fun _ => ?_, fun j x hx => ?_⟩
    · rw [q3, hsize]
      refine ⟨k1, k2, k3, fun j hj => ⟨(k4 j hj).1, by rw [World.frozen?_setCells]; exact (k4 j hj).2.1, ?_⟩⟩
      by_cases hr : j < i * c.t ∨ i * c.t + us.length ≤ j
      · rw [hout j hr]; exact (k4 j hj).2.2
      · have hm : j - i * c.t < us.length := by omega
        have := hnew (j - i * c.t) _ (List.getElem?_eq_getElem hm)
        rw [show i * c.t + (j - i * c.t) = j by omega] at this
        rw [this]; rfl
    · rcases q4 j x hx with ⟨m, h1, h2, h3⟩ | ⟨h1, h2⟩
      · rw [List.getElem?_map, Option.map_eq_some_iff] at h3
        obtain ⟨y, hy, rfl⟩ := h3
        obtain ⟨v, hv, hG⟩ := hcs.get hy
        subst h2
        exact ⟨v, hnew m v hv, CV.P.evo hevo _ hG.strip⟩
      · obtain ⟨v, hv, hP⟩ := hcells j x h2
        exact ⟨v, by rw [hout j (by rw [hlen]; exact h1)]; exact hv, CV.P.evo hevo _ hP⟩
  · rw [AS.get_cons_ne _ _ hnk] at hr
    exact hrest n k r (by rintro ⟨rfl, rfl⟩; exact hnk ⟨rfl, rfl⟩) hr

/-- a row grows where it lies: it is slot d's now -/
theorem Gam.rowIn (H : Gam N X0 w0 s a w g who) {d id : Nat} (hd : d < N) (hf : s.fresh d = true) {c c' : RC} (hid : s.get id 1 = some (.row c)) (hκ : 0 < g.κ id) {nc : List CV} {us : List Value} (hok : c'.ok) (ht : c'.t = c.t)
    (hle : c'.len ≤ g.κ id) (hflat : c'.flat = c.flat ++ nc) (hnc : All2 (fun c u => CV.P g.X w c u) nc us) (hin : c.len * c.t + us.length ≤ g.κ id * c.t) :
    Gam N X0 w0 ((id, 1, .off) :: rowAS d c'.len c' ++ s) (a.put (some d) (.slice (some ⟨g.σ id, 0, none⟩) c'.len (g.κ id))) (w.setCells (g.σ id) (c.len * c.t) us) ⟨upd g.σ d (g.σ id), upd g.κ d (g.κ id), g.X⟩ (upd who (g.σ id) (some (d, true))) := by
  have hrow := H.res _ _ _ hid
  obtain ⟨_, hok0, hle0, hown, hcells⟩ := hrow
  obtain ⟨hevo, hbel, hsize, hout, hnew, hrest⟩ := H.rowWrite hid hκ hin
  obtain ⟨k1, k2, k3, k4⟩ := hown hκ
  have hfid := AS.fresh_get hf hid
  have hne : id ≠ d := fun e => by have := hfid.2 e; omega
  refine ⟨H.defers, by have := H.size; simp [Act.put]; exact this, H.below.trans hbel, H.sub, H.sup, fun b o h => by rw [hsize]; exact H.lt b o h, ?_⟩
  intro n k r hr
  rw [List.cons_append] at hr
  by_cases hoff : id = n ∧ 1 = k
  · obtain ⟨rfl, rfl⟩ := hoff
    rw [AS.get_cons_self] at hr
    cases hr
    trivial
  rw [AS.get_cons_ne _ _ hoff, get_rowAS] at hr
  split at hr
  · rename_i hnk
    obtain ⟨rfl, rfl⟩ := hnk
    cases hr
    have hsz : n < a.tmps.size := by rw [H.size]; exact hd
    refine ⟨rfl, by simpa [Act.put] using hsz, ?_⟩
    rw [put_self hsz]
    exact ⟨some ⟨g.σ id, 0, none⟩, by simp only [upd_self], .inr (by simp only [upd_self])⟩
  · rename_i hnk0
    split at hr
    · rename_i hnk
      obtain ⟨rfl, rfl⟩ := hnk
      cases hr
      refine ⟨rfl, hok, by simp only [upd_self]; exact hle, fun _ => ?_, fun j x hx => ?_⟩
      · simp only [upd_self, ht, hsize]
        refine ⟨k1, k2, trivial, fun j hj => ⟨(k4 j hj).1, by rw [World.frozen?_setCells]; exact (k4 j hj).2.1, ?_⟩⟩
        by_cases hr : j < c.len * c.t ∨ c.len * c.t + us.length ≤ j
        · rw [hout j hr]; exact (k4 j hj).2.2
        · have hm : j - c.len * c.t < us.length := by omega
          have := hnew (j - c.len * c.t) _ (List.getElem?_eq_getElem hm)
          rw [show c.len * c.t + (j - c.len * c.t) = j by omega] at this
          rw [this]; rfl
      · simp only [upd_self]
        rw [hflat] at hx
        have hfl := RC.flat_len hok0
        rcases Nat.lt_or_ge j (c.len * c.t) with hj | hj
        · rw [List.getElem?_append_left (by omega)] at hx
          obtain ⟨v, hv, hP⟩ := hcells j x hx
          exact ⟨v, by rw [hout j (.inl hj)]; exact hv, CV.P.evo hevo _ hP⟩
        · rw [List.getElem?_append_right (by omega), hfl] at hx
          obtain ⟨v, hv, hP⟩ := hnc.get hx
          have := hnew _ _ hv
          rw [show c.len * c.t + (j - c.len * c.t) = j by omega] at this
          exact ⟨v, this, CV.P.evo hevo _ hP⟩
    · rename_i hnk
      obtain ⟨f1, f2⟩ := AS.fresh_get hf hr
      have hres := hrest n k r (by rintro ⟨rfl, rfl⟩; exact hoff ⟨rfl, rfl⟩) hr
      have hevo' : Evo g.X (w.setCells (g.σ id) (c.len * c.t) us) g.X (w.setCells (g.σ id) (c.len * c.t) us) := Evo.refl _ _
      cases r with
      | av v =>
        obtain ⟨h1, h2, h3⟩ := hres
        have hne : n ≠ d := by rintro rfl; exact hnk0 ⟨rfl, h1⟩
        obtain ⟨e1, e2⟩ := put_slot (a := a) (v := .slice (some ⟨g.σ id, 0, none⟩) c'.len (g.κ id)) hne
        exact ⟨h1, by rw [e1]; exact h2, by rw [e2]; exact h3.evo (g' := ⟨upd g.σ d (g.σ id), upd g.κ d (g.κ id), g.X⟩) hevo' fun i hid => same_upd (by rintro rfl; simp only [RV.men] at f1; rw [f1] at hid; cases hid)⟩
      | cv x =>
        obtain ⟨h1, h2, h3, h4, h5, h6, v, h7, h8⟩ := hres
        have hne : n ≠ d := fun e => by have := f2 e; omega
        have hlt : g.σ n ≠ g.σ id := fun e => by rw [e, k3] at h4; cases h4
        simp only [RV.H, upd_ne _ _ hne]
        exact ⟨h1, h2, h3, by rw [upd_ne _ _ hlt]; exact h4, h5, h6, v, h7, h8.evo (g' := ⟨upd g.σ d (g.σ id), upd g.κ d (g.κ id), g.X⟩) hevo' fun i hid => same_upd (by rintro rfl; simp only [RV.men] at f1; rw [f1] at hid; cases hid)⟩
      | row x =>
        have hrow := hres
        obtain ⟨h1, _, _, h4, _⟩ := hres
        have hne : n ≠ d := fun e => by have := f2 e; omega
        refine row_keep hrow hevo' (upd_ne _ _ hne) (upd_ne _ _ hne) fun hp => ?_
        obtain ⟨l1, l2, l3, l4⟩ := h4 hp
        have hlt : g.σ n ≠ g.σ id := fun e => by rw [e, k3] at l3; cases l3; exact hoff ⟨rfl, h1.symm⟩
        exact ⟨by rw [upd_ne _ _ hlt]; exact l3, fun j hj => ⟨(l4 j hj).1, rfl, rfl⟩⟩
      | off => trivial

/-- a row without room, that nothing is put behind, is slot d's now -/
theorem Gam.rowNone (H : Gam N X0 w0 s a w g who) {d : Nat} (hd : d < N) (hf : s.fresh d = true) {c : RC} (hok : c.ok) (hc : c.len = 0) {ao : Option Addr} {so : Nat} (hao : ao = none ∨ ao = some ⟨so, 0, none⟩) :
    Gam N X0 w0 (rowAS d 0 c ++ s) (a.put (some d) (.slice ao 0 0)) w ⟨upd g.σ d so, upd g.κ d 0, g.X⟩ who := by
  refine ⟨H.defers, by have := H.size; simp [Act.put]; exact this, H.below, H.sub, H.sup, H.lt, ?_⟩
  intro n k r hr
  rw [get_rowAS] at hr
  split at hr
  · rename_i hnk
    obtain ⟨rfl, rfl⟩ := hnk
    cases hr
    have hsz : n < a.tmps.size := by rw [H.size]; exact hd
    refine ⟨rfl, by simpa [Act.put] using hsz, ?_⟩
    rw [put_self hsz]
    exact ⟨ao, by simp only [upd_self], hao.imp (fun h => ⟨h, rfl, by simp only [upd_self]⟩) (fun h => by simp only [upd_self]; exact h)⟩
  · rename_i hnk0
    split at hr
    · rename_i hnk
      obtain ⟨rfl, rfl⟩ := hnk
      cases hr
      refine ⟨rfl, hok, by omega, fun h => by simp only [upd_self] at h; omega, fun j x hx => ?_⟩
      have hj := (List.getElem?_eq_some_iff.1 hx).1
      rw [RC.flat_len hok, hc] at hj
      omega
    · rename_i hnk
      obtain ⟨f1, f2⟩ := AS.fresh_get hf hr
      have hres := H.res n k r hr
      have hevo' : Evo g.X w g.X w := Evo.refl _ _
      cases r with
      | av v =>
        obtain ⟨h1, h2, h3⟩ := hres
        have hne : n ≠ d := by rintro rfl; exact hnk0 ⟨rfl, h1⟩
        obtain ⟨e1, e2⟩ := put_slot (a := a) (v := .slice ao 0 0) hne
        exact ⟨h1, by rw [e1]; exact h2, by rw [e2]; exact h3.evo (g' := ⟨upd g.σ d so, upd g.κ d 0, g.X⟩) hevo' fun i hid => same_upd (by rintro rfl; simp only [RV.men] at f1; rw [f1] at hid; cases hid)⟩
      | cv x =>
        obtain ⟨h1, h2, h3, h4, h5, h6, v, h7, h8⟩ := hres
        have hne : n ≠ d := fun e => by have := f2 e; omega
        simp only [RV.H, upd_ne _ _ hne]
        exact ⟨h1, h2, h3, h4, h5, h6, v, h7, h8.evo (g' := ⟨upd g.σ d so, upd g.κ d 0, g.X⟩) hevo' fun i hid => same_upd (by rintro rfl; simp only [RV.men] at f1; rw [f1] at hid; cases hid)⟩
      | row x =>
        have hrow := hres
        obtain ⟨h1, _, _, h4, _⟩ := hres
        have hne : n ≠ d := fun e => by have := f2 e; omega
        refine row_keep hrow hevo' (upd_ne _ _ hne) (upd_ne _ _ hne) fun hp => ?_
        obtain ⟨l1, l2, l3, l4⟩ := h4 hp
        exact ⟨l3, fun j hj => ⟨(l4 j hj).1, rfl, rfl⟩⟩
      | off => trivial

end
end Go.Proofs.Ytdojdghhbjjoeaa
