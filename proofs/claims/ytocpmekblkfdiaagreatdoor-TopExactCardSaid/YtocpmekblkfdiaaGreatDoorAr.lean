/- The abstract walk: rows of one's own: new ones, what is put behind them, what is laid in them. No condition. The abstract walk: make, append, an empty literal, stores into one's own rows. No condition. The abstract walk, seventh part: an operation's whole effect; regions in the text's order; code; functions. No condition. -/
import Derived.Test.YtocpmekblkfdiaaGreatDoorAd
import Derived.Deep.AppendSrc
import Derived.Laws.MakeOwn
import Derived.Laws.BytesString
namespace Go.Proofs.YtocpmekblkfdiaaGreatDoor
open Go.RowKit
section
variable {P : Program} {E : Env} {N : Nat} {X0 : Nat → Nat → Prop} {w0 : World} {s : AS} {a : Act} {w : World} {g : Gh} {who : Nat → Option (Nat × Bool)}
theorem Gam.off (H : Gam N X0 w0 s a w g who) (n k : Nat) : Gam N X0 w0 ((n, k, .off) :: s) a w g who := by
  refine ⟨H.defers, H.size, H.below, H.sub, H.sup, H.lt, H.whole, fun n' k' r hr => ?_⟩
  by_cases h : n = n' ∧ k = k'
  · obtain ⟨rfl, rfl⟩ := h
    rw [AS.get_cons_self] at hr
    cases hr
    trivial
  · rw [AS.get_cons_ne _ _ h] at hr
    exact H.res _ _ _ hr
theorem get_rowAS {d n : Nat} {c : RC} {s : AS} (n' k' : Nat) : (rowAS d n c ++ s).get n' k' = if n' = d ∧ k' = 0 then some (.av (.cel (.rf d n))) else if n' = d ∧ k' = 1 then some (.row c) else s.get n' k' := by
  simp only [rowAS, List.cons_append, List.nil_append]
  by_cases h0 : n' = d ∧ k' = 0
  · obtain ⟨rfl, rfl⟩ := h0
    rw [AS.get_cons_self, if_pos ⟨rfl, rfl⟩]
  · rw [AS.get_cons_ne _ _ (by rintro ⟨rfl, rfl⟩; exact h0 ⟨rfl, rfl⟩), if_neg h0]
    by_cases h1 : n' = d ∧ k' = 1
    · obtain ⟨rfl, rfl⟩ := h1
      rw [AS.get_cons_self, if_pos ⟨rfl, rfl⟩]
    · rw [AS.get_cons_ne _ _ (by rintro ⟨rfl, rfl⟩; exact h1 ⟨rfl, rfl⟩), if_neg h1]
theorem same_upd {g : Gh} {X : Nat → Nat → Prop} {d b cap id : Nat} (h : id ≠ d) : g.same ⟨upd g.σ d b, upd g.κ d cap, X⟩ id := ⟨upd_ne _ _ h, upd_ne _ _ h⟩
/-- a new row -/
theorem Gam.newRow (H : Gam N X0 w0 s a w g who) {d : Nat} (hd : d < N) (hf : s.fresh d = true) {c : RC} (hok : c.ok) {cap b : Nat} {w' : World} (hb : Below w.heap.size w w') (hb1 : w.heap.size ≤ b) (hb2 : b < w'.heap.size) (hle : c.len ≤ cap)
    (hc : ∀ j, j < cap * c.t → w'.frozen? ⟨b, j, none⟩ = false ∧ (w'.cell? ⟨b, j, none⟩).isSome = true) (hcell : ∀ j x, c.flat[j]? = some x → ∃ v, w'.cell? ⟨b, j, none⟩ = some v ∧ x.P g.X w v) :
    Gam N X0 w0 (rowAS d c.len c ++ s) (a.put (some d) (.slice (some ⟨b, 0, none⟩) c.len cap)) w' ⟨upd g.σ d b, upd g.κ d cap, fun b' o => g.X b' o ∨ b' = b⟩ (upd who b (some (d, true))) := by
  have hevo : Evo g.X w (fun b' o => g.X b' o ∨ b' = b) w' := ⟨hb.size, fun b' o h hx => ⟨hb.cell (p := ⟨b', o, none⟩) h, by rintro (h' | h'); exact hx h'; omega⟩⟩
  have hle0 : w0.heap.size ≤ w.heap.size := H.below.size
  refine ⟨H.defers, by have := H.size; simp [Act.put]; exact this, bthen H.below hb, fun b o h => ⟨.inl (H.sub b o h).1, (H.sub b o h).2⟩, ?_, ?_, (fun b1 x hx => by
    by_cases e : b1 = b
    · exact .inl fun o => .inr e
    · rw [upd_ne _ _ e] at hx
      rcases H.whole b1 x hx with h | h
      · exact .inl fun o => .inl (h o)
      · exact .inr fun o hx => hx.elim (h o) e), ?_⟩
  · rintro b' o (h | h)
    · exact H.sup b' o h
    · right; omega
  · rintro b' o (h | h)
    · exact Nat.lt_of_lt_of_le (H.lt b' o h) hb.size
    · show b' < _; rw [h]; exact hb2
  · intro n k r hr
    rw [get_rowAS] at hr
    split at hr
    · rename_i hnk
      obtain ⟨rfl, rfl⟩ := hnk
      cases hr
      have hsz : n < a.tmps.size := by rw [H.size]; exact hd
      refine ⟨rfl, by simpa [Act.put] using hsz, ?_⟩
      rw [put_self hsz]
      exact ⟨some ⟨b, 0, none⟩, by simp only [upd_self], .inr (by simp only [upd_self])⟩
    · rename_i hnk0
      split at hr
      · rename_i hnk
        obtain ⟨rfl, rfl⟩ := hnk
        cases hr
        refine ⟨rfl, hok, by simp only [upd_self]; exact hle, fun _ => ?_, fun j x hx => ?_⟩
        · simp only [upd_self]
          exact ⟨by omega, hb2, trivial, fun j hj => ⟨.inr trivial, hc j hj⟩⟩
        · simp only [upd_self]
          obtain ⟨v, hv, hP⟩ := hcell j x hx
          exact ⟨v, hv, CV.P.evo hevo x hP⟩
      · rename_i hnk
        obtain ⟨f1, f2⟩ := AS.fresh_get hf hr
        have hres := H.res n k r hr
        cases r with
        | av v =>
          obtain ⟨h1, h2, h3⟩ := hres
          have hne : n ≠ d := by rintro rfl; exact hnk0 ⟨rfl, h1⟩
          obtain ⟨e1, e2⟩ := put_slot (a := a) (v := .slice (some ⟨b, 0, none⟩) c.len cap) hne
          exact ⟨h1, by rw [e1]; exact h2, by rw [e2]; exact h3.evo hevo fun id hid => same_upd (by rintro rfl; simp only [RV.men] at f1; rw [f1] at hid; cases hid)⟩
        | cv x =>
          obtain ⟨h1, h2, h3, h4, h5, h6, v, h7, h8⟩ := hres
          have hne : n ≠ d := fun e => by have := f2 e; omega
          have hlt : g.σ n ≠ b := by omega
          simp only [RV.H, upd_ne _ _ hne]
          exact ⟨h1, h2, Nat.lt_of_lt_of_le h3 hb.size, by rw [upd_ne _ _ hlt]; exact h4, .inl h5, by rw [hb.frozen (p := ⟨g.σ n, k - 1, none⟩) h3]; exact h6, v, by rw [hb.cell (p := ⟨g.σ n, k - 1, none⟩) h3]; exact h7,
            h8.evo hevo fun id hid => same_upd (by rintro rfl; simp only [RV.men] at f1; rw [f1] at hid; cases hid)⟩
        | row x =>
          have hrow := hres
          obtain ⟨h1, _, _, h4, _⟩ := hres
          have hne : n ≠ d := fun e => by have := f2 e; omega
          refine row_keep hrow hevo (upd_ne _ _ hne) (upd_ne _ _ hne) fun hp => ?_
          obtain ⟨k1, k2, k3, k4⟩ := h4 hp
          have hlt : g.σ n ≠ b := by omega
          exact ⟨by rw [upd_ne _ _ hlt]; exact k3, fun j hj => ⟨.inl (k4 j hj).1, hb.frozen (p := ⟨g.σ n, j, none⟩) k2, hb.cell (p := ⟨g.σ n, j, none⟩) k2⟩⟩
        | off => trivial
        | ext p =>
          have hne : n ≠ d := fun e => by have := f2 e; have := hres.1; omega
          simp only [RV.H, upd_ne _ _ hne]
          exact ⟨hres.1, hres.2.2 _ _ _ _ _ _ _ _ hres.2.1 (step_new (fun _ _ h => .inl h) hb hb1), hres.2.2⟩
theorem size_setCells (b : Nat) : ∀ (us : List Value) (o : Nat) (w : World), (w.setCells b o us).heap.size = w.heap.size
  | [], _, _ => rfl
  | u :: us, o, w => by rw [World.setCells, size_setCells b us]; simp [World.setCell]
theorem below_setCells {B b : Nat} (h : B ≤ b) : ∀ (vs : List Value) (o : Nat) (v : World), Below B v (v.setCells b o vs)
  | [], _, _ => Below.refl _ _
  | x :: vs, o, v => by rw [World.setCells]; exact ((Below.refl _ _).setCell h _).trans (below_setCells h vs _ _)
/-- cells of an own row are laid anew: all else stays -/
theorem Gam.rowWrite (H : Gam N X0 w0 s a w g who) {id : Nat} {c : RC} (hid : s.get id 1 = some (.row c)) (hκ : 0 < g.κ id) {off : Nat} {us : List Value} (hin : off + us.length ≤ g.κ id * c.t) :
    Evo g.X w g.X (w.setCells (g.σ id) off us) ∧ Below w0.heap.size w (w.setCells (g.σ id) off us) ∧ (w.setCells (g.σ id) off us).heap.size = w.heap.size ∧
    (∀ j, (j < off ∨ off + us.length ≤ j) → (w.setCells (g.σ id) off us).cell? ⟨g.σ id, j, none⟩ = w.cell? ⟨g.σ id, j, none⟩) ∧
    (∀ j v, us[j]? = some v → (w.setCells (g.σ id) off us).cell? ⟨g.σ id, off + j, none⟩ = some v) ∧
    ∀ n k r, ¬ (n = id ∧ k = 1) → s.get n k = some r → r.H w0.heap.size g who a (w.setCells (g.σ id) off us) n k := by
  obtain ⟨_, hok, hle, hown, hcells⟩ := H.res _ _ _ hid
  obtain ⟨k1, k2, k3, k4⟩ := hown hκ
  have hsize := size_setCells (g.σ id) us off w
  have hout : ∀ (b o : Nat), ¬ (b = g.σ id ∧ off ≤ o ∧ o < off + us.length) → (w.setCells (g.σ id) off us).cell? ⟨b, o, none⟩ = w.cell? ⟨b, o, none⟩ := by
    intro b o h
    refine World.cell?_setCells_out _ _ _ _ _ fun e _ => ?_
    have e' : b = g.σ id := e
    show o < off ∨ off + us.length ≤ o
    rcases Nat.lt_or_ge o off with h1 | h1
    · exact .inl h1
    · right
      rcases Nat.lt_or_ge o (off + us.length) with h2 | h2
      · exact absurd ⟨e', h1, h2⟩ h
      · exact h2
  have hevo : Evo g.X w g.X (w.setCells (g.σ id) off us) := by
    refine ⟨by rw [hsize]; exact Nat.le_refl _, fun b o h hx => ⟨hout b o ?_, hx⟩⟩
    rintro ⟨rfl, h1, h2⟩
    exact hx (k4 o (by omega)).1
  refine ⟨hevo, below_setCells k1 _ _ _, hsize, fun j hj => hout _ _ (by rintro ⟨_, h1, h2⟩; omega), fun j v hv => ?_, fun n k r hnk hr => ?_⟩
  · have hj := (List.getElem?_eq_some_iff.1 hv).1
    have := World.cell?_setCells_in (g.σ id) us off w (fun j hj' => (k4 _ (by omega)).2.2) j hj
    rw [this]
    rw [List.getElem?_eq_getElem hj] at hv
    exact hv
  · have hres := H.res n k r hr
    cases r with
    | av v =>
      obtain ⟨h1, h2, h3⟩ := hres
      exact ⟨h1, h2, h3.evo hevo fun _ _ => ⟨rfl, rfl⟩⟩
    | cv c =>
      obtain ⟨h1, h2, h3, h4, h5, h6, v, h7, h8⟩ := hres
      refine ⟨h1, h2, by rw [hsize]; exact h3, h4, h5, by rw [World.frozen?_setCells]; exact h6, v, ?_, h8.evo hevo fun _ _ => ⟨rfl, rfl⟩⟩
      rw [hout _ _ ?_]
      · exact h7
      · rintro ⟨e, _, _⟩
        have : some (n, false) = some (id, true) := by rw [← h4, e]; exact k3
        cases this
    | row x =>
      have hrow := hres
      obtain ⟨h1, _, _, h4, _⟩ := hres
      refine row_keep hrow hevo rfl rfl fun hp => ?_
      obtain ⟨l1, l2, l3, l4⟩ := h4 hp
      refine ⟨l3, fun j hj => ⟨(l4 j hj).1, by rw [World.frozen?_setCells], hout _ _ ?_⟩⟩
      rintro ⟨e, _, _⟩
      have : some (n, true) = some (id, true) := by rw [← l3, e]; exact k3
      cases this
      exact hnk ⟨rfl, h1⟩
    | off => trivial
    | ext p =>
      refine ⟨hres.1, hres.2.2 _ _ _ _ _ _ _ _ hres.2.1 ⟨by rw [hsize]; exact Nat.le_refl _, fun _ h => .inl h, fun k hk hn => setCells_block (fun e => ?_) _ _ _, fun _ _ _ h => h⟩, hres.2.2⟩
      rw [e, k3] at hn
      cases hn
theorem u32One_eq {cs : List CV} {v : Int} (h : u32One cs = some v) : cs = [.int .u32 v] := by
  unfold u32One at h
  split at h
  · cases h; rfl
  · cases h
/-- a place of an own row is laid anew -/
theorem Gam.rowSet (H : Gam N X0 w0 s a w g who) {id : Nat} {c : RC} (hid : s.get id 1 = some (.row c)) {i : Nat} (hi : i < c.len) {cs : List CV} {us : List Value} (hcs : All2 (fun c u => CV.G g w c u) cs us) (hset : (c.setC i cs).1) :
    us.length = c.t ∧ 0 < g.κ id ∧ i * c.t + us.length ≤ g.κ id * c.t ∧ Gam N X0 w0 ((id, 1, .row (c.setC i cs).2) :: s) a (w.setCells (g.σ id) (i * c.t) us) g who := by
  have hrow := H.res _ _ _ hid
  obtain ⟨_, hok, hle, hown, hcells⟩ := hrow
  have hκ : 0 < g.κ id := by omega
  have hlen : us.length = c.t := by
    rw [← hcs.len]
    cases c with
    | u32 xs =>
      simp only [RC.setC] at hset
      split at hset
      · rename_i v hv; rw [u32One_eq hv]; rfl
      · exact hset.elim
    | gen t rows => exact hset
  have hin : i * c.t + us.length ≤ g.κ id * c.t := by
    rw [hlen, ← Nat.succ_mul]; exact Nat.mul_le_mul_right _ (by omega)
  obtain ⟨hevo, hbel, hsize, hout, hnew, hrest⟩ := H.rowWrite hid hκ hin
  obtain ⟨k1, k2, k3, k4⟩ := hown hκ
  refine ⟨hlen, hκ, hin, H.defers, H.size, H.below.trans hbel, H.sub, H.sup, fun b o h => by rw [hsize]; exact H.lt b o h, H.whole, ?_⟩
  intro n k r hr
  by_cases hnk : id = n ∧ 1 = k
  · obtain ⟨rfl, rfl⟩ := hnk
    rw [AS.get_cons_self] at hr
    cases hr
    have key : ∀ c' : RC, c' = (c.setC i cs).2 → c'.ok ∧ c'.len = c.len ∧ c'.t = c.t ∧ ∀ j x, c'.flat[j]? = some x → (∃ m, m < c.t ∧ j = i * c.t + m ∧ (cs.map CV.strip)[m]? = some x) ∨ ((j < i * c.t ∨ i * c.t + c.t ≤ j) ∧ c.flat[j]? = some x) := by
      intro c' hc'
      cases c with
      | u32 xs =>
        simp only [RC.setC] at hset hc'
        split at hset
        · rename_i v hv
          rw [hv] at hc'
          simp only at hc'
          subst hc'
          rw [u32One_eq hv]
          refine ⟨?_, by simp [RC.len], rfl, ?_⟩
          · intro x hx
            rcases List.mem_or_eq_of_mem_set hx with hx | rfl
            · exact hok x hx
            · have := hset.2; have := hset.1; omega
          · intro j x hx
            have hi' : i < xs.length := hi
            simp only [RC.flat, RC.t, List.map_set, Nat.mul_one] at hx ⊢
            by_cases hj : i = j
            · subst hj
              rw [List.getElem?_set_self (by simpa using hi')] at hx
              cases hx
              refine .inl ⟨0, by omega, rfl, ?_⟩
              simp [CV.strip, u32C]
              have := hset.1
              omega
            · rw [List.getElem?_set_ne hj] at hx
              exact .inr ⟨by omega, hx⟩
        · exact hset.elim
      | gen t rows =>
        simp only [RC.setC] at hset hc'
        subst hc'
        have hl : (cs.map CV.strip).length = t := by simpa using hset
        have hi' : i < rows.length := hi
        have hall : ∀ (rows : List (List CV)) (i : Nat), allLen t rows → i < rows.length → allLen t (rows.set i (cs.map CV.strip)) ∧ ∀ j x, (rows.set i (cs.map CV.strip)).flatten[j]? = some x → (∃ m, m < t ∧ j = i * t + m ∧ (cs.map CV.strip)[m]? = some x) ∨ ((j < i * t ∨ i * t + t ≤ j) ∧ rows.flatten[j]? = some x) := by
          intro rows
          induction rows with
          | nil => intro i _ hi; simp at hi
          | cons r rs ih =>
            intro i h hi
            cases i with
            | zero =>
              refine ⟨⟨hl, h.2⟩, fun j x hx => ?_⟩
              simp only [List.set_cons_zero, List.flatten_cons] at hx ⊢
              rcases Nat.lt_or_ge j t with hj | hj
              · rw [List.getElem?_append_left (by omega)] at hx
                exact .inl ⟨j, hj, by omega, hx⟩
              · rw [List.getElem?_append_right (by omega), hl] at hx
                rw [List.getElem?_append_right (by rw [h.1]; exact hj), h.1]
                exact .inr ⟨by omega, hx⟩
            | succ i =>
              obtain ⟨i1, i2⟩ := ih i h.2 (by simpa using hi)
              refine ⟨⟨h.1, i1⟩, fun j x hx => ?_⟩
              simp only [List.set_cons_succ, List.flatten_cons] at hx ⊢
              rcases Nat.lt_or_ge j t with hj | hj
              · rw [List.getElem?_append_left (by rw [h.1]; exact hj)] at hx ⊢
                exact .inr ⟨.inl (by rw [Nat.succ_mul]; omega), hx⟩
              · rw [List.getElem?_append_right (by rw [h.1]; exact hj), h.1] at hx ⊢
                rcases i2 _ x hx with ⟨m, h1, h2, h3⟩ | ⟨h1, h2⟩
                · exact .inl ⟨m, h1, by rw [Nat.succ_mul]; omega, h3⟩
                · exact .inr ⟨by rw [Nat.succ_mul]; omega, h2⟩
        obtain ⟨g1, g2⟩ := hall rows i hok.2 hi'
        exact ⟨⟨hok.1, g1⟩, by simp [RC.len], rfl, g2⟩
    obtain ⟨q1, q2, q3, q4⟩ := key _ rfl
    refine ⟨rfl, q1, by rw [q2]; exact hle, fun _ => ?_, fun j x hx => ?_⟩
    · rw [q3, hsize]
      refine ⟨k1, k2, k3, fun j hj => ⟨(k4 j hj).1, by rw [World.frozen?_setCells]; exact (k4 j hj).2.1, ?_⟩⟩
      by_cases hr : j < i * c.t ∨ i * c.t + us.length ≤ j
      · rw [hout j hr]; exact (k4 j hj).2.2
      · have hm : j - i * c.t < us.length := by omega
        have := hnew (j - i * c.t) _ (List.getElem?_eq_getElem hm)
        rw [show i * c.t + (j - i * c.t) = j by omega] at this
        rw [this]; rfl
    · rcases q4 j x hx with ⟨m, h1, h2, h3⟩ | ⟨h1, h2⟩
      · rw [List.getElem?_map, Option.map_eq_some_iff] at h3
        obtain ⟨y, hy, rfl⟩ := h3
        obtain ⟨v, hv, hG⟩ := hcs.get hy
        subst h2
        exact ⟨v, hnew m v hv, CV.P.evo hevo _ hG.strip⟩
      · obtain ⟨v, hv, hP⟩ := hcells j x h2
        exact ⟨v, by rw [hout j (by rw [hlen]; exact h1)]; exact hv, CV.P.evo hevo _ hP⟩
  · rw [AS.get_cons_ne _ _ hnk] at hr
    exact hrest n k r (by rintro ⟨rfl, rfl⟩; exact hnk ⟨rfl, rfl⟩) hr
/-- a row grows where it lies: it is slot d's now -/
theorem Gam.rowIn (H : Gam N X0 w0 s a w g who) {d id : Nat} (hd : d < N) (hf : s.fresh d = true) {c c' : RC} (hid : s.get id 1 = some (.row c)) (hκ : 0 < g.κ id) {nc : List CV} {us : List Value} (hok : c'.ok) (ht : c'.t = c.t)
    (hle : c'.len ≤ g.κ id) (hflat : c'.flat = c.flat ++ nc) (hnc : All2 (fun c u => CV.P g.X w c u) nc us) (hin : c.len * c.t + us.length ≤ g.κ id * c.t) :
    Gam N X0 w0 ((id, 1, .off) :: rowAS d c'.len c' ++ s) (a.put (some d) (.slice (some ⟨g.σ id, 0, none⟩) c'.len (g.κ id))) (w.setCells (g.σ id) (c.len * c.t) us) ⟨upd g.σ d (g.σ id), upd g.κ d (g.κ id), g.X⟩ (upd who (g.σ id) (some (d, true))) := by
  have hrow := H.res _ _ _ hid
  obtain ⟨_, hok0, hle0, hown, hcells⟩ := hrow
  obtain ⟨hevo, hbel, hsize, hout, hnew, hrest⟩ := H.rowWrite hid hκ hin
  obtain ⟨k1, k2, k3, k4⟩ := hown hκ
  have hfid := AS.fresh_get hf hid
  have hne : id ≠ d := fun e => by have := hfid.2 e; omega
  refine ⟨H.defers, by have := H.size; simp [Act.put]; exact this, H.below.trans hbel, H.sub, H.sup, fun b o h => by rw [hsize]; exact H.lt b o h, (fun b x hx => by
    by_cases e : b = g.σ id
    · rw [e]; exact H.whole _ _ k3
    · rw [upd_ne _ _ e] at hx; exact H.whole b x hx), ?_⟩
  intro n k r hr
  rw [List.cons_append] at hr
  by_cases hoff : id = n ∧ 1 = k
  · obtain ⟨rfl, rfl⟩ := hoff
    rw [AS.get_cons_self] at hr
    cases hr
    trivial
  rw [AS.get_cons_ne _ _ hoff, get_rowAS] at hr
  split at hr
  · rename_i hnk
    obtain ⟨rfl, rfl⟩ := hnk
    cases hr
    have hsz : n < a.tmps.size := by rw [H.size]; exact hd
    refine ⟨rfl, by simpa [Act.put] using hsz, ?_⟩
    rw [put_self hsz]
    exact ⟨some ⟨g.σ id, 0, none⟩, by simp only [upd_self], .inr (by simp only [upd_self])⟩
  · rename_i hnk0
    split at hr
    · rename_i hnk
      obtain ⟨rfl, rfl⟩ := hnk
      cases hr
      refine ⟨rfl, hok, by simp only [upd_self]; exact hle, fun _ => ?_, fun j x hx => ?_⟩
      · simp only [upd_self, ht, hsize]
        refine ⟨k1, k2, trivial, fun j hj => ⟨(k4 j hj).1, by rw [World.frozen?_setCells]; exact (k4 j hj).2.1, ?_⟩⟩
        by_cases hr : j < c.len * c.t ∨ c.len * c.t + us.length ≤ j
        · rw [hout j hr]; exact (k4 j hj).2.2
        · have hm : j - c.len * c.t < us.length := by omega
          have := hnew (j - c.len * c.t) _ (List.getElem?_eq_getElem hm)
          rw [show c.len * c.t + (j - c.len * c.t) = j by omega] at this
          rw [this]; rfl
      · simp only [upd_self]
        rw [hflat] at hx
        have hfl := RC.flat_len hok0
        rcases Nat.lt_or_ge j (c.len * c.t) with hj | hj
        · rw [List.getElem?_append_left (by omega)] at hx
          obtain ⟨v, hv, hP⟩ := hcells j x hx
          exact ⟨v, by rw [hout j (.inl hj)]; exact hv, CV.P.evo hevo _ hP⟩
        · rw [List.getElem?_append_right (by omega), hfl] at hx
          obtain ⟨v, hv, hP⟩ := hnc.get hx
          have := hnew _ _ hv
          rw [show c.len * c.t + (j - c.len * c.t) = j by omega] at this
          exact ⟨v, this, CV.P.evo hevo _ hP⟩
    · rename_i hnk
      obtain ⟨f1, f2⟩ := AS.fresh_get hf hr
      have hres := hrest n k r (by rintro ⟨rfl, rfl⟩; exact hoff ⟨rfl, rfl⟩) hr
      have hevo' : Evo g.X (w.setCells (g.σ id) (c.len * c.t) us) g.X (w.setCells (g.σ id) (c.len * c.t) us) := Evo.refl _ _
      cases r with
      | av v =>
        obtain ⟨h1, h2, h3⟩ := hres
        have hne : n ≠ d := by rintro rfl; exact hnk0 ⟨rfl, h1⟩
        obtain ⟨e1, e2⟩ := put_slot (a := a) (v := .slice (some ⟨g.σ id, 0, none⟩) c'.len (g.κ id)) hne
        exact ⟨h1, by rw [e1]; exact h2, by rw [e2]; exact h3.evo (g' := ⟨upd g.σ d (g.σ id), upd g.κ d (g.κ id), g.X⟩) hevo' fun i hid => same_upd (by rintro rfl; simp only [RV.men] at f1; rw [f1] at hid; cases hid)⟩
      | cv x =>
        obtain ⟨h1, h2, h3, h4, h5, h6, v, h7, h8⟩ := hres
        have hne : n ≠ d := fun e => by have := f2 e; omega
        have hlt : g.σ n ≠ g.σ id := fun e => by rw [e, k3] at h4; cases h4
        simp only [RV.H, upd_ne _ _ hne]
        exact ⟨h1, h2, h3, by rw [upd_ne _ _ hlt]; exact h4, h5, h6, v, h7, h8.evo (g' := ⟨upd g.σ d (g.σ id), upd g.κ d (g.κ id), g.X⟩) hevo' fun i hid => same_upd (by rintro rfl; simp only [RV.men] at f1; rw [f1] at hid; cases hid)⟩
      | row x =>
        have hrow := hres
        obtain ⟨h1, _, _, h4, _⟩ := hres
        have hne : n ≠ d := fun e => by have := f2 e; omega
        refine row_keep hrow hevo' (upd_ne _ _ hne) (upd_ne _ _ hne) fun hp => ?_
        obtain ⟨l1, l2, l3, l4⟩ := h4 hp
        have hlt : g.σ n ≠ g.σ id := fun e => by rw [e, k3] at l3; cases l3; exact hoff ⟨rfl, h1.symm⟩
        exact ⟨by rw [upd_ne _ _ hlt]; exact l3, fun j hj => ⟨(l4 j hj).1, rfl, rfl⟩⟩
      | off => trivial
      | ext p =>
        have hne : n ≠ d := fun e => by have := f2 e; have := hres.1; omega
        simp only [RV.H, upd_ne _ _ hne]
        exact ⟨hres.1, hres.2.2 _ _ _ _ _ _ _ _ hres.2.1 ⟨Nat.le_refl _, fun k h => by
          by_cases e : k = g.σ id
          · rw [e, k3]; exact .inl (by simp)
          · rw [upd_ne _ _ e] at h; exact .inl h, fun _ _ _ => rfl, fun _ _ _ h => h⟩, hres.2.2⟩
/-- a row without room, that nothing is put behind, is slot d's now -/
theorem Gam.rowNone (H : Gam N X0 w0 s a w g who) {d : Nat} (hd : d < N) (hf : s.fresh d = true) {c : RC} (hok : c.ok) (hc : c.len = 0) {ao : Option Addr} {so : Nat} (hao : ao = none ∨ ao = some ⟨so, 0, none⟩) :
    Gam N X0 w0 (rowAS d 0 c ++ s) (a.put (some d) (.slice ao 0 0)) w ⟨upd g.σ d so, upd g.κ d 0, g.X⟩ who := by
  refine ⟨H.defers, by have := H.size; simp [Act.put]; exact this, H.below, H.sub, H.sup, H.lt, H.whole, ?_⟩
  intro n k r hr
  rw [get_rowAS] at hr
  split at hr
  · rename_i hnk
    obtain ⟨rfl, rfl⟩ := hnk
    cases hr
    have hsz : n < a.tmps.size := by rw [H.size]; exact hd
    refine ⟨rfl, by simpa [Act.put] using hsz, ?_⟩
    rw [put_self hsz]
    exact ⟨ao, by simp only [upd_self], hao.imp (fun h => ⟨h, rfl, by simp only [upd_self]⟩) (fun h => by simp only [upd_self]; exact h)⟩
  · rename_i hnk0
    split at hr
    · rename_i hnk
      obtain ⟨rfl, rfl⟩ := hnk
      cases hr
      refine ⟨rfl, hok, by omega, fun h => by simp only [upd_self] at h; omega, fun j x hx => ?_⟩
      have hj := (List.getElem?_eq_some_iff.1 hx).1
      rw [RC.flat_len hok, hc] at hj
      omega
    · rename_i hnk
      obtain ⟨f1, f2⟩ := AS.fresh_get hf hr
      have hres := H.res n k r hr
      have hevo' : Evo g.X w g.X w := Evo.refl _ _
      cases r with
      | av v =>
        obtain ⟨h1, h2, h3⟩ := hres
        have hne : n ≠ d := by rintro rfl; exact hnk0 ⟨rfl, h1⟩
        obtain ⟨e1, e2⟩ := put_slot (a := a) (v := .slice ao 0 0) hne
        exact ⟨h1, by rw [e1]; exact h2, by rw [e2]; exact h3.evo (g' := ⟨upd g.σ d so, upd g.κ d 0, g.X⟩) hevo' fun i hid => same_upd (by rintro rfl; simp only [RV.men] at f1; rw [f1] at hid; cases hid)⟩
      | cv x =>
        obtain ⟨h1, h2, h3, h4, h5, h6, v, h7, h8⟩ := hres
        have hne : n ≠ d := fun e => by have := f2 e; omega
        simp only [RV.H, upd_ne _ _ hne]
        exact ⟨h1, h2, h3, h4, h5, h6, v, h7, h8.evo (g' := ⟨upd g.σ d so, upd g.κ d 0, g.X⟩) hevo' fun i hid => same_upd (by rintro rfl; simp only [RV.men] at f1; rw [f1] at hid; cases hid)⟩
      | row x =>
        have hrow := hres
        obtain ⟨h1, _, _, h4, _⟩ := hres
        have hne : n ≠ d := fun e => by have := f2 e; omega
        refine row_keep hrow hevo' (upd_ne _ _ hne) (upd_ne _ _ hne) fun hp => ?_
        obtain ⟨l1, l2, l3, l4⟩ := h4 hp
        exact ⟨l3, fun j hj => ⟨(l4 j hj).1, rfl, rfl⟩⟩
      | off => trivial
      | ext p =>
        have hne : n ≠ d := fun e => by have := f2 e; have := hres.1; omega
        simp only [RV.H, upd_ne _ _ hne]
        exact hres
end
end Go.Proofs.YtocpmekblkfdiaaGreatDoor
namespace Go.Proofs.YtocpmekblkfdiaaGreatDoor
open Go.RowKit
section
variable {P : Program} {E : Env} {N : Nat} {X0 : Nat → Nat → Prop} {w0 : World} {s : AS} {a : Act} {w : World} {g : Gh} {who : Nat → Option (Nat × Bool)}
theorem map_self {α : Type} {f : α → α} : ∀ {l : List α}, l.map f = l → ∀ x ∈ l, f x = x
  | y :: l, h, x, hx => by
    simp only [List.map_cons, List.cons.injEq] at h
    rcases List.mem_cons.1 hx with rfl | hx
    · exact h.1
    · exact map_self h.2 x hx
theorem notAgg_one {v : Value} (h : notAgg v) : v.oneCell' = true := by
  cases v <;> first | rfl | exact h.elim
theorem all2_mem_right {α β : Type} {R : α → β → Prop} {l : List α} {m : List β} (h : All2 R l m) : ∀ b ∈ m, ∃ a ∈ l, R a b := by
  induction h with
  | nil => intro b hb; cases hb
  | cons h _ ih =>
    intro b hb
    rcases List.mem_cons.1 hb with rfl | hb
    · exact ⟨_, by simp, h⟩
    · obtain ⟨a, ha, hr⟩ := ih b hb; exact ⟨a, by simp [ha], hr⟩
theorem id' {p : Prop} (h : p) : p := h
theorem All2.append {α β : Type} {R : α → β → Prop} {l l2 : List α} {m m2 : List β} (h : All2 R l m) (k : All2 R l2 m2) : All2 R (l ++ l2) (m ++ m2) := by
  induction h with
  | nil => exact k
  | cons h _ ih => exact .cons h ih
theorem rep_flat {α : Type} (l : List α) : ∀ (n j : Nat), j < n * l.length → (List.replicate n l).flatten[j]? = l[j % l.length]?
  | 0, j, h => by omega
  | n + 1, j, h => by
    rw [List.replicate_succ, List.flatten_cons]
    rcases Nat.lt_or_ge j l.length with hj | hj
    · rw [List.getElem?_append_left hj, Nat.mod_eq_of_lt hj]
    · rw [List.getElem?_append_right hj, rep_flat l n (j - l.length) (by rw [Nat.succ_mul] at h; omega), ← Nat.mod_eq_sub_mod hj]
theorem allLen_rep {t : Nat} {l : List CV} (h : l.length = t) : ∀ n, allLen t (List.replicate n l)
  | 0 => trivial
  | n + 1 => ⟨h, allLen_rep h n⟩
/-- the cells of a type's zero -/
theorem zero_cells {t : Nat} {te : TI} (h : TIOk P t te) (X : Nat → Nat → Prop) (w : World) : ∃ zs : List Value, te.zero.cells = zs.toArray ∧ All2 (fun c v => CV.P X w c v) te.z1.cells zs := by
  have hz := h.z1 X w
  have hs := h.z1s
  have hz1 := A1.P.toG (g := ⟨fun _ => 0, fun _ => 0, X⟩) hz
  rw [hs] at hz1
  obtain ⟨zs, h1, h2⟩ := A1.G.cells hz1
  refine ⟨zs, h1, forall2_imp h2 fun c hc v hG => ?_⟩
  have hst : c.strip = c := by
    cases hz : te.z1 with
    | cel x => rw [hz] at hc hs; simp only [A1.cells, List.mem_singleton] at hc; subst hc; simp only [A1.strip, A1.cel.injEq] at hs; exact hs
    | agg l => rw [hz] at hc hs; simp only [A1.cells] at hc; simp only [A1.strip, A1.agg.injEq] at hs; exact map_self hs c hc
  have := hG.strip
  rwa [hst] at this
theorem zeroRC_ok {t : Nat} {te : TI} (h : TIOk P t te) {n : Nat} (hz : (zeroRC te n).1) : (zeroRC te n).2.ok ∧ (zeroRC te n).2.len = n ∧ (zeroRC te n).2.t = te.size ∧ 0 < te.size ∧ te.zero.cells.size = te.size ∧
    ∀ (X : Nat → Nat → Prop) (w : World) j x, (zeroRC te n).2.flat[j]? = some x → ∃ v, (te.zero.cells)[j % te.size]? = some v ∧ x.P X w v := by
  unfold zeroRC at hz ⊢
  split at hz
  · split at hz
    · rename_i hz1
      have hs : te.size = 1 := hz
      have hc := fun X w => zero_cells h X w
      simp only [hz1, A1.cells] at hc
      refine ⟨fun x hx => ?_, by simp [RC.len], by simp [RC.t, hs], by omega, ?_, ?_⟩
      · simp only [List.mem_replicate] at hx; omega
      · obtain ⟨zs, h1, h2⟩ := hc (fun _ _ => False) default
        obtain ⟨y, rfl, _⟩ := h2.one
        rw [h1, hs]; rfl
      · intro X w j x hx
        obtain ⟨zs, h1, h2⟩ := hc X w
        obtain ⟨y, rfl, hy⟩ := h2.one
        simp only [RC.flat, List.map_replicate, List.getElem?_replicate] at hx
        split at hx
        · cases hx
          refine ⟨y, by rw [h1, hs, Nat.mod_one]; rfl, ?_⟩
          exact hy
        · cases hx
    · exact hz.elim
  · obtain ⟨h0, hl⟩ := hz
    have hc := fun X w => zero_cells h X w
    refine ⟨⟨h0, allLen_rep hl n⟩, by simp [RC.len], rfl, h0, ?_, ?_⟩
    · obtain ⟨zs, h1, h2⟩ := hc (fun _ _ => False) default
      rw [h1, ← hl, h2.len]; simp
    · intro X w j x hx
      obtain ⟨zs, h1, h2⟩ := hc X w
      have hj := (List.getElem?_eq_some_iff.1 hx).1
      have hfl := allLen_flatten _ (allLen_rep hl n)
      simp only [RC.flat] at hx hj
      rw [hfl, List.length_replicate, ← hl] at hj
      rw [rep_flat _ _ _ hj] at hx
      obtain ⟨v, hv, hP⟩ := h2.get hx
      rw [hl] at hv
      exact ⟨v, by rw [h1]; simpa using hv, hP⟩
theorem made_get {z : Array Value} {n j : Nat} {v : Value} (hj : j < n) (hv : z[j % z.size]? = some v) : (madeCells z n)[j]? = some v := by
  simp only [madeCells, Array.getElem?_map]
  rw [Array.getElem?_range, if_pos hj]
  simp only [Option.map_some, Option.some.injEq]
  rw [getElem!_def, hv]
theorem make_sound (hE : EnvOk P E) (H : Gam E.N X0 w0 s a w g who) {o : Oper} {t d : Nat} {l c : Operand} (ho : o.op = .makeSlice t l c) (hd : o.dst = some d) (h : (makeAV E t d s.fresh [s.ev l, s.ev c]).1) {K : Act → World → Prop} {Q : Exit → Act → World → Prop}
    (hk : ∀ a' w' g' who', Gam E.N X0 w0 ((makeAV E t d s.fresh [s.ev l, s.ev c]).2 ++ s) a' w' g' who' → K a' w') : o.wp P a w K Q := by
  have hl := H.ev l
  have hc := H.ev c
  generalize s.ev l = al at *
  generalize s.ev c = ac at *
  unfold makeAV at h hk
  split at h
  · rename_i k n k' m heq
    cases heq
    have el : a.eval l = .int k n := hl
    have ec : a.eval c = .int k' m := hc
    split at h
    · rename_i e hdsc
      split at h
      · rename_i te hte
        obtain ⟨h1, h2, rfl, h4, h5, h6⟩ := h
        simp only [hdsc, hte] at hk
        obtain ⟨t1, _, hd1, ht1⟩ := Env.desc_some hE hdsc (by simp)
        have hu := ht1.und
        rw [hd1] at hu
        have hti := hE.tt _ _ hte
        obtain ⟨i, hi, hz, hsz, hby⟩ := hti.info
        obtain ⟨z1, z2, z3, z4, z5, z6⟩ := zeroRC_ok hti h6
        have hbytes : (i.bytes : Int) * m ≤ 281474976710656 := by
          have e1 : (i.bytes : Int) * m ≤ 136 * m := Int.mul_le_mul_of_nonneg_right (by omega) h4
          omega
        have hr := run_make (P := P) w t e i te.zero hu hi hz k k' m m h4 (Int.le_refl _) hbytes (by omega)
        have hr2 : (execOp a.eval o).run P w = .ok (.value (.slice (some ⟨w.heap.size, 0, none⟩) m.toNat m.toNat)) (w.alloc (.cells (madeCells te.zero.cells (m.toNat * i.size)) e)) := by
          simp [execOp, ho, el, ec, hr, Result.andThen]
        unfold Oper.wp
        rw [hr2, Oper.upon_value, hd]
        have := H.newRow (c := (zeroRC te m.toNat).2) (cap := m.toNat) (b := w.heap.size) (w' := w.alloc (.cells (madeCells te.zero.cells (m.toNat * i.size)) e)) h1 h2 z1 (below_alloc _) (Nat.le_refl _) (by simp) (by omega)
          (fun j hj => ⟨by simp, by rw [World.cell?_alloc_new]; rw [z3, ← hsz] at hj; simp [size_madeCells, hj]⟩) (fun j x hx => by
            have hj := (List.getElem?_eq_some_iff.1 hx).1
            rw [RC.flat_len z1, z2, z3] at hj
            obtain ⟨v, hv, hP⟩ := z6 g.X w j x hx
            exact ⟨v, by rw [World.cell?_alloc_new]; exact made_get (by rw [hsz]; exact hj) (by rw [z5]; exact hv), hP⟩)
        rw [z2] at this
        exact hk _ _ _ _ this
      · exact h.elim
    · exact h.elim
  · exact h.elim
theorem empty_sound (hE : EnvOk P E) (H : Gam E.N X0 w0 s a w g who) {o : Oper} {t d : Nat} {ps : Array (Nat × Operand)} (ho : o.op = .buildSlice t 0 ps) (hd : o.dst = some d) (hps : ps = #[]) (h : (emptyAV E t d s.fresh).1) {K : Act → World → Prop} {Q : Exit → Act → World → Prop}
    (hk : ∀ a' w' g' who', Gam E.N X0 w0 ((emptyAV E t d s.fresh).2 ++ s) a' w' g' who' → K a' w') : o.wp P a w K Q := by
  subst hps
  unfold emptyAV at h hk
  split at h
  · rename_i e hdsc
    split at h
    · rename_i te hte
      simp only [hdsc, hte] at hk
      obtain ⟨h1, h2, h3⟩ := h
      have hti := hE.tt _ _ hte
      obtain ⟨z1, z2, z3, z4, z5, z6⟩ := zeroRC_ok hti h3
      have hr := buildSlice_run (w := w) (n := 0) hE hdsc hte [] rfl z4 (by omega) (by simp) #[] rfl
      have hr2 : (execOp a.eval o).run P w = .ok (.value (.slice (some ⟨w.heap.size, 0, none⟩) 0 0)) (w.alloc (.cells #[] e)) := by
        simp [execOp, ho, hr, Result.andThen]
      unfold Oper.wp
      rw [hr2, Oper.upon_value, hd]
      have := H.newRow (c := (zeroRC te 0).2) (cap := 0) (b := w.heap.size) (w' := w.alloc (.cells #[] e)) h1 h2 z1 (below_alloc _) (Nat.le_refl _) (by simp) (by omega)
        (fun j hj => by omega) (fun j x hx => by
          have hj := (List.getElem?_eq_some_iff.1 hx).1
          rw [RC.flat_len z1, z2] at hj
          omega)
      rw [z2] at this
      exact hk _ _ _ _ this
    · exact h.elim
  · exact h.elim
/-- cells of rows laid one behind the other -/
theorem flat_vals {R : CV → Value → Prop} : ∀ {rows : List (List CV)} {vs : List Value}, All2 (fun r v => ∃ us : List Value, v.cells = us.toArray ∧ All2 R r us) rows vs → All2 R rows.flatten (vs.flatMap fun v => v.cells.toList)
  | _, _, .nil => .nil
  | _, _, .cons ⟨us, h1, h2⟩ t => by
    simp only [List.flatten_cons, List.flatMap_cons, h1]
    exact h2.append (flat_vals t)
theorem built_sound (hE : EnvOk P E) (H : Gam E.N X0 w0 s a w g who) {o : Oper} {t d n : Nat} {ps : Array (Nat × Operand)} (ho : o.op = .buildSlice t n ps) (hd : o.dst = some d) (h : (builtAV E t d n s.fresh (ps.toList.map (·.1)) ((ps.toList.map (·.2)).map s.ev)).1) {K : Act → World → Prop} {Q : Exit → Act → World → Prop}
    (hk : ∀ a' w' g' who', Gam E.N X0 w0 ((builtAV E t d n s.fresh (ps.toList.map (·.1)) ((ps.toList.map (·.2)).map s.ev)).2 ++ s) a' w' g' who' → K a' w') : o.wp P a w K Q := by
  have hins := H.ins (ps.toList.map (·.2))
  have hparts : ∀ ixs : ps.toList.map (·.1) = List.range n, (ps.map fun x => (x.1, a.eval x.2)).toList = (((ps.toList.map (·.2)).map a.eval).zipIdx 0).map fun x => (x.2, x.1) := by
    intro hix
    have hlen : ps.toList.length = n := by have := congrArg List.length hix; simpa using this
    apply List.ext_getElem?
    intro i
    by_cases hi : i < ps.toList.length
    · have h1 : (ps.toList.map (·.1))[i]? = some i := by rw [hix]; exact List.getElem?_range (by omega)
      have hi' : i < ps.size := by simpa using hi
      simp only [List.getElem?_map, Array.getElem?_toList, Array.toList_map, List.getElem?_zipIdx, Array.getElem?_eq_getElem hi', Option.map_some, Option.some.injEq, Nat.zero_add] at h1 ⊢
      rw [h1]
    · have hi' : ¬ i < ps.size := by simpa using hi
      simp [hi']
  unfold builtAV at h hk
  split at h
  · rename_i e hdsc
    split at h
    · rename_i te hte
      simp only [hdsc, hte] at hk
      split at h
      · exact h.elim
      · rename_i hu32
        split at h
        · rename_i rows hrows
          rw [hu32] at hk
          simp only [hrows] at hk
          obtain ⟨h1, h2, hpos, hix, hlen, hn, hall⟩ := h
          have hR := rowsOf_G _ _ hins rows hrows
          have hl' : ((ps.toList.map (·.2)).map a.eval).length = n := by rw [← hlen, ← hins.len]
          have hv : ∀ v ∈ (ps.toList.map (·.2)).map a.eval, v.cells.size = te.size := allLen_vals hR hall
          have hr := buildSlice_run hE hdsc hte _ hl' (by omega) (by omega) hv (ps.map fun x => (x.1, a.eval x.2)) (hparts (range_of hix)) (w := w)
          have hrl : rows.length = n := by rw [hR.len, hl']
          have hfl := flat_vals hR
          have hok : (RC.gen te.size rows).ok := ⟨hpos, hall⟩
          have hr2 : (execOp a.eval o).run P w = .ok (.value (.slice (some ⟨w.heap.size, 0, none⟩) n n)) (w.alloc (.cells (((ps.toList.map (·.2)).map a.eval).flatMap fun v => v.cells.toList).toArray e)) := by
            simp only [execOp, ho]
            simp only [Sem.run_bind, hr, Result.andThen, Sem.run_pure]
          unfold Oper.wp
          rw [hr2, Oper.upon_value, hd]
          have := H.newRow (c := RC.gen te.size rows) (cap := n) (b := w.heap.size) (w' := w.alloc (.cells (((ps.toList.map (·.2)).map a.eval).flatMap fun v => v.cells.toList).toArray e)) h1 h2 hok (below_alloc _) (Nat.le_refl _) (by simp) (by show rows.length ≤ n; omega)
            (fun j hj => ⟨by simp, by
              have hsz : j < (((ps.toList.map (·.2)).map a.eval).flatMap fun v => v.cells.toList).length := by
                rw [← hfl.len]
                have e1 := RC.flat_len hok
                have e2 : (RC.gen te.size rows).flat = rows.flatten := rfl
                rw [e2] at e1
                rw [e1]
                show j < rows.length * te.size
                rw [hrl]; exact hj
              rw [World.cell?_alloc_new]
              simp only [List.getElem?_toArray, List.getElem?_eq_getElem hsz, Option.isSome_some]⟩)
            (fun j x hx => by
              obtain ⟨v, hv, hG⟩ := hfl.get hx
              exact ⟨v, by rw [World.cell?_alloc_new]; simpa using hv, hG⟩)
          have e3 : (RC.gen te.size rows).len = n := hrl
          rw [e3] at this
          rw [hrl] at hk
          exact hk _ _ _ _ this
        · exact h.elim
    · exact h.elim
  · exact h.elim
/-- what is put behind a row yields its cells -/
theorem tail_src {c : RC} {x : CV} {v : Value} (hok : c.ok) (hx : x.G g w v) (ha : (c.app x).1) {tx e' : Nat} (hk : P.underlying tx = some (.slice e')) :
    ∃ (m : Nat) (news : List Value) (nc : List CV), Src P c.t tx v m news w ∧ (c.app x).2.ok ∧ (c.app x).2.t = c.t ∧ (c.app x).2.len = c.len + m ∧ (c.app x).2.flat = c.flat ++ nc ∧ All2 (fun c u => CV.P g.X w c u) nc news ∧ news.length = m * c.t ∧ (m = 0 ∨ c.len + m ≤ 1000000000000) := by
  have hnil : x = .nil → ∃ (m : Nat) (news : List Value) (nc : List CV), Src P c.t tx v m news w ∧ (c.app x).2.ok ∧ (c.app x).2.t = c.t ∧ (c.app x).2.len = c.len + m ∧ (c.app x).2.flat = c.flat ++ nc ∧ All2 (fun c u => CV.P g.X w c u) nc news ∧ news.length = m * c.t ∧ (m = 0 ∨ c.len + m ≤ 1000000000000) := by
    rintro rfl
    have e : v = .slice none 0 0 := hx
    subst e
    refine ⟨0, [], [], Src.ofNil w hk 0, ?_, ?_, ?_, ?_, .nil, by simp, .inl rfl⟩ <;> cases c <;> first | exact hok | rfl | simp [RC.app]
  cases c with
  | u32 xs =>
    cases x <;> first | exact ha.elim | exact hnil rfl | skip
    case lim own ys =>
      have hx := (show CV.G g w (.lim own ys) v from hx).1
      obtain ⟨ao, cap, rfl, h2, h3, h4, h5⟩ := hx
      have hall : All2 (fun c u => CV.P g.X w c u) (ys.map u32C) (ys.map fun (y : Nat) => Value.int .u32 (y : Int)) := by
        clear h5 h4 h3 h2 hnil ha hx
        induction ys with
        | nil => exact .nil
        | cons y ys ih => exact .cons rfl ih
      refine ⟨ys.length, ys.map fun (y : Nat) => Value.int .u32 (y : Int), ys.map u32C, ?_, ?_, rfl, ?_, ?_, hall, by simp [RC.t], .inr ha⟩
      · rcases Nat.eq_zero_or_pos ys.length with h0 | h0
        · rw [List.length_eq_zero_iff.1 h0]
          cases ao with
          | none => exact Src.ofNil w hk cap
          | some b => exact Src.ofSlice w hk b 0 cap [] (by simp) (by simp) (by simp)
        · obtain ⟨b, off, rfl, hc⟩ := h5 h0
          refine Src.ofSlice w hk ⟨b, off, none⟩ ys.length cap _ (by simp [RC.t]) (fun j u hu => ?_) (fun u hu => ?_)
          · rw [List.getElem?_map, Option.map_eq_some_iff] at hu
            obtain ⟨y, hy, rfl⟩ := hu
            have hj := (List.getElem?_eq_some_iff.1 hy).1
            have := (hc j hj).2.2
            rw [List.getD_eq_getElem?_getD, hy] at this
            rw [Addr.add_lit]; exact this
          · obtain ⟨y, _, rfl⟩ := List.mem_map.1 hu; rfl
      · intro y hy
        rcases List.mem_append.1 hy with hy | hy
        · exact hok y hy
        · exact h4 y hy
      · simp [RC.app, RC.len]
      · simp [RC.app, RC.flat]
  | gen t rows =>
    cases x <;> first | exact ha.elim | exact hnil rfl | skip
    case sl own t' rs =>
      obtain ⟨rfl, hb⟩ := ha
      have hx := (show CV.G g w (.sl own t' rs) v from hx).1
      simp only [CV.P] at hx
      obtain ⟨ao, cap, rfl, h2, h3, h5⟩ := hx
      rcases Nat.eq_zero_or_pos rs.length with h0 | h0
      · have := List.length_eq_zero_iff.1 h0
        subst this
        refine ⟨0, [], [], ?_, ?_, rfl, ?_, ?_, .nil, by simp, .inl rfl⟩
        · cases ao with
          | none => exact Src.ofNil w hk cap
          | some b => exact Src.ofSlice w hk b 0 cap [] (by simp) (by simp) (by simp)
        · simpa [RC.app, RC.ok] using hok
        · simp [RC.app, RC.len]
        · simp [RC.app, RC.flat]
      · obtain ⟨b, off, rfl, hc⟩ := h5 h0
        have key : ∀ (rs : List (List CV)) (off : Nat), rowsP g.X w b off t' rs → allLen t' rs ∧ cellsP g.X w b off rs.flatten := by
          intro rs
          induction rs with
          | nil => intro off _; exact ⟨trivial, by simp only [List.flatten_nil, cellsP]⟩
          | cons r rs ih =>
            intro off h
            simp only [rowsP] at h
            obtain ⟨i1, i2⟩ := ih _ h.2.2
            refine ⟨⟨h.1, i1⟩, ?_⟩
            rw [List.flatten_cons]
            have happ : ∀ (l m : List CV) (off : Nat), cellsP g.X w b off l → cellsP g.X w b (off + l.length) m → cellsP g.X w b off (l ++ m) := by
              intro l
              induction l with
              | nil => intro m off _ h; exact h
              | cons x l ihl =>
                intro m off h k
                simp only [cellsP] at h
                simp only [List.cons_append, cellsP]
                exact ⟨h.1, ihl m (off + 1) h.2 (by rw [List.length_cons] at k; rw [show off + 1 + l.length = off + (l.length + 1) by omega]; exact k)⟩
            exact happ r _ off h.2.1 (by rw [h.1]; exact i2)
        obtain ⟨k1, k2⟩ := key rs off hc
        obtain ⟨vs, l1, l2⟩ := cellsP_list _ b off k2
        have hlen : vs.length = rs.length * t' := by rw [← l1.len, allLen_flatten rs k1]
        refine ⟨rs.length, vs, rs.flatten, Src.ofSlice w hk ⟨b, off, none⟩ rs.length cap vs hlen (fun j u hu => by rw [Addr.add_lit]; exact l2 j u hu) (fun u hu => ?_), ⟨hok.1, ?_⟩, rfl, ?_, ?_, l1, hlen, .inr hb⟩
        · obtain ⟨c, _, hP⟩ := all2_mem_right l1 u hu
          exact notAgg_one hP.flat
        · have : ∀ (l m : List (List CV)), allLen t' l → allLen t' m → allLen t' (l ++ m) := by
            intro l
            induction l with
            | nil => intro m _ h; exact h
            | cons x l ih => intro m h k; exact ⟨h.1, ih m h.2 k⟩
          exact this _ _ hok.2 k1
        · simp [RC.app, RC.len]
        · simp [RC.app, RC.flat]
theorem appTy_eq {ts : List Nat} {te : TI} (h : appTy E ts = some te) : ∃ t e, ts = [t, t] ∧ E.desc t = .slice e ∧ E.tt e = some te := by
  unfold appTy at h
  split at h
  · rename_i t t'
    split at h
    · rename_i he
      rw [beq_iff_eq] at he
      subst he
      split at h
      · rename_i e hd; exact ⟨t, e, rfl, hd, h⟩
      · cases h
    · cases h
  · cases h
/-- append: where there is room, behind what is there; else a new row -/
theorem app_run (hE : EnvOk P E) (H : Gam E.N X0 w0 s a w g who) {d : Nat} (hd : d < E.N) (hf : s.fresh d = true) {te : TI} {t e ty : Nat} (hdsc : E.desc t = .slice e) (hte : E.tt e = some te) {c : RC} (hok : c.ok) (ht : te.size = c.t) (hz : (zeroRC te 0).1) {x : CV} {xv : Value}
    {base : Option Addr} {cap : Nat} (hle : c.len ≤ cap) (hb0 : base = none → cap = 0) (holds : ∀ b, base = some b → ∃ olds : List Value, (∀ j u, olds[j]? = some u → w.cell? (b.add j) = some u) ∧ All2 (fun c u => CV.P g.X w c u) c.flat olds) {m : Nat} {news : List Value} (hs : Src P c.t t xv m news w) (hlen' : (c.app x).2.len = c.len + m) (hbig : m = 0 ∨ c.len + m ≤ 1000000000000)
    {nc : List CV} (hok' : (c.app x).2.ok) (ht' : (c.app x).2.t = c.t) (hfl : (c.app x).2.flat = c.flat ++ nc) (hnc : All2 (fun c u => CV.P g.X w c u) nc news) (hg : cap < c.len + m) :
    ∃ w' cap', (Builtin.append_ #[t, t] ty #[.slice base c.len cap, xv]).run P w = .ok (.slice (some ⟨w.heap.size, 0, none⟩) (c.app x).2.len cap') w' ∧
      Gam E.N X0 w0 (rowAS d (c.app x).2.len (c.app x).2 ++ s) (a.put (some d) (.slice (some ⟨w.heap.size, 0, none⟩) (c.app x).2.len cap')) w' ⟨upd g.σ d w.heap.size, upd g.κ d cap', fun b o => g.X b o ∨ b = w.heap.size⟩ (upd who w.heap.size (some (d, true))) := by
  obtain ⟨t1, _, hd1, ht1⟩ := Env.desc_some hE hdsc (by simp)
  have hu := ht1.und
  rw [hd1] at hu
  have hti := hE.tt _ _ hte
  obtain ⟨i, hi, hzi, hsz, hby⟩ := hti.info
  obtain ⟨z1, z2, z3, z4, z5, z6⟩ := zeroRC_ok hti hz
  have hm : c.len + m ≤ 1000000000000 := by omega
  have hbytes : (c.len + m) * i.bytes ≤ 140737488355328 := by
    have := Nat.mul_le_mul hm hby
    omega
  have his : i.size = c.t := by omega
  have hfl0 := RC.flat_len hok
  have hnl : news.length = m * c.t := hs.newsLen
  have hold : ∃ olds : List Value, (Builtin.firstCells i.size c.len (.slice base c.len cap)).run P w.drew = .ok olds.toArray w.drew ∧ All2 (fun c u => CV.P g.X w c u) c.flat olds := by
    cases base with
    | none =>
      have h0 := hb0 rfl
      have hc0 : c.len = 0 := by omega
      have hnil : c.flat = [] := List.length_eq_zero_iff.1 (by rw [hfl0, hc0]; omega)
      rw [hnil]
      exact ⟨[], run_firstCells_none _ _ _ _ _, .nil⟩
    | some b =>
      obtain ⟨olds, h1, h2⟩ := holds b rfl
      exact ⟨olds, run_firstCells_some w.drew i.size c.len b c.len cap olds (by rw [← h2.len, hfl0, his]) (by simpa using h1), h2⟩
  obtain ⟨olds, ho1, ho2⟩ := hold
  have hr := run_append_grow_src (P := P) w t t ty e i te.zero hu hi hzi base c.len cap olds ho1 xv m news (by rw [his]; exact hs) hg (by omega) (growslice_fits hg hbytes)
  rw [hlen']
  refine ⟨_, grownCap w (c.len + m) cap e, hr, ?_⟩
  have hge := grownCap_ge w (c.len + m) cap e
  have hol : olds.length = c.len * c.t := by rw [← ho2.len, hfl0]
  have hsize : ((olds ++ news).toArray ++ Builtin.zeroCells te.zero.cells (grownCap w (c.len + m) cap e - (c.len + m))).size = grownCap w (c.len + m) cap e * c.t := by
    simp only [Array.size_append, List.size_toArray, List.length_append, size_zeroCells, z5, hol, hnl, ht]
    rw [← Nat.add_mul, ← Nat.add_mul]
    congr 1
    omega
  have hb : Below w.heap.size w (w.drew.alloc (.cells ((olds ++ news).toArray ++ Builtin.zeroCells te.zero.cells (grownCap w (c.len + m) cap e - (c.len + m))) e)) := (Below.refl _ w).drew.alloc (Nat.le_refl _) _
  have hcell : ∀ j, (w.drew.alloc (.cells ((olds ++ news).toArray ++ Builtin.zeroCells te.zero.cells (grownCap w (c.len + m) cap e - (c.len + m))) e)).cell? ⟨w.heap.size, j, none⟩ = ((olds ++ news).toArray ++ Builtin.zeroCells te.zero.cells (grownCap w (c.len + m) cap e - (c.len + m)))[j]? := fun j => World.cell?_alloc_new w.drew _ _ j
  have := H.newRow (c := (c.app x).2) (cap := grownCap w (c.len + m) cap e) (b := w.heap.size) hd hf hok' hb (Nat.le_refl _) (by simp) (by omega)
    (fun j hj => ⟨World.frozen?_alloc_new w.drew _ _ _, by rw [hcell]; rw [ht', ← hsize] at hj; rw [Array.getElem?_eq_getElem hj]; rfl⟩) (fun j y hy => by
      rw [hfl] at hy
      obtain ⟨v, hv, hP⟩ := (ho2.append hnc).get hy
      refine ⟨v, ?_, hP⟩
      have hj := (List.getElem?_eq_some_iff.1 hv).1
      rw [hcell, Array.getElem?_append_left (by simpa using hj)]
      simpa using hv)
  rw [hlen'] at this
  exact this
theorem app_sound (hE : EnvOk P E) (H : Gam E.N X0 w0 s a w g who) {o : Oper} {d : Nat} {args : Array Operand} {ts : Array Nat} (ho : o.op = .call ⟨.builtin .append, args, ts⟩) (hd : o.dst = some d)
    (h : (appAV E ts.toList d s.fresh (args.toList.map s.ev) ((needsOf E o.op (args.toList.map s.ev)).map fun r => s.get r.1 r.2)).1) {K : Act → World → Prop} {Q : Exit → Act → World → Prop}
    (hk : ∀ a' w' g' who', Gam E.N X0 w0 ((appAV E ts.toList d s.fresh (args.toList.map s.ev) ((needsOf E o.op (args.toList.map s.ev)).map fun r => s.get r.1 r.2)).2 ++ s) a' w' g' who' → K a' w') : o.wp P a w K Q := by
  have hins := H.ins args.toList
  have hargs : args.map a.eval = (args.toList.map a.eval).toArray := by apply Array.ext'; simp
  rw [ho] at h hk
  have hex : ∀ {v : Value} {w' : World}, (Builtin.append_ ts o.type (args.toList.map a.eval).toArray).run P w = .ok v w' → (execOp a.eval o).run P w = .ok (.value v) w' := by
    intro v w' hr
    simp only [execOp, ho, resolve, hargs, Sem.run_bind, Sem.run_pure, Result.andThen, invoke, builtin]
    simp [hr]
  generalize args.toList.map s.ev = ins at *
  generalize args.toList.map a.eval = vals at *
  unfold appAV at h hk
  split at h
  · rename_i te hte0
    obtain ⟨t, e, hts, hdsc, hte⟩ := appTy_eq hte0
    have hts' : ts = #[t, t] := by apply Array.ext'; simpa using hts
    subst hts'
    simp only [hte0] at hk
    obtain ⟨t1, _, hd1, ht1⟩ := Env.desc_some hE hdsc (by simp)
    have hu := ht1.und
    rw [hd1] at hu
    split at h
    · rename_i id n x
      obtain ⟨bv, xv, rfl, hb, hx⟩ := hins.two
      simp only [needsOf, List.map_cons, List.map_nil] at h hk
      split at h
      · rename_i c hc
        have hid : s.get id 1 = some (.row c) := by simpa using hc
        simp only [hid] at hk
        obtain ⟨h1, h2, h3, h4, h5, h6⟩ := h
        obtain ⟨ao, hbv, hao⟩ := (show CV.G g w (.rf id n) bv from hb)
        subst hbv h3
        obtain ⟨_, hok, hle, hown, hcells⟩ := H.res _ _ _ hid
        obtain ⟨m, news, nc, q1, q2, q3, q4, q5, q6, q7, q8⟩ := tail_src (P := P) (tx := t) (e' := e) hok (show x.G g w xv from hx) h6 hu
        have hti := hE.tt _ _ hte
        obtain ⟨i, hi, hzi, hsz, hby⟩ := hti.info
        by_cases hroom : c.len + m ≤ g.κ id
        · rcases Nat.eq_zero_or_pos (g.κ id) with h0 | h0
          · have hm0 : m = 0 := by omega
            have hc0 : c.len = 0 := by omega
            subst hm0
            have hnn : news = [] := List.length_eq_zero_iff.1 (by omega)
            subst hnn
            have hr : (Builtin.append_ #[t, t] o.type #[.slice ao c.len (g.κ id), xv]).run P w = .ok (.slice ao 0 0) w := by
              rw [hc0, h0]
              cases ao with
              | none => simp [Builtin.append_, run_underlying hu, sizeOf, typeInfo, hi, q1.len, Result.andThen, show i.size = c.t by omega, q1.cells]
              | some b =>
                have := run_append_room_src (P := P) w t t o.type e i hu hi b.block b.off 0 0 xv 0 [] (by rw [show i.size = c.t by omega]; exact q1) (Nat.le_refl _) (by simp) (by simp)
                rcases hao with ⟨hno, _⟩ | hao
                · cases hno
                · cases hao; exact this
            unfold Oper.wp
            rw [hex hr, Oper.upon_value, hd]
            have e0 : (c.app x).2.len = 0 := by omega
            rw [e0] at hk
            exact hk _ _ _ _ ((H.rowNone (so := g.σ id) h1 h2 q2 e0 (hao.imp (fun h => h.1) id')).off id 1)
          · have ea : ao = some ⟨g.σ id, 0, none⟩ := by
              rcases hao with ⟨_, _, h⟩ | h
              · omega
              · exact h
            subst ea
            have hin : c.len * c.t + news.length ≤ g.κ id * c.t := by rw [q7, ← Nat.add_mul]; exact Nat.mul_le_mul_right _ hroom
            obtain ⟨k1, k2, k3, k4⟩ := hown h0
            have hr := run_append_room_src (P := P) w t t o.type e i hu hi (g.σ id) 0 c.len (g.κ id) xv m news (by rw [show i.size = c.t by omega]; exact q1) hroom
              (by rw [show i.size = c.t by omega]; intro j hj; rw [Nat.zero_add]; exact (k4 _ (by omega)).2.2) (by rw [show i.size = c.t by omega]; intro j hj; rw [Nat.zero_add]; exact (k4 _ (by omega)).2.1)
            rw [show i.size = c.t by omega, Nat.zero_add, ← q4] at hr
            unfold Oper.wp
            rw [hex hr, Oper.upon_value, hd]
            exact hk _ _ _ _ (H.rowIn h1 h2 hid h0 q2 q3 (by omega) q5 q6 hin)
        · obtain ⟨w', cap', hr, HG⟩ := app_run (ty := o.type) hE H h1 h2 hdsc hte hok h4 h5 (x := x) (base := ao) (cap := g.κ id) hle (fun h => by
              rcases hao with ⟨_, _, h⟩ | h'
              · exact h
              · rw [h] at h'; cases h') (fun b hb => by
              subst hb
              rcases hao with ⟨h, _⟩ | h
              · cases h
              · cases h
                obtain ⟨vs, v1, v2⟩ := all2_of_get c.flat (fun j => w.cell? ⟨g.σ id, j, none⟩) hcells
                exact ⟨vs, fun j u hu => by rw [Addr.add_lit, Nat.zero_add]; exact v2 j u hu, v1⟩) q1 q4 q8 q2 q3 q5 q6 (by omega)
          unfold Oper.wp
          rw [hex hr, Oper.upon_value, hd]
          exact hk _ _ _ _ (HG.off id 1)
      · exact h.elim
    · rename_i x
      obtain ⟨bv, xv, rfl, hb, hx⟩ := hins.two
      have hbv : bv = .slice none 0 0 := hb
      subst hbv
      obtain ⟨h1, h2, h5, h6⟩ := h
      have hti := hE.tt _ _ hte
      obtain ⟨z1, z2, z3, z4, z5, z6⟩ := zeroRC_ok hti h5
      obtain ⟨i, hi, hzi, hsz, hby⟩ := hti.info
      generalize (zeroRC te 0).2 = c at *
      have hk : ∀ a' w' g' who', Gam E.N X0 w0 (rowAS d (c.app x).2.len (c.app x).2 ++ s) a' w' g' who' → K a' w' := hk
      obtain ⟨m, news, nc, q1, q2, q3, q4, q5, q6, q7, q8⟩ := tail_src (P := P) (tx := t) (e' := e) z1 (show x.G g w xv from hx) h6 hu
      rcases Nat.eq_zero_or_pos m with h0 | h0
      · subst h0
        have hnn : news = [] := List.length_eq_zero_iff.1 (by omega)
        subst hnn
        have hr : (Builtin.append_ #[t, t] o.type #[.slice none 0 0, xv]).run P w = .ok (.slice none 0 0) w := by
          simp [Builtin.append_, run_underlying hu, sizeOf, typeInfo, hi, q1.len, Result.andThen, show i.size = c.t by omega, q1.cells]
        unfold Oper.wp
        rw [hex hr, Oper.upon_value, hd]
        have e0 : (c.app x).2.len = 0 := by omega
        rw [e0] at hk
        exact hk _ _ _ _ (H.rowNone (so := 0) h1 h2 q2 e0 (.inl rfl))
      · obtain ⟨w', cap', hr, HG⟩ := app_run (ty := o.type) hE H h1 h2 hdsc hte z1 (by omega) h5 (x := x) (base := none) (cap := 0) (by omega) (fun _ => rfl) (fun b hb => by cases hb) q1 q4 q8 q2 q3 q5 q6 (by omega)
        rw [z2] at hr
        unfold Oper.wp
        rw [hex hr, Oper.upon_value, hd]
        exact hk _ _ _ _ HG
    · exact h.elim
  · exact h.elim
end
end Go.Proofs.YtocpmekblkfdiaaGreatDoor
namespace Go.Proofs.YtocpmekblkfdiaaGreatDoor
open Go.RowKit
section
variable {P : Program} {E : Env} {X0 : Nat → Nat → Prop} {w0 : World} {s : AS} {a : Act} {w : World} {g : Gh} {who : Nat → Option (Nat × Bool)}
/-- a function has changed a row -/
theorem Gam.rowCall {N : Nat} (H : Gam N X0 w0 s a w g who) {id d : Nat} {c c' : RC} (hid : s.get id 1 = some (.row c)) (hd : d < N) (hok : c'.ok) {w' : World} {ao : Option Addr} (hr : rowAt g.X w' (g.σ id) (g.κ id) ao c')
    (hos : w'.os = w.os) (htp : w'.tape = w.tape) (hou : w'.output = w.output) (hsz : w.heap.size ≤ w'.heap.size) (hblk : ∀ k, k < w.heap.size → ¬ (0 < g.κ id ∧ k = g.σ id) → w'.heap[k]? = w.heap[k]?) {av : AV} {vv : Value} (hv : av.P g.X w' vv) :
    Gam N X0 w0 ((d, 0, .av av.strip) :: (id, 1, .row c') :: s) (a.put (some d) vv) w' g who := by
  obtain ⟨_, cok, hle, hown, hcells⟩ := H.res _ _ _ hid
  obtain ⟨r1, r2, r3, r4⟩ := hr
  have hcell : ∀ b o, b < w.heap.size → ¬ (0 < g.κ id ∧ b = g.σ id) → w'.cell? ⟨b, o, none⟩ = w.cell? ⟨b, o, none⟩ ∧ w'.frozen? ⟨b, o, none⟩ = w.frozen? ⟨b, o, none⟩ := fun b o hb hn => ⟨World.cell?_of_block (w := w) (hblk b hb hn), World.frozen?_of_block (w := w) (hblk b hb hn)⟩
  have hevo : Evo g.X w g.X w' := ⟨hsz, fun b o hb hx => ⟨(hcell b o hb (fun h => hx (by rw [h.2]; exact (r3 h.1).2.1 o))).1, hx⟩⟩
  have hbel : Below w0.heap.size w w' := ⟨hos, htp, hou, hsz, fun k hk => hblk k (Nat.lt_of_lt_of_le hk H.below.size) fun h => by have := (hown h.1).1; omega⟩
  refine ⟨H.defers, by have := H.size; simp [Act.put]; exact this, H.below.trans hbel, H.sub, H.sup, fun b o h => Nat.lt_of_lt_of_le (H.lt b o h) hsz, H.whole, ?_⟩
  intro n k r hr'
  by_cases hnk : d = n ∧ 0 = k
  · obtain ⟨rfl, rfl⟩ := hnk
    rw [AS.get_cons_self] at hr'
    cases hr'
    have hs2 : d < a.tmps.size := by rw [H.size]; exact hd
    refine ⟨rfl, by simpa [Act.put] using hs2, ?_⟩
    rw [put_self hs2]
    exact hv.toG
  rw [AS.get_cons_ne _ _ hnk] at hr'
  by_cases hnk2 : id = n ∧ 1 = k
  · obtain ⟨rfl, rfl⟩ := hnk2
    rw [AS.get_cons_self] at hr'
    cases hr'
    refine ⟨rfl, hok, r1, fun hp => ?_, r4⟩
    obtain ⟨k1, k2, k3, k4⟩ := hown hp
    obtain ⟨q1, q2, q3⟩ := r3 hp
    exact ⟨k1, q1, k3, fun j hj => ⟨q2 j, q3 j hj⟩⟩
  rw [AS.get_cons_ne _ _ hnk2] at hr'
  have hres := H.res n k r hr'
  cases r with
  | av v =>
    obtain ⟨h1, h2, h3⟩ := hres
    have hne : n ≠ d := by rintro rfl; exact hnk ⟨rfl, h1.symm⟩
    obtain ⟨e1, e2⟩ := put_slot (a := a) (v := vv) hne
    exact ⟨h1, by rw [e1]; exact h2, by rw [e2]; exact h3.evo hevo fun _ _ => ⟨rfl, rfl⟩⟩
  | cv x =>
    obtain ⟨h1, h2, h3, h4, h5, h6, v, h7, h8⟩ := hres
    have hn : ¬ (0 < g.κ id ∧ g.σ n = g.σ id) := fun h => by
      have := (hown h.1).2.2.1
      rw [← h.2, h4] at this
      cases this
    obtain ⟨c1, c2⟩ := hcell (g.σ n) (k - 1) h3 hn
    exact ⟨h1, h2, Nat.lt_of_lt_of_le h3 hsz, h4, h5, by rw [c2]; exact h6, v, by rw [c1]; exact h7, h8.evo hevo fun _ _ => ⟨rfl, rfl⟩⟩
  | row x =>
    have hrow := hres
    obtain ⟨h1, _, _, h4, _⟩ := hres
    refine row_keep hrow hevo rfl rfl fun hp => ?_
    obtain ⟨k1, k2, k3, k4⟩ := h4 hp
    refine ⟨k3, fun j hj => ?_⟩
    have hn : ¬ (0 < g.κ id ∧ g.σ n = g.σ id) := fun h => by
      have := (hown h.1).2.2.1
      rw [← h.2, k3] at this
      cases this
      exact hnk2 ⟨rfl, h1.symm⟩
    obtain ⟨c1, c2⟩ := hcell (g.σ n) j k2 hn
    exact ⟨(k4 j hj).1, c2, c1⟩
  | off => trivial
  | ext p =>
    refine ⟨hres.1, hres.2.2 _ _ _ _ _ _ _ _ hres.2.1 ⟨hsz, fun _ h => .inl h, fun k hk hn => hblk k hk fun h => ?_, fun _ _ _ h => h⟩, hres.2.2⟩
    rw [h.2, (hown h.1).2.2.1] at hn
    cases hn
theorem chg_sound (hE : EnvOk P E) (H : Gam E.N X0 w0 s a w g who) {o : Oper} {f d : Nat} {args : Array Operand} {ts : Array Nat} (ho : o.op = .call ⟨.value (.func f), args, ts⟩) (hd : o.dst = some d)
    (h : (chgAV E f d (E.fn (f + 2000000)) (args.toList.map s.ev) ((chgK (args.toList.map s.ev)).map fun r => s.get r.1 r.2)).1) {K : Act → World → Prop} {Q : Exit → Act → World → Prop}
    (hk : ∀ a' w' g' who', Gam E.N X0 w0 ((chgAV E f d (E.fn (f + 2000000)) (args.toList.map s.ev) ((chgK (args.toList.map s.ev)).map fun r => s.get r.1 r.2)).2 ++ s) a' w' g' who' → K a' w') : o.wp P a w K Q := by
  have hins := H.ins args.toList
  have hargs : args.map a.eval = (args.toList.map a.eval).toArray := by apply Array.ext'; simp
  generalize args.toList.map s.ev = ins at *
  generalize args.toList.map a.eval = vals at *
  unfold chgAV at h hk
  split at h
  · rename_i dm hdm
    simp only [hdm] at hk
    split at h
    · rename_i id n rest
      simp only [chgK, List.map_cons, List.map_nil] at h hk
      cases hg : s.get id 1 with
      | none => rw [hg] at h; exact h.elim
      | some r =>
        rw [hg] at h hk
        cases r with
        | row c =>
          simp only at h hk
          unfold chgOut at h hk
          split at h
          · rename_i c' hc'
            simp only [hc'] at hk
            obtain ⟨h1, hlt, rfl, h4⟩ := h
            cases hins with
            | cons h0 hrest =>
              rename_i v0 vs
              obtain ⟨ao, rfl, hao⟩ := (show CV.G g w (.rf id c.len) v0 from h0)
              obtain ⟨_, cok, hle, hown, hcells⟩ := H.res _ _ _ hg
              have hS := hE.fnM _ _ hlt hdm
              have hat : rowAt g.X w (g.σ id) (g.κ id) ao c := by
                refine ⟨hle, ?_, fun hp => ?_, hcells⟩
                · rcases hao with ⟨e1, e2, e3⟩ | e
                  · exact .inl ⟨e1, e2, e3⟩
                  · exact .inr e
                · obtain ⟨k1, k2, k3, k4⟩ := hown hp
                  refine ⟨k2, ?_, fun j hj => (k4 j hj).2⟩
                  rcases H.whole _ _ k3 with hw | hw
                  · exact hw
                  · exact absurd (k4 0 (Nat.mul_pos hp (RC.t_pos cok))).1 (hw 0)
              have hc := hS.runs c (rest.map AV.strip) g.X w vs (g.σ id) (g.κ id) ao h4 cok H.lt hat (all2_strip hrest)
              have hr : (execOp a.eval o).run P w = .ok (.enter f (.slice ao c.len (g.κ id) :: vs).toArray) w := by
                simp only [execOp, ho, resolve, hargs, Act.eval, Deferred.ofValue, Sem.run_bind, Sem.run_pure, Result.andThen, invoke]
                simp [hS.call]
              unfold Oper.wp
              rw [hr, Oper.upon_enter]
              refine hc.mono fun e w' hh => ?_
              obtain ⟨v, rfl, hv, c2, q0, q1, _, _, q4, q5, q6, q7, q8, q9⟩ := hh
              rw [hc'] at q0
              cases q0
              rw [hd]
              exact hk _ _ _ _ (H.rowCall hg h1 q1 q4 q5 q6 q7 q8 q9 hv)
          · exact h.elim
        | av _ => exact h.elim
        | cv _ => exact h.elim
        | off => exact h.elim
        | ext _ => exact h.elim
    · exact h.elim
  · exact h.elim
theorem gl_sound (hE : EnvOk P E) (H : Gam E.N X0 w0 s a w g who) {o : Oper} {f d : Nat} {args : Array Operand} {ts : Array Nat} (ho : o.op = .call ⟨.value (.func f), args, ts⟩) (hd : o.dst = some d)
    (h : (glAV E f d (args.toList.map s.ev) [s.get 999999 1]).1) {K : Act → World → Prop} {Q : Exit → Act → World → Prop}
    (hk : ∀ a' w' g' who', Gam E.N X0 w0 ((glAV E f d (args.toList.map s.ev) [s.get 999999 1]).2 ++ s) a' w' g' who' → K a' w') : o.wp P a w K Q := by
  have hins := H.ins args.toList
  have hargs : args.map a.eval = (args.toList.map a.eval).toArray := by apply Array.ext'; simp
  generalize args.toList.map s.ev = ins at *
  generalize args.toList.map a.eval = vals at *
  unfold glAV at h hk
  cases hg : s.get 999999 1 with
  | none => rw [hg] at h; exact h.elim
  | some r =>
    rw [hg] at h hk
    cases r with
    | ext p =>
      simp only at h hk
      unfold glOut at h hk
      split at h
      · rename_i gd hgd
        simp only [hgd] at hk
        obtain ⟨h1, hlt, rfl, h4⟩ := h
        obtain ⟨_, ⟨_, hgl⟩, _⟩ := H.res _ _ _ hg
        have hS := hE.fnG _ _ hlt hgd
        have hc := hS.runs (ins.map AV.strip) g.X w vals h4 H.lt hgl (all2_strip hins)
        have hr : (execOp a.eval o).run P w = .ok (.enter f vals.toArray) w := by
          simp only [execOp, ho, resolve, hargs, Act.eval, Deferred.ofValue, Sem.run_bind, Sem.run_pure, Result.andThen, invoke]
          simp [hS.call]
        unfold Oper.wp
        rw [hr, Oper.upon_enter]
        refine hc.mono fun e w' hh => ?_
        obtain ⟨v, rfl, hv, hb⟩ := hh
        rw [hd]
        exact hk _ _ _ _ (H.put (d := d) h1 hb (v := v) (rv := .av (gd (ins.map AV.strip)).2) (fun av e => by cases e; exact AV.P.toG' hv (hS.flat _ h4)) (.inl ⟨_, rfl⟩))
      · exact h.elim
    | av _ => exact h.elim
    | cv _ => exact h.elim
    | off => exact h.elim
    | row _ => exact h.elim
theorem push_fold : ∀ (l : List Nat) (s : ByteArray), (l.map fun x : Nat => (x : Int)).foldl (fun r n => r.push (UInt8.ofNat n.toNat)) s = s ++ byt l
  | [], s => by
    apply ByteArray.ext
    apply Array.ext'
    simp [byt]
  | x :: l, s => by
    simp only [List.map_cons, List.foldl_cons]
    rw [push_fold l]
    apply ByteArray.ext
    apply Array.ext'
    simp [byt, ByteArray.push]
theorem allLen_take {t : Nat} : ∀ (rows : List (List CV)) (n : Nat), allLen t rows → allLen t (rows.take n)
  | [], n, _ => by simp [allLen]
  | r :: rs, 0, _ => trivial
  | r :: rs, n + 1, h => ⟨h.1, allLen_take rs n h.2⟩
theorem flatten_take_get : ∀ (rows : List (List CV)) (n j : Nat) (x : CV), (rows.take n).flatten[j]? = some x → rows.flatten[j]? = some x
  | [], n, j, x, h => by simp at h
  | r :: rs, 0, j, x, h => by simp at h
  | r :: rs, n + 1, j, x, h => by
    simp only [List.take_succ_cons, List.flatten_cons] at h ⊢
    rcases Nat.lt_or_ge j r.length with hj | hj
    · rw [List.getElem?_append_left hj] at h ⊢; exact h
    · rw [List.getElem?_append_right hj] at h ⊢; exact flatten_take_get rs n _ x h
theorem takeR_spec {c : RC} (h : c.ok) (n : Nat) : (c.takeR n).ok ∧ (c.takeR n).t = c.t ∧ (c.takeR n).len = min n c.len ∧ ∀ (j : Nat) (x : CV), (c.takeR n).flat[j]? = some x → c.flat[j]? = some x := by
  cases c with
  | u32 xs =>
    refine ⟨fun x hx => h x (List.mem_of_mem_take hx), rfl, List.length_take, fun j x hx => ?_⟩
    simp only [RC.takeR, RC.flat, List.getElem?_map, List.getElem?_take] at hx ⊢
    split at hx
    · exact hx
    · cases hx
  | gen t rows => exact ⟨⟨h.1, allLen_take rows n h.2⟩, rfl, List.length_take, fun j x hx => flatten_take_get rows n j x hx⟩
theorem Gam.rowTake {N : Nat} (H : Gam N X0 w0 s a w g who) {id : Nat} {c : RC} (hid : s.get id 1 = some (.row c)) (n : Nat) : Gam N X0 w0 ((id, 1, .row (c.takeR n)) :: s) a w g who := by
  refine ⟨H.defers, H.size, H.below, H.sub, H.sup, H.lt, H.whole, fun n' k' r hr => ?_⟩
  by_cases hnk : id = n' ∧ 1 = k'
  · obtain ⟨rfl, rfl⟩ := hnk
    rw [AS.get_cons_self] at hr
    cases hr
    obtain ⟨_, hok, hle, hown, hcells⟩ := H.res _ _ _ hid
    obtain ⟨k1, k2, k3, k4⟩ := takeR_spec hok n
    exact ⟨rfl, k1, by omega, fun hp => by rw [k2]; exact hown hp, fun j x hx => hcells j x (k4 j x hx)⟩
  · rw [AS.get_cons_ne _ _ hnk] at hr
    exact H.res _ _ _ hr
theorem slRow_sound (hE : EnvOk P E) (H : Gam E.N X0 w0 s a w g who) {o : Oper} {t d id n : Nat} {x : Operand} {lo hi mx : Option Operand} {k : IntKind} {h : Int} (ho : o.op = .slice t x lo hi mx) (hd : o.dst = some d)
    (hins : (x :: (lo.toList ++ hi.toList)).map s.ev = [.one (.cel (.rf id n)), .one (.cel (.int k h))]) (hh : (slRow E t d id n lo.isSome hi.isSome mx h [s.get id 1]).1) {K : Act → World → Prop} {Q : Exit → Act → World → Prop}
    (hk : ∀ a' w' g' who', Gam E.N X0 w0 ((slRow E t d id n lo.isSome hi.isSome mx h [s.get id 1]).2 ++ s) a' w' g' who' → K a' w') : o.wp P a w K Q := by
  unfold slRow at hh hk
  split at hh
  · rename_i c hc
    have hid : s.get id 1 = some (.row c) := by simpa using hc
    simp only [hid] at hk
    obtain ⟨h1, h2, h3, h4, h5, h6⟩ := hh
    cases mx with
    | some _ => simp [onlyHi] at h2
    | none =>
      cases lo with
      | some _ => simp [onlyHi] at h2
      | none =>
        cases hi with
        | none => simp [onlyHi] at h2
        | some y =>
          simp only [Option.toList, List.nil_append, List.map_cons, List.map_nil, List.cons.injEq, and_true] at hins
          have hx := H.ev x
          have hy := H.ev y
          rw [hins.1] at hx
          rw [hins.2] at hy
          obtain ⟨ao, ex, hao⟩ := (show CV.G g w (.rf id n) (a.eval x) from hx)
          have ey : a.eval y = .int k h := hy
          obtain ⟨h', rfl⟩ : ∃ h' : Nat, h = h' := ⟨h.toNat, by omega⟩
          obtain ⟨_, hok, hle, hown, hcells⟩ := H.res _ _ _ hid
          unfold slElem at h3
          split at h3
          · rename_i e hdsc
            obtain ⟨te, hte⟩ := Option.isSome_iff_exists.1 h3
            obtain ⟨t1, _, hd1, ht1⟩ := Env.desc_some hE hdsc (by simp)
            have hu : ∀ w, (underlying t).run P w = .ok (.slice e) w := fun w => by rw [run_underlying (w := w) ht1.und, hd1]
            have hat : ∀ v lo hi mx, (Instr.sliceAt t v lo hi mx).run P w = (Instr.slice t v lo hi mx).run P w := fun v lo hi mx => by
              simp [Instr.sliceAt, hu, Result.andThen]
            have hr := (slice_run (P := P) (w := w) (te := e) (t := t) (ao := ao) (l := 0) (h := h') (len := n) (cap := g.κ id) (k' := k) (k := .i64) hu (hE.tt _ _ hte).size (Nat.zero_le _) (by omega) (by omega)).1
            have hr2 : (execOp a.eval o).run P w = .ok (.value (.slice ao h' (g.κ id))) w := by
              simp only [execOp, ho, ex, ey, Sem.run_bind, Option.map_none, Option.map_some]
              rw [hat, hr]
              have : (if g.κ id = 0 then ao else ao.map fun x => x.add (0 * te.size)) = ao := by
                split
                · rfl
                · cases ao with
                  | none => rfl
                  | some b => simp [Addr.add]
              rw [this]
              rfl
            have H2 := (H.rowTake hid h').put (d := d) h1 (Below.refl _ w) (v := .slice ao h' (g.κ id)) (rv := .av (.one (.cel (.rf id h')))) (fun av e => by
              cases e
              exact ⟨ao, rfl, hao.imp (fun ⟨q1, q2, q3⟩ => ⟨q1, by omega, q3⟩) fun q => q⟩) (.inl ⟨_, rfl⟩)
            unfold Oper.wp
            rw [hr2, Oper.upon_value, hd]
            exact hk _ _ _ _ H2
          · cases h3
  · exact hh.elim
theorem allU8_spec : ∀ {rows : List (List CV)}, allU8 rows → rows.flatten = (rows.map u8N).map (fun x : Nat => CV.int .u8 (x : Int)) ∧ ∀ x ∈ rows.map u8N, x < 256
  | [], _ => ⟨rfl, by simp⟩
  | r :: rs, h => by
    obtain ⟨h1, h2⟩ := h
    obtain ⟨i1, i2⟩ := allU8_spec h2
    unfold isU8 at h1
    split at h1
    · rename_i x
      refine ⟨?_, fun y hy => ?_⟩
      · simp only [List.flatten_cons, List.map_cons, i1, u8N, List.cons_append, List.nil_append]
        rw [Int.toNat_of_nonneg h1.1]
      · rcases List.mem_cons.1 hy with rfl | hy
        · simp only [u8N]; omega
        · exact i2 y hy
    · exact h1.elim
theorem cvRow_sound (hE : EnvOk P E) (H : Gam E.N X0 w0 s a w g who) {o : Oper} {sd dd d id n : Nat} {x : Operand} (ho : o.op = .convert sd dd x) (hd : o.dst = some d)
    (hins : s.ev x = .one (.cel (.rf id n))) (hh : (cvRowA E (E.desc sd) (E.desc dd) d n [s.get id 1]).1) {K : Act → World → Prop} {Q : Exit → Act → World → Prop}
    (hk : ∀ a' w' g' who', Gam E.N X0 w0 ((cvRowA E (E.desc sd) (E.desc dd) d n [s.get id 1]).2 ++ s) a' w' g' who' → K a' w') : o.wp P a w K Q := by
  unfold cvRowA at hh hk
  split at hh
  · rename_i t rows hc
    have hid : s.get id 1 = some (.row (.gen t rows)) := by simpa using hc
    simp only [hid] at hk
    obtain ⟨h1, h2, h3, h4, h5⟩ := hh
    have hx := H.ev x
    rw [hins] at hx
    obtain ⟨ao, ex, hao⟩ := (show CV.G g w (.rf id n) (a.eval x) from hx)
    obtain ⟨_, hok, hle, hown, hcells⟩ := H.res _ _ _ hid
    have ea : ao = some ⟨g.σ id, 0, none⟩ := by
      rcases hao with ⟨_, q, _⟩ | q
      · omega
      · exact q
    subst ea
    obtain ⟨f1, f2⟩ := allU8_spec h5
    have hcell : ∀ k v, ((rows.map u8N).map fun x : Nat => Value.int .u8 (x : Int))[k]? = some v → w.cell? ⟨g.σ id, k, none⟩ = some v := by
      intro k v hv
      rw [List.getElem?_map, Option.map_eq_some_iff] at hv
      obtain ⟨y, hy, rfl⟩ := hv
      obtain ⟨u, hu, hP⟩ := hcells k (.int .u8 (y : Int)) (by
        show rows.flatten[k]? = _
        rw [f1, List.getElem?_map, hy]; rfl)
      have e : u = .int .u8 (y : Int) := hP
      rw [← e]; exact hu
    unfold bytesTy at h2
    split at h2
    · rename_i e hd1 hd2
      split at h2
      · rename_i hd3
        obtain ⟨t1, _, q1, ht1⟩ := Env.desc_some hE hd1 (by simp)
        obtain ⟨t2, _, q2, ht2⟩ := Env.desc_some hE hd2 (by simp)
        obtain ⟨t3, _, q3, ht3⟩ := Env.desc_some hE hd3 (by simp)
        have hu1 := run_underlying (w := w) ht1.und
        have hu2 := run_underlying (w := w) ht2.und
        have hu3 := run_underlying (w := w) ht3.und
        rw [q1] at hu1
        rw [q2] at hu2
        rw [q3] at hu3
        have hload := run_loadCells_list (P := P) w ⟨g.σ id, 0, none⟩ ((rows.map u8N).map fun x : Nat => Value.int .u8 (x : Int)) (fun k v hk => by rw [Addr.add_lit, Nat.zero_add]; exact hcell k v hk)
        have hlen : ((rows.map u8N).map fun x : Nat => Value.int .u8 (x : Int)).length = n := by simp [h3]
        rw [hlen] at hload
        have hb := run_bytesToString (P := P) w ⟨g.σ id, 0, none⟩ n (g.κ id) ((rows.map u8N).map fun x : Nat => (x : Int)) (by rw [hload]; congr 2; simp [Function.comp_def])
        rw [push_fold] at hb
        have e0 : ByteArray.empty ++ byt (rows.map u8N) = byt (rows.map u8N) := by apply ByteArray.ext; apply Array.ext'; simp [byt]
        rw [e0] at hb
        have hr2 : (execOp a.eval o).run P w = .ok (.value (.string (byt (rows.map u8N)))) w := by
          simp only [execOp, ho, ex, convert, Sem.run_bind, hu1, hu2, hu3, Result.andThen, hb, Sem.run_pure]
        unfold Oper.wp
        rw [hr2, Oper.upon_value, hd]
        exact hk _ _ _ _ (H.put (d := d) h1 (Below.refl _ w) (v := .string (byt (rows.map u8N))) (rv := .av (.one (.cel (.str (rows.map u8N))))) (fun av e => by
          cases e
          exact ⟨rfl, f2⟩) (.inl ⟨_, rfl⟩))
      · cases h2
    · cases h2
  · exact hh.elim
theorem act_sound (hE : EnvOk P E) (H : Gam E.N X0 w0 s a w g who) (o : Oper) (h : (actOf E o s).1) (Q : Exit → Act → World → Prop) (K : Act → World → Prop)
    (hk : ∀ a' w' g' who', Gam E.N X0 w0 ((actOf E o s).2 ++ s) a' w' g' who' → K a' w') : o.wp P a w K Q := by
  have hval : ∀ (d : Nat), o.dst = some d → (d < E.N ∧ (valOf E o.op ((insOf o.op).map s.ev) ((needsOf E o.op ((insOf o.op).map s.ev)).map fun r => s.get r.1 r.2)).1) →
      (∀ a' w' g' who', Gam E.N X0 w0 ((d, 0, .av (valOf E o.op ((insOf o.op).map s.ev) ((needsOf E o.op ((insOf o.op).map s.ev)).map fun r => s.get r.1 r.2)).2) :: s) a' w' g' who' → K a' w') → o.wp P a w K Q := by
    intro d hd hh hk'
    refine val_sound hE H o hh.2 Q K fun v w' hb hG => ?_
    rw [hd]
    exact hk' _ _ g who (H.put hh.1 hb (fun av e => by cases e; exact hG) (.inl ⟨_, rfl⟩))
  have hnon : o.dst = none → (valOf E o.op ((insOf o.op).map s.ev) ((needsOf E o.op ((insOf o.op).map s.ev)).map fun r => s.get r.1 r.2)).1 →
      (∀ a' w' g' who', Gam E.N X0 w0 s a' w' g' who' → K a' w') → o.wp P a w K Q := by
    intro hd hh hk'
    refine val_sound hE H o hh Q K fun v w' hb hG => ?_
    rw [hd]
    exact hk' _ _ g who (H.grow hb)
  unfold actOf effOf at h hk
  cases ho : o.op
  case alloc t =>
    cases hd : o.dst with
    | none => rw [ho, hd] at h; simp only [valOf] at h; exact h.elim
    | some d =>
      rw [ho, hd] at h hk
      simp only at h hk
      split at h
      · rename_i ti ht
        simp only [ht] at hk
        have hti := hE.tt _ _ ht
        have hz1 := A1.P.toG (g := g) (hti.z1 g.X w)
        rw [hti.z1s] at hz1
        obtain ⟨us, hu, hcs⟩ := A1.G.cells hz1
        have hm : ∀ c ∈ ti.z1.cells, c.men d = false := by
          intro c hc
          have hst := hti.z1s
          cases hz : ti.z1 with
          | cel x => rw [hz] at hc hst; simp only [A1.cells, List.mem_singleton] at hc; subst hc; simp only [A1.strip, A1.cel.injEq] at hst; exact CV.strip_men hst d
          | agg l => rw [hz] at hc hst; simp only [A1.cells] at hc; simp only [A1.strip, A1.agg.injEq] at hst; exact CV.strip_men (map_self hst c hc) d
        have hr : (execOp a.eval o).run P w = .ok (.value (.pointer (some ⟨w.heap.size, 0, none⟩))) (w.alloc (.cells us.toArray t)) := by
          simp [execOp, ho, Instr.alloc, hti.zero, Result.andThen, newVar, newRow, hu]
        unfold Oper.wp
        rw [hr, Oper.upon_value, hd]
        exact hk _ _ _ _ (H.alloc h.1 h.2 hcs hm t)
      · exact h.elim
  case box t x =>
    cases hd : o.dst with
    | none => rw [ho, hd] at h; simp only [valOf] at h; exact h.elim
    | some d =>
      rw [ho, hd] at h hk
      simp only [insOf, List.map_cons, List.map_nil] at h hk
      have hx := H.ev x
      generalize s.ev x = ax at *
      split at h
      · rename_i av hi
        cases hi
        simp only at hk
        obtain ⟨us, hu, hcs⟩ := A1.G.cells (show av.G g w (a.eval x) from hx)
        have hm : ∀ c ∈ av.cells, c.men d = false := by
          intro c hc
          have hst := h.2.2
          cases av with
          | cel y => simp only [A1.cells, List.mem_singleton] at hc; subst hc; exact hst
          | agg l =>
            simp only [A1.cells] at hc
            simp only [A1.men, List.any_eq_false] at hst
            simpa using hst c hc
        have hr : (execOp a.eval o).run P w = .ok (.value (.pointer (some ⟨w.heap.size, 0, none⟩))) (w.alloc (.cells us.toArray t)) := by
          simp [execOp, ho, Instr.box, Result.andThen, newVar, newRow, hu]
        unfold Oper.wp
        rw [hr, Oper.upon_value, hd]
        exact hk _ _ _ _ (H.alloc h.1 h.2.1 hcs hm t)
      · exact h.elim
  case store t x y =>
    cases hd : o.dst with
    | some d => rw [ho, hd] at h; simp only [valOf] at h; exact h.2.elim
    | none =>
      rw [ho, hd] at h hk
      simp only [insOf, List.map_cons, List.map_nil] at h hk
      have hx := H.ev x
      have hy := H.ev y
      generalize s.ev x = ax at *
      generalize s.ev y = ay at *
      split at h
      · rename_i ti id off av ht hi
        cases hi
        simp only [ht] at hk
        have hti := hE.tt _ _ ht
        split at h
        · rename_i cs0 hcs0
          simp only [hcs0] at hk
          obtain ⟨us, hu, hcs⟩ := A1.G.cells (show av.G g w (a.eval y) from hy)
          have hp : a.eval x = .pointer (some ⟨g.σ id, off, none⟩) := hx
          have hlen : av.cells.length = ti.size := h
          have hall : ∀ j, j < av.cells.length → ∃ c, s.get id (off + 1 + j) = some (.cv c) := by
            intro j hj
            have e1 : E.sz t = ti.size := by simp [Env.sz, ht]
            simp only [needsOf, e1] at hcs0
            exact cvs_all _ _ _ _ hcs0 j (by omega)
          have hcell : ∀ j, j < us.length → (w.cell? ⟨g.σ id, off + j, none⟩).isSome = true ∧ w.frozen? ⟨g.σ id, off + j, none⟩ = false := by
            intro j hj
            obtain ⟨c, hc⟩ := hall j (by rw [hcs.len]; exact hj)
            obtain ⟨_, _, _, _, _, h6, v, h7, _⟩ := H.res _ _ _ hc
            rw [show off + 1 + j - 1 = off + j by omega] at h6 h7
            exact ⟨by rw [h7]; rfl, h6⟩
          have hst := run_storeCells_cells (P := P) (g.σ id) off us 0 w (fun j hj => by simpa using (hcell j hj).1) (fun j hj => by simpa using (hcell j hj).2)
            (fun v hv => by obtain ⟨c, _, hG⟩ := all2_mem_right hcs v hv; exact notAgg_one hG.flat)
          have hr : (execOp a.eval o).run P w = .ok .skip (w.setCells (g.σ id) off us) := by
            simp [execOp, ho, Instr.storeAt, Instr.sureAddr, hp, storeVar, hu, hti.size, Result.andThen, ← hlen, ← hcs.len, hst]
          unfold Oper.wp
          rw [hr, Oper.upon_skip, hd]
          exact hk _ _ _ _ (H.store hcs hall)
        · exact h.elim
      · rename_i ti id t' i av ht hi
        cases hi
        simp only [ht] at hk
        have hti := hE.tt _ _ ht
        simp only [needsOf, List.map_cons, List.map_nil] at h hk
        split at h
        · rename_i c hc
          have hid : s.get id 1 = some (.row c) := by simpa using hc
          simp only [hid] at hk
          obtain ⟨rfl, h2, h3, h4⟩ := h
          obtain ⟨us, hu, hcs⟩ := A1.G.cells (show av.G g w (a.eval y) from hy)
          have hp : a.eval x = .pointer (some ⟨g.σ id, i * c.t, none⟩) := hx
          obtain ⟨q1, q2, q3, HG⟩ := H.rowSet hid h3 hcs h4
          obtain ⟨_, _, _, hown, _⟩ := H.res _ _ _ hid
          obtain ⟨_, _, _, k4⟩ := hown q2
          have hst := run_storeCells_cells (P := P) (g.σ id) (i * c.t) us 0 w (fun j hj => by simpa using (k4 _ (by omega)).2.2) (fun j hj => by simpa using (k4 _ (by omega)).2.1)
            (fun v hv => by obtain ⟨c, _, hG⟩ := all2_mem_right hcs v hv; exact notAgg_one hG.flat)
          rw [Nat.add_zero, ← q1] at hst
          have hr : (execOp a.eval o).run P w = .ok .skip (w.setCells (g.σ id) (i * c.t) us) := by
            simp [execOp, ho, Instr.storeAt, Instr.sureAddr, hp, storeVar, hu, hti.size, Result.andThen, h2, ← q1, hst]
          unfold Oper.wp
          rw [hr, Oper.upon_skip, hd]
          exact hk _ _ _ _ HG
        · exact h.elim
      · exact h.elim
  case makeSlice t l c =>
    cases hd : o.dst with
    | none => rw [ho, hd] at h; simp only [valOf] at h; exact h.elim
    | some d =>
      rw [ho, hd] at h hk
      exact make_sound hE H ho hd h hk
  case buildSlice t n ps =>
    cases hd : o.dst with
    | none => rw [ho] at h hk hnon; rw [hd] at h hk; cases n <;> exact hnon hd h hk
    | some d =>
      cases n with
      | zero =>
        rw [ho, hd] at h hk
        exact empty_sound hE H ho hd h.1 h.2 hk
      | succ n =>
        rw [ho] at h hk hval
        rw [hd] at h hk
        have h2 : (buildEff E t d (n + 1) s.fresh ps ((ps.toList.map (·.2)).map s.ev) (n + 1 == 0) (ownB E d)).1 := h
        have hk2 : ∀ a' w' g' who', Gam E.N X0 w0 ((buildEff E t d (n + 1) s.fresh ps ((ps.toList.map (·.2)).map s.ev) (n + 1 == 0) (ownB E d)).2 ++ s) a' w' g' who' → K a' w' := hk
        cases hob : ownB E d with
        | false => rw [hob] at h2 hk2; exact hval d hd h2 hk2
        | true => rw [hob] at h2 hk2; exact built_sound hE H ho hd h2 hk2
  case slice t x lo hi mx =>
    cases hd : o.dst with
    | none => rw [ho] at h hk hnon; rw [hd] at h hk; exact hnon hd h hk
    | some d =>
      rw [ho] at h hk hval
      rw [hd] at h hk
      have h : (slEff E t d lo.isSome hi.isSome mx (valOf E (.slice t x lo hi mx) ((insOf (.slice t x lo hi mx)).map s.ev) ((needsOf E (.slice t x lo hi mx) ((insOf (.slice t x lo hi mx)).map s.ev)).map fun r => s.get r.1 r.2)) ((insOf (.slice t x lo hi mx)).map s.ev) ((needsOf E (.slice t x lo hi mx) ((insOf (.slice t x lo hi mx)).map s.ev)).map fun r => s.get r.1 r.2)).1 := h
      have hk : ∀ a' w' g' who', Gam E.N X0 w0 ((slEff E t d lo.isSome hi.isSome mx (valOf E (.slice t x lo hi mx) ((insOf (.slice t x lo hi mx)).map s.ev) ((needsOf E (.slice t x lo hi mx) ((insOf (.slice t x lo hi mx)).map s.ev)).map fun r => s.get r.1 r.2)) ((insOf (.slice t x lo hi mx)).map s.ev) ((needsOf E (.slice t x lo hi mx) ((insOf (.slice t x lo hi mx)).map s.ev)).map fun r => s.get r.1 r.2)).2 ++ s) a' w' g' who' → K a' w' := hk
      by_cases hrow : ∃ id n k h', (insOf (.slice t x lo hi mx)).map s.ev = [.one (.cel (.rf id n)), .one (.cel (.int k h'))]
      · obtain ⟨id, n, k, h', e⟩ := hrow
        rw [e] at h hk
        exact slRow_sound hE H ho hd e h hk
      · have e : ∀ (r : Prop × AV) fs, slEff E t d lo.isSome hi.isSome mx r ((insOf (.slice t x lo hi mx)).map s.ev) fs = (d < E.N ∧ r.1, [(d, 0, .av r.2)]) := by
          intro r fs
          unfold slEff
          split
          · rename_i id n k h' he; exact absurd ⟨id, n, k, h', he⟩ hrow
          · rfl
        rw [e] at h
        simp only [e] at hk
        exact hval d hd h hk
  case convert sd dd x =>
    cases hd : o.dst with
    | none => rw [ho] at h hk hnon; rw [hd] at h hk; exact hnon hd h hk
    | some d =>
      rw [ho] at h hk hval
      rw [hd] at h hk
      have h : (cvEff E (E.desc sd) (E.desc dd) d (valOf E (.convert sd dd x) [s.ev x] ((needsOf E (.convert sd dd x) [s.ev x]).map fun r => s.get r.1 r.2)) [s.ev x] ((needsOf E (.convert sd dd x) [s.ev x]).map fun r => s.get r.1 r.2)).1 := h
      have hk : ∀ a' w' g' who', Gam E.N X0 w0 ((cvEff E (E.desc sd) (E.desc dd) d (valOf E (.convert sd dd x) [s.ev x] ((needsOf E (.convert sd dd x) [s.ev x]).map fun r => s.get r.1 r.2)) [s.ev x] ((needsOf E (.convert sd dd x) [s.ev x]).map fun r => s.get r.1 r.2)).2 ++ s) a' w' g' who' → K a' w' := hk
      by_cases hrow : ∃ id n, s.ev x = .one (.cel (.rf id n))
      · obtain ⟨id, n, e⟩ := hrow
        rw [e] at h hk
        exact cvRow_sound hE H ho hd e h hk
      · have e : ∀ (r : Prop × AV) fs, cvEff E (E.desc sd) (E.desc dd) d r [s.ev x] fs = (d < E.N ∧ r.1, [(d, 0, .av r.2)]) := by
          intro r fs
          unfold cvEff
          split
          · rename_i id n he; exact absurd ⟨id, n, by simpa using he⟩ hrow
          · rfl
        rw [e] at h
        simp only [e] at hk
        exact hval d hd h hk
  case call c =>
    obtain ⟨callee, args, ts⟩ := c
    cases hd : o.dst with
    | none =>
      cases callee with
      | builtin b => cases b <;> (rw [ho] at h hk hnon; rw [hd] at h hk; exact hnon hd h hk)
      | _ => rw [ho] at h hk hnon; rw [hd] at h hk; exact hnon hd h hk
    | some d =>
      cases callee with
      | builtin b =>
        cases b
        case append =>
          rw [ho] at h hk
          rw [hd] at h hk
          exact app_sound hE H ho hd (by rw [ho]; exact h) (by rw [ho]; exact hk)
        all_goals
          rw [ho] at h hk hval
          rw [hd] at h hk
          exact hval d hd h hk
      | value x =>
        cases x with
        | func f =>
          cases hcb : chgB E f with
          | false =>
            have h2 : (chgEff E f d ⟨.value (.func f), args, ts⟩ (args.toList.map s.ev) ((needsOf E o.op ((insOf o.op).map s.ev)).map fun r => s.get r.1 r.2) (chgB E f)).1 := by rw [ho] at h ⊢; rw [hd] at h; exact h
            have hk2 : ∀ a' w' g' who', Gam E.N X0 w0 ((chgEff E f d ⟨.value (.func f), args, ts⟩ (args.toList.map s.ev) ((needsOf E o.op ((insOf o.op).map s.ev)).map fun r => s.get r.1 r.2) (chgB E f)).2 ++ s) a' w' g' who' → K a' w' := by rw [ho] at hk ⊢; rw [hd] at hk; exact hk
            rw [hcb] at h2 hk2
            have h2 : (glEff E f d ⟨.value (.func f), args, ts⟩ (args.toList.map s.ev) ((needsOf E o.op ((insOf o.op).map s.ev)).map fun r => s.get r.1 r.2) (glbB E f && !brwB E)).1 := h2
            have hk2 : ∀ a' w' g' who', Gam E.N X0 w0 ((glEff E f d ⟨.value (.func f), args, ts⟩ (args.toList.map s.ev) ((needsOf E o.op ((insOf o.op).map s.ev)).map fun r => s.get r.1 r.2) (glbB E f && !brwB E)).2 ++ s) a' w' g' who' → K a' w' := hk2
            cases hgb : (glbB E f && !brwB E) with
            | false =>
              rw [hgb] at h2 hk2
              rw [ho] at hval h2 hk2
              exact hval d hd h2 hk2
            | true =>
              obtain ⟨hg1, hg2⟩ := Bool.and_eq_true_iff.1 hgb
              have hb2 : brwB E = false := by simpa using hg2
              have hn : needsOf E o.op ((insOf o.op).map s.ev) = [(999999, 1)] := by
                rw [ho]
                simp only [needsOf, hcb, hb2, hg1, glK, cond_false, insOf]
              rw [hgb, hn] at h2 hk2
              exact gl_sound hE H ho hd h2 hk2
          | true =>
            have hn : needsOf E o.op ((insOf o.op).map s.ev) = chgK (args.toList.map s.ev) := by
              rw [ho]
              simp only [needsOf, hcb, cond_true, insOf]
            have h2 : (chgEff E f d ⟨.value (.func f), args, ts⟩ (args.toList.map s.ev) ((needsOf E o.op ((insOf o.op).map s.ev)).map fun r => s.get r.1 r.2) (chgB E f)).1 := by rw [ho] at h ⊢; rw [hd] at h; exact h
            have hk2 : ∀ a' w' g' who', Gam E.N X0 w0 ((chgEff E f d ⟨.value (.func f), args, ts⟩ (args.toList.map s.ev) ((needsOf E o.op ((insOf o.op).map s.ev)).map fun r => s.get r.1 r.2) (chgB E f)).2 ++ s) a' w' g' who' → K a' w' := by rw [ho] at hk ⊢; rw [hd] at hk; exact hk
            rw [hcb, hn] at h2 hk2
            exact chg_sound hE H ho hd h2 hk2
        | _ =>
          rw [ho] at h hk hval
          rw [hd] at h hk
          exact hval d hd h hk
      | _ =>
        rw [ho] at h hk hval
        rw [hd] at h hk
        exact hval d hd h hk
  all_goals
    rw [ho] at h hk hval hnon
    cases hd : o.dst with
    | none => rw [hd] at h hk; exact hnon hd h hk
    | some d => rw [hd] at h hk; exact hval d hd h hk
end
def boolAt (ops : Array Oper) (s : AS) (j : Nat) : Option (Nat × Bool) :=
  match ops[j]? with
  | some o => match o.dst with
    | some t => match s.get t 0 with
      | some (.av (.one (.cel (.bool b)))) => some (t, b)
      | _ => none
    | none => none
  | none => none
def skipOf (o : Oper) : AS :=
  match o.dst with
  | some d => [(d, 0, .av .und)]
  | none => []
/-- where an operation of a region lays its answer -/
def slotAt (ops : Array Oper) (j : Nat) : Option Nat :=
  match ops[j]? with
  | some o => o.dst
  | none => none
/-- is the slot known to hold nothing? -/
def undAt (s : AS) : Option Nat → Bool
  | some t => match s.get t 0 with
    | some (.av .und) => true
    | _ => false
  | none => false
def dstOk (E : Env) (o : Oper) : Prop :=
  match o.dst with
  | some d => d < E.N
  | none => True
/-- one operation of a region, its guard before it -/
def stepA (E : Env) (ops : Array Oper) (o : Oper) (s : AS) (K : AS → Prop) : Prop :=
  match o.guard with
  | none => (actOf E o s).1 ∧ K ((actOf E o s).2 ++ s)
  | some (j, want) => match boolAt ops s j with
    | some (t, b) => (b = want → (actOf E o (s.setv t (.av (.cel (.bool want))))).1 ∧ K ((actOf E o (s.setv t (.av (.cel (.bool want))))).2 ++ (s.setv t (.av (.cel (.bool want)))))) ∧
        (b = !want → dstOk E o ∧ K (skipOf o ++ (s.setv t (.av (.cel (.bool (!want)))))))
    | none => undAt s (slotAt ops j) = true ∧ dstOk E o ∧ K (skipOf o ++ s)
def awpOps (E : Env) (ops : Array Oper) : List Oper → AS → (AS → Prop) → Prop
  | [], s, K => K s
  | o :: r, s, K => stepA E ops o s fun s' => awpOps E ops r s' K
section
variable {P : Program} {E : Env} {X0 : Nat → Nat → Prop} {w0 : World} {s : AS} {a : Act} {w : World} {g : Gh} {who : Nat → Option (Nat × Bool)}
theorem Gam.same {N : Nat} {s' : AS} (H : Gam N X0 w0 s a w g who) (h : ∀ n k r, s'.get n k = some r → s.get n k = some r) : Gam N X0 w0 s' a w g who :=
  ⟨H.defers, H.size, H.below, H.sub, H.sup, H.lt, H.whole, fun n k r hr => H.res n k r (h n k r hr)⟩
theorem Gam.skip (H : Gam E.N X0 w0 s a w g who) {o : Oper} (hd : dstOk E o) : Gam E.N X0 w0 (skipOf o ++ s) (a.put o.dst undef) w g who := by
  unfold skipOf
  unfold dstOk at hd
  cases h : o.dst with
  | none => exact H
  | some d =>
    rw [h] at hd
    exact H.put hd (Below.refl _ _) (fun av e => by cases e; rfl) (.inl ⟨_, rfl⟩)
theorem boolAt_yielded {N : Nat} {ops : Array Oper} {j t : Nat} {b : Bool} (H : Gam N X0 w0 s a w g who) (h : boolAt ops s j = some (t, b)) :
    yielded ops a.tmps j = some b ∧ s.get t 0 = some (.av (.one (.cel (.bool b)))) := by
  unfold boolAt at h
  split at h
  · rename_i o ho
    split at h
    · rename_i t' hd
      split at h
      · rename_i b' hg
        cases h
        obtain ⟨_, h2, h3⟩ := H.res _ _ _ hg
        have e : a.tmps.getD t undef = .bool b := h3
        refine ⟨?_, hg⟩
        rw [Array.getD_eq_getD_getElem?, Array.getElem?_eq_getElem h2] at e
        simp [yielded, ho, hd, Array.getElem?_eq_getElem h2, show a.tmps[t] = Value.bool b from e]
      · cases h
    · cases h
  · cases h
theorem und_yielded {N : Nat} {ops : Array Oper} {j : Nat} (H : Gam N X0 w0 s a w g who) (h : undAt s (slotAt ops j) = true) : yielded ops a.tmps j = none := by
  unfold undAt slotAt at h
  split at h
  · rename_i t ht
    split at ht
    · rename_i o ho
      split at h
      · rename_i hg
        obtain ⟨_, h2, h3⟩ := H.res _ _ _ hg
        have e : a.tmps.getD t undef = undef := h3
        rw [Array.getD_eq_getD_getElem?, Array.getElem?_eq_getElem h2] at e
        simp [yielded, ho, ht, Array.getElem?_eq_getElem h2, show a.tmps[t] = undef from e, undef]
      · cases h
    · cases ht
  · cases h
theorem stepA_sound (hE : EnvOk P E) {ops : Array Oper} {o : Oper} {KA : AS → Prop} (H : Gam E.N X0 w0 s a w g who) (h : stepA E ops o s KA) (Q : Exit → Act → World → Prop) (K : Act → World → Prop)
    (hk : ∀ s' a' w' g' who', KA s' → Gam E.N X0 w0 s' a' w' g' who' → K a' w') :
    if Region.wanted o (yielded ops a.tmps) then o.wp P a w K Q else K (a.put o.dst undef) w := by
  unfold stepA at h
  split at h
  · rename_i hg
    rw [if_pos (by simp [Region.wanted, hg])]
    exact act_sound hE H o h.1 Q K fun a' w' g' who' H' => hk _ _ _ _ _ h.2 H'
  · rename_i j want hg
    split at h
    · rename_i t b hb
      obtain ⟨hy, hget⟩ := boolAt_yielded H hb
      by_cases hbw : b = want
      · subst hbw
        rw [if_pos (by simp [Region.wanted, hg, hy])]
        have hh := h.1 rfl
        rw [AS.setv_eq hget] at hh
        exact act_sound hE H o hh.1 Q K fun a' w' g' who' H'' => hk _ _ _ _ _ hh.2 H''
      · have hbn : b = !want := by cases b <;> cases want <;> simp_all
        subst hbn
        rw [if_neg (by simp [Region.wanted, hg, hy])]
        obtain ⟨hd, hK⟩ := h.2 rfl
        rw [AS.setv_eq hget] at hK
        exact hk _ _ _ _ _ hK (H.skip hd)
    · obtain ⟨hu, hd, hK⟩ := h
      rw [if_neg (by simp [Region.wanted, hg, und_yielded H hu])]
      exact hk _ _ _ _ _ hK (H.skip hd)
theorem awpOps_sound (hE : EnvOk P E) {ops : Array Oper} {KA : AS → Prop} {Q : Exit → Act → World → Prop} : ∀ (l : List Oper) {s : AS} {a : Act} {w : World} {g : Gh} {who : Nat → Option (Nat × Bool)}, Gam E.N X0 w0 s a w g who → awpOps E ops l s KA →
    (∀ s' a' w' g' who', KA s' → Gam E.N X0 w0 s' a' w' g' who' → Q .normal a' w') → wpList P ops Q l a w
  | [], _, _, _, _, _, H, h, hk => hk _ _ _ _ _ h H
  | _ :: l, _, _, _, _, _, H, h, hk =>
    wpList_step fun K hK => stepA_sound hE H h Q K fun _ _ _ _ _ hs H' => hK _ _ (awpOps_sound hE l H' hs hk)
end
end Go.Proofs.YtocpmekblkfdiaaGreatDoor
