/- The abstract walk, third part: the values that operations make are as the abstract state says. No condition. -/
import Derived.Test.YtdojdghhbjjoeaaAb
namespace Go.Proofs.Ytdojdghhbjjoeaa
open Go.RowKit

/-- what a resource's knowledge says (B: the heap's size when the activation began) -/
def RV.H (B : Nat) (g : Gh) (who : Nat → Option (Nat × Bool)) (a : Act) (w : World) (n k : Nat) : RV → Prop
  | .av v => k = 0 ∧ n < a.tmps.size ∧ v.G g w (a.tmps.getD n undef)
  | .cv c => 0 < k ∧ B ≤ g.σ n ∧ g.σ n < w.heap.size ∧ who (g.σ n) = some (n, false) ∧ g.X (g.σ n) (k - 1) ∧ w.frozen? ⟨g.σ n, k - 1, none⟩ = false ∧ ∃ v, w.cell? ⟨g.σ n, k - 1, none⟩ = some v ∧ c.G g w v
  | .row c => k = 1 ∧ c.ok ∧ c.len ≤ g.κ n ∧
      (0 < g.κ n → B ≤ g.σ n ∧ g.σ n < w.heap.size ∧ who (g.σ n) = some (n, true) ∧ ∀ j, j < g.κ n * c.t → g.X (g.σ n) j ∧ w.frozen? ⟨g.σ n, j, none⟩ = false ∧ (w.cell? ⟨g.σ n, j, none⟩).isSome = true) ∧
      ∀ j x, c.flat[j]? = some x → ∃ v, w.cell? ⟨g.σ n, j, none⟩ = some v ∧ x.P g.X w v
  | .off => True

/-- the state s says of the activation a in the world w (N slots, outer cells X0, begun in w0) -/
structure Gam (N : Nat) (X0 : Nat → Nat → Prop) (w0 : World) (s : AS) (a : Act) (w : World) (g : Gh) (who : Nat → Option (Nat × Bool)) : Prop where
  defers : a.defers = []
  size : a.tmps.size = N
  below : Below w0.heap.size w0 w
  sub : ∀ b o, X0 b o → g.X b o ∧ b < w0.heap.size
  sup : ∀ b o, g.X b o → X0 b o ∨ w0.heap.size ≤ b
  lt : ∀ b o, g.X b o → b < w.heap.size
  res : ∀ n k rv, s.get n k = some rv → rv.H w0.heap.size g who a w n k

section
variable {P : Program} {E : Env} {N : Nat} {X0 : Nat → Nat → Prop} {w0 : World} {s : AS} {a : Act} {w : World} {g : Gh} {who : Nat → Option (Nat × Bool)}

theorem constCV_G {v : Value} {c : CV} (h : constCV v = some c) : c.G g w v := by
  unfold constCV at h
  split at h
  · cases h; rfl
  · cases h; rfl
  · cases h; rfl
  · cases h

theorem Gam.ev (H : Gam N X0 w0 s a w g who) (x : Operand) : (s.ev x).G g w (a.eval x) := by
  cases x with
  | tmp t =>
    simp only [AS.ev, Act.eval]
    split
    · rename_i v hv; exact (H.res _ _ _ hv).2.2
    · trivial
  | const v =>
    simp only [AS.ev, Act.eval]
    split
    · rename_i c hc; exact constCV_G hc
    · trivial
  | _ => trivial

theorem Gam.ins (H : Gam N X0 w0 s a w g who) (l : List Operand) : All2 (fun c v => AV.G g w c v) (l.map s.ev) (l.map a.eval) := by
  induction l with
  | nil => exact .nil
  | cons x l ih => exact .cons (H.ev x) ih

theorem All2.one {α β : Type} {R : α → β → Prop} {l : List β} {x : α} (h : All2 R [x] l) : ∃ y, l = [y] ∧ R x y := by
  cases h with | cons h t => cases t; exact ⟨_, rfl, h⟩
theorem All2.two {α β : Type} {R : α → β → Prop} {l : List β} {x y : α} (h : All2 R [x, y] l) : ∃ u v, l = [u, v] ∧ R x u ∧ R y v := by
  cases h with | cons h t => obtain ⟨v, rfl, hv⟩ := t.one; exact ⟨_, _, rfl, h, hv⟩
theorem All2.three {α β : Type} {R : α → β → Prop} {l : List β} {x y z : α} (h : All2 R [x, y, z] l) : ∃ u v q, l = [u, v, q] ∧ R x u ∧ R y v ∧ R z q := by
  cases h with | cons h t => obtain ⟨v, q, rfl, hv, hq⟩ := t.two; exact ⟨_, _, _, rfl, h, hv, hq⟩
theorem All2.len {α β : Type} {R : α → β → Prop} {l : List α} {m : List β} (h : All2 R l m) : l.length = m.length := by
  induction h with
  | nil => rfl
  | cons _ _ ih => simp [ih]
theorem All2.imp {α β : Type} {R S : α → β → Prop} {l : List α} {m : List β} (h : All2 R l m) (k : ∀ a b, R a b → S a b) : All2 S l m := by
  induction h with
  | nil => exact .nil
  | cons h _ ih => exact .cons (k _ _ h) ih
theorem All2.map_left {α β γ : Type} {R : α → β → Prop} {f : γ → α} {l : List γ} {m : List β} : All2 R (l.map f) m ↔ All2 (fun c b => R (f c) b) l m := by
  constructor
  · intro h
    induction l generalizing m with
    | nil => cases h; exact .nil
    | cons x l ih => cases h with | cons h t => exact .cons h (ih t)
  · intro h
    induction h with
    | nil => exact .nil
    | cons h _ ih => exact .cons h ih
theorem All2.get {α β : Type} {R : α → β → Prop} {l : List α} {m : List β} (h : All2 R l m) {i : Nat} {x : α} (hx : l[i]? = some x) : ∃ y, m[i]? = some y ∧ R x y := by
  induction h generalizing i with
  | nil => simp at hx
  | cons h _ ih =>
    cases i with
    | zero => simp at hx; subst hx; exact ⟨_, rfl, h⟩
    | succ i => simpa using ih (by simpa using hx)
theorem All2.take {α β : Type} {R : α → β → Prop} {l : List α} {m : List β} (h : All2 R l m) (n : Nat) : All2 R (l.take n) (m.take n) := by
  induction h generalizing n with
  | nil => simp; exact .nil
  | cons h _ ih => cases n with
    | zero => exact .nil
    | succ n => exact .cons h (ih n)
theorem All2.drop {α β : Type} {R : α → β → Prop} {l : List α} {m : List β} (h : All2 R l m) (n : Nat) : All2 R (l.drop n) (m.drop n) := by
  induction h generalizing n with
  | nil => simp; exact .nil
  | cons h t ih => cases n with
    | zero => exact .cons h t
    | succ n => exact ih n


theorem wp_value {o : Oper} {K : Act → World → Prop} {Q : Exit → Act → World → Prop} {v : Value} (h : (execOp a.eval o).run P w = .ok (.value v) w) (hk : K (a.put o.dst v) w) : o.wp P a w K Q := by
  unfold Oper.wp
  rw [h]
  exact hk

/-- an operation's answer: a value in a world that has not lost what it held -/
def Gives (P : Program) (a : Act) (w : World) (o : Oper) (R : Value → World → Prop) : Prop :=
  ∀ (K : Act → World → Prop) (Q : Exit → Act → World → Prop), (∀ v w', Below w.heap.size w w' → R v w' → K (a.put o.dst v) w') → o.wp P a w K Q

theorem gives_value {o : Oper} {R : Value → World → Prop} {v : Value} (h : (execOp a.eval o).run P w = .ok (.value v) w) (hr : R v w) : Gives P a w o R :=
  fun _ _ hk => wp_value h (hk v w (Below.refl _ _) hr)

theorem pick_G {x : Bool} {p q : AV} {u v : Value} (hp : p.G g w u) (hq : q.G g w v) : (pickAV x p q).G g w (if x then u else v) := by
  unfold pickAV
  split
  · have e1 : u = .bool _ := hp
    have e2 : v = .bool _ := hq
    subst e1 e2
    cases x <;> rfl
  · exact hp
  · exact hq

theorem no_not {p : Prop} (h : no.1) : p := h.elim

/-- cells of a row that are as their knowledge says -/
theorem cells_G {n : Nat} : ∀ (id off i : Nat) (cs : List CV), (∀ m k rv, s.get m k = some rv → rv.H w0.heap.size g who a w m k) → cvs ((keysFrom id (off + i + 1) n).map fun r => s.get r.1 r.2) = some cs →
    ∃ vs, All2 (fun c v => CV.G g w c v) cs vs ∧ vs.length = n ∧ ∀ j v, vs[j]? = some v → w.cell? ⟨g.σ id, off + i + j, none⟩ = some v := by
  induction n with
  | zero =>
    intro id off i cs _ h
    simp only [keysFrom, List.map_nil, cvs, Option.some.injEq] at h
    subst h
    exact ⟨[], .nil, rfl, by simp⟩
  | succ n ih =>
    intro id off i cs hr h
    simp only [keysFrom, List.map_cons] at h
    cases hg : s.get id (off + i + 1) with
    | none => rw [hg] at h; simp [cvs] at h
    | some rv =>
      rw [hg] at h
      cases rv with
      | av x => simp [cvs] at h
      | row x => simp [cvs] at h
      | off => simp [cvs] at h
      | cv c =>
        simp only [cvs] at h
        split at h
        · rename_i cs' hcs
          cases h
          obtain ⟨vs, h1, h2, h3⟩ := ih id off (i + 1) cs' hr (by rw [show off + (i + 1) + 1 = off + i + 1 + 1 by omega]; exact hcs)
          obtain ⟨_, _, _, _, _, _, v, hv, hG⟩ := hr _ _ _ hg
          refine ⟨v :: vs, .cons hG h1, by simp [h2], ?_⟩
          intro j u hu
          cases j with
          | zero => simp at hu; subst hu; simpa using hv
          | succ j => rw [show off + i + (j + 1) = off + (i + 1) + j by omega]; exact h3 j u (by simpa using hu)
        · cases h

theorem cellsP_list {X : Nat → Nat → Prop} : ∀ (cs : List CV) (b off : Nat), cellsP X w b off cs → ∃ vs, All2 (fun c v => CV.P X w c v) cs vs ∧ ∀ j v, vs[j]? = some v → w.cell? ⟨b, off + j, none⟩ = some v
  | [], _, _, _ => ⟨[], .nil, by simp⟩
  | c :: cs, b, off, h => by
    simp only [cellsP] at h
    obtain ⟨⟨v, hv, hp⟩, ht⟩ := h
    obtain ⟨vs, h1, h2⟩ := cellsP_list cs b (off + 1) ht
    refine ⟨v :: vs, .cons hp h1, ?_⟩
    intro j u hu
    cases j with
    | zero => simp at hu; subst hu; exact hv.2.2
    | succ j => rw [show off + (j + 1) = off + 1 + j by omega]; exact h2 j u (by simpa using hu)

theorem cellsP_drop {X : Nat → Nat → Prop} : ∀ (n : Nat) (cs : List CV) (b off : Nat), n ≤ cs.length → cellsP X w b off cs → cellsP X w b (off + n) (cs.drop n)
  | 0, cs, b, off, _, h => by simpa using h
  | n + 1, [], b, off, hn, _ => by simp at hn
  | n + 1, c :: cs, b, off, hn, h => by
    simp only [cellsP] at h
    have := cellsP_drop n cs b (off + 1) (by simpa using hn) h.2
    rw [show off + (n + 1) = off + 1 + n by omega]
    simpa using this

theorem rowsP_get {X : Nat → Nat → Prop} {t : Nat} : ∀ (i : Nat) (rows : List (List CV)) (b off : Nat), i < rows.length → rowsP X w b off t rows → cellsP X w b (off + i * t) (rows.getD i [])
  | 0, [], b, off, hi, _ => by simp at hi
  | 0, r :: rs, b, off, _, h => by simp only [rowsP] at h; simpa using h.2.1
  | i + 1, [], b, off, hi, _ => by simp at hi
  | i + 1, r :: rs, b, off, hi, h => by
    simp only [rowsP] at h
    have := rowsP_get i rs b (off + t) (by simpa using hi) h.2.2
    rw [show off + (i + 1) * t = off + t + i * t by rw [Nat.succ_mul]; omega]
    simpa using this

theorem ofCells_G {agg : Bool} {cs : List CV} {vs : List Value} (h : All2 (fun c v => CV.G g w c v) cs vs) :
    (agg = true → (ofCells agg cs).G g w (.agg vs.toArray)) ∧ (agg = false → ∀ v, vs = [v] → (ofCells agg cs).G g w v) := by
  constructor
  · rintro rfl; exact ⟨vs, rfl, h⟩
  · rintro rfl v rfl
    cases h with | cons h t => cases t; exact h

theorem load_run {t : Nat} {ti : TI} (ht : TIOk P t ti) {b o : Nat} {vs : List Value} (hl : vs.length = ti.size) (hc : ∀ j v, vs[j]? = some v → w.cell? ⟨b, o + j, none⟩ = some v) :
    (ti.agg = true → (loadVar t ⟨b, o, none⟩).run P w = .ok (.agg vs.toArray) w) ∧ (ti.agg = false → ∃ v, vs = [v] ∧ (loadVar t ⟨b, o, none⟩).run P w = .ok v w) := by
  constructor
  · intro h
    have := run_loadCells_list (P := P) w ⟨b, o, none⟩ vs (fun k v hk => by rw [Addr.add_lit]; exact hc k v hk)
    simp [loadVar, ht.agg, h, ht.size, ← hl, this, Result.andThen]
  · intro h
    have h1 := ht.one h
    rw [h1] at hl
    obtain ⟨v, rfl⟩ := List.length_eq_one_iff.1 hl
    have hv := hc 0 v rfl
    refine ⟨v, rfl, ?_⟩
    simp only [Nat.add_zero] at hv
    simp [loadVar, ht.agg, h, hv, Result.andThen]

theorem allLen_flat {t : Nat} : ∀ (rows : List (List CV)) (i j : Nat) (x : CV), allLen t rows → i < rows.length → (rows.getD i [])[j]? = some x → rows.flatten[i * t + j]? = some x
  | [], i, j, x, _, hi, _ => by simp at hi
  | r :: rs, 0, j, x, h, _, hx => by
    simp only [List.getD_cons_zero] at hx
    have hj := (List.getElem?_eq_some_iff.1 hx).1
    rw [List.flatten_cons, Nat.zero_mul, Nat.zero_add, List.getElem?_append_left hj]; exact hx
  | r :: rs, i + 1, j, x, h, hi, hx => by
    simp only [allLen] at h
    rw [List.flatten_cons, Nat.succ_mul, show i * t + t + j = t + (i * t + j) by omega, List.getElem?_append_right (by omega), h.1, Nat.add_sub_cancel_left]
    exact allLen_flat rs i j x h.2 (by simpa using hi) (by simpa using hx)

theorem allLen_getD {t : Nat} : ∀ (rows : List (List CV)) (i : Nat), allLen t rows → i < rows.length → (rows.getD i []).length = t
  | [], i, _, hi => by simp at hi
  | r :: rs, 0, h, _ => h.1
  | r :: rs, i + 1, h, hi => by simpa using allLen_getD rs i h.2 (by simpa using hi)

theorem allLen_flatten {t : Nat} : ∀ (rows : List (List CV)), allLen t rows → rows.flatten.length = rows.length * t
  | [], _ => by simp
  | r :: rs, h => by rw [List.flatten_cons, List.length_append, h.1, allLen_flatten rs h.2, List.length_cons, Nat.succ_mul]; omega

theorem RC.at_flat {c : RC} (h : c.ok) {i j : Nat} {x : CV} (hi : i < c.len) (hx : (c.at i)[j]? = some x) : c.flat[i * c.t + j]? = some x := by
  cases c with
  | u32 xs =>
    have hi : i < xs.length := hi
    simp only [RC.at] at hx
    cases j with
    | zero => simp only [List.getElem?_cons_zero, Option.some.injEq] at hx; subst hx; simp [RC.flat, RC.t, List.getElem?_eq_getElem hi, List.getD_eq_getElem?_getD]
    | succ j => simp at hx
  | gen t rows => exact allLen_flat rows i j x h.2 hi hx

theorem RC.at_len {c : RC} (h : c.ok) {i : Nat} (hi : i < c.len) : (c.at i).length = c.t := by
  cases c with
  | u32 xs => rfl
  | gen t rows => exact allLen_getD rows i h.2 hi

theorem RC.flat_len {c : RC} (h : c.ok) : c.flat.length = c.len * c.t := by
  cases c with
  | u32 xs => simp [RC.flat, RC.len, RC.t]
  | gen t rows => exact allLen_flatten rows h.2

theorem RC.t_pos {c : RC} (h : c.ok) : 0 < c.t := by
  cases c with
  | u32 xs => exact Nat.one_pos
  | gen t rows => exact h.1

theorem all2_of_get {α β : Type} {R : α → β → Prop} : ∀ (l : List α) (f : Nat → Option β), (∀ j x, l[j]? = some x → ∃ v, f j = some v ∧ R x v) → ∃ vs : List β, All2 R l vs ∧ ∀ j v, vs[j]? = some v → f j = some v
  | [], _, _ => ⟨[], .nil, by simp⟩
  | x :: l, f, h => by
    obtain ⟨v, hv, hr⟩ := h 0 x rfl
    obtain ⟨vs, h1, h2⟩ := all2_of_get l (fun j => f (j + 1)) (fun j y hy => h (j + 1) y (by simpa using hy))
    refine ⟨v :: vs, .cons hr h1, fun j u hu => ?_⟩
    cases j with
    | zero => simp at hu; subst hu; exact hv
    | succ j => exact h2 j u (by simpa using hu)

theorem load_sound (hE : EnvOk P E) (H : Gam N X0 w0 s a w g who) {o : Oper} {t : Nat} {x : Operand} (ho : o.op = .load t x)
    (h : (loadAV (E.tt t) [s.ev x] ((needsOf E o.op [s.ev x]).map fun r => s.get r.1 r.2)).1) :
    Gives P a w o (fun v w' => (loadAV (E.tt t) [s.ev x] ((needsOf E o.op [s.ev x]).map fun r => s.get r.1 r.2)).2.G g w' v) := by
  have hx := H.ev x
  generalize s.ev x = av at *
  rw [ho] at h ⊢
  unfold loadAV at h ⊢
  split at h
  · rename_i ti id off ht hi
    cases hi
    have hti := hE.tt _ _ ht
    simp only [needsOf] at h ⊢
    have e1 : E.sz t = ti.size := by simp [Env.sz, ht]
    rw [e1] at h ⊢
    cases hc : cvs ((keysFrom id (off + 1) ti.size).map fun r => s.get r.1 r.2) with
    | none => rw [hc] at h; exact h.elim
    | some cs =>
      obtain ⟨vs, h1, h2, h3⟩ := cells_G id off 0 cs H.res (by simpa using hc)
      simp only [Nat.add_zero] at h3
      have hp : a.eval x = .pointer (some ⟨g.σ id, off, none⟩) := hx
      obtain ⟨la, lb⟩ := load_run (P := P) hti h2 h3
      obtain ⟨ga, gb⟩ := ofCells_G (g := g) (w := w) (agg := ti.agg) h1
      cases hag : ti.agg with
      | true => exact gives_value (v := .agg vs.toArray) (by simp [execOp, ho, Instr.loadAt, Instr.sureAddr, hp, la hag]) (by rw [hag] at ga; exact ga rfl)
      | false =>
        obtain ⟨v, hv, hl⟩ := lb hag
        exact gives_value (v := v) (by simp [execOp, ho, Instr.loadAt, Instr.sureAddr, hp, hl]) (by rw [hag] at gb; exact gb rfl v hv)
  · rename_i ti cs ht hi
    cases hi
    have hti := hE.tt _ _ ht
    simp only
    obtain ⟨b, off, hp, hcs⟩ := (show ∃ b off, a.eval x = .pointer (some ⟨b, off, none⟩) ∧ cellsP g.X w b off cs from by simpa only [AV.G, A1.G, CV.G, CV.P] using hx)
    obtain ⟨vs, h1, h3⟩ := cellsP_list cs b off hcs
    have hle : ti.size ≤ cs.length := h
    have h2 : (vs.take ti.size).length = ti.size := by rw [List.length_take, ← h1.len]; omega
    have h3' : ∀ j v, (vs.take ti.size)[j]? = some v → w.cell? ⟨b, off + j, none⟩ = some v := fun j v hj => h3 j v (by rw [List.getElem?_take] at hj; split at hj <;> simp_all)
    have h1' : All2 (fun c v => CV.G g w c v) ((cs.take ti.size).map CV.strip) (vs.take ti.size) := All2.map_left.2 ((h1.take _).imp fun c v hp => hp.stripped.toG (CV.strip_strip c))
    obtain ⟨la, lb⟩ := load_run (P := P) hti h2 h3'
    obtain ⟨ga, gb⟩ := ofCells_G (g := g) (w := w) (agg := ti.agg) h1'
    cases hag : ti.agg with
    | true => exact gives_value (v := .agg (vs.take ti.size).toArray) (by simp [execOp, ho, Instr.loadAt, Instr.sureAddr, hp, la hag]) (by rw [hag] at ga; exact ga rfl)
    | false =>
      obtain ⟨v, hv, hl⟩ := lb hag
      exact gives_value (v := v) (by simp [execOp, ho, Instr.loadAt, Instr.sureAddr, hp, hl]) (by rw [hag] at gb; exact gb rfl v hv)
  · rename_i ti id t' i ht hi
    cases hi
    have hti := hE.tt _ _ ht
    simp only [needsOf, List.map_cons, List.map_nil] at h ⊢
    split at h
    · rename_i c hc
      obtain ⟨e1, e2, hi⟩ := h
      have hc' : s.get id 1 = some (.row c) := by simpa using hc
      obtain ⟨_, hok, hle, hown, hcell⟩ := H.res _ _ _ hc'
      obtain ⟨vs, h1, h2⟩ := all2_of_get (c.at i) (fun j => w.cell? ⟨g.σ id, i * c.t + j, none⟩) (fun j x hx => hcell _ x (RC.at_flat hok hi hx))
      have hp : a.eval x = .pointer (some ⟨g.σ id, i * t', none⟩) := hx
      rw [e1] at hp
      have hl : vs.length = ti.size := by rw [← h1.len, RC.at_len hok hi, e2]
      have h1' : All2 (fun c v => CV.G g w c v) ((c.at i).map CV.strip) vs := All2.map_left.2 (h1.imp fun c v hp => hp.stripped.toG (CV.strip_strip c))
      obtain ⟨la, lb⟩ := load_run (P := P) hti hl h2
      obtain ⟨ga, gb⟩ := ofCells_G (g := g) (w := w) (agg := ti.agg) h1'
      cases hag : ti.agg with
      | true => exact gives_value (v := .agg vs.toArray) (by simp [execOp, ho, Instr.loadAt, Instr.sureAddr, hp, la hag]) (by rw [hag] at ga; exact ga rfl)
      | false =>
        obtain ⟨v, hv, hl⟩ := lb hag
        exact gives_value (v := v) (by simp [execOp, ho, Instr.loadAt, Instr.sureAddr, hp, hl]) (by rw [hag] at gb; exact gb rfl v hv)
    · exact h.elim
  · exact h.elim

end
end Go.Proofs.Ytdojdghhbjjoeaa
