/- The evaluator, sixth part: operations that look at blocks, or lay or change them, append and calls aside. No condition. The evaluator, seventh part: operations that lay or change blocks, append and calls aside. No condition. The evaluator, eighth part: append. No condition. The evaluator, ninth part: operations that lay or change blocks, whole; a round of code's steps without calls. No condition. The evaluator, tenth part: slots, guards, results; one operation of a region; regions in the text's order. No condition. -/
import Derived.Test.YtocpmekblkfdiaaGreatDoorVa
import Derived.Laws.BytesString
import Derived.Lib.OthersKept
import Derived.Laws.MakeOwn
import Derived.Deep.AppendSrc
import Derived.RangeFuncLeaves
import Derived.RangeFuncRecord
import Derived.OrdersIn
namespace Go.Proofs.YtocpmekblkfdiaaGreatDoor
open Go.RowKit
set_option linter.unusedSimpArgs false
section
variable {P : Program} {E : XE} {X : Nat → Nat → Prop} {K : Nat → Bool} {g : Gx} {a : Act} {w w' w0 : World} {ro : Option Nat} {h : XH}
theorem cell_of {b o : Nat} {c : Array Value} {e : Nat} {fr : Nat × Nat} (hw : w.heap[b]? = some (.cells c e fr)) : w.cell? ⟨b, o, none⟩ = c[o]? := by simp [World.cell?, hw]
theorem frozen_of {b o : Nat} {c : Array Value} {e : Nat} {fr : Nat × Nat} (hw : w.heap[b]? = some (.cells c e fr)) (hf : fr.2 ≤ fr.1) : w.frozen? ⟨b, o, none⟩ = false := by
  obtain ⟨lo, hi⟩ := fr
  simp only [World.frozen?, hw, Bool.and_eq_false_iff, decide_eq_false_iff_not]
  simp only at hf
  omega
theorem drop_take_get {α : Type} {l : List α} {o n j : Nat} {v : α} (h : ((l.drop o).take n)[j]? = some v) : l[o + j]? = some v := by
  rw [List.getElem?_take] at h
  split at h
  · rwa [List.getElem?_drop] at h
  · cases h
theorem load_x {ti : XT} {t : Nat} (ht : XTOk P t ti) {b off : Nat} {cs : List XV} {vs : List Value} {r : XV} (h : All2 (fun x v => XV.R X K g w x v) cs vs) (hl : vs.length = ti.size) (hc : ∀ (j : Nat) (v : Value), vs[j]? = some v → w.cell? ⟨b, off + j, none⟩ = some v) (hr : ofC ti.agg cs = some r) :
    ∃ v, (loadVar t ⟨b, off, none⟩).run P w = .ok v w ∧ XV.R X K g w r v := by
  obtain ⟨ga, gb⟩ := ofC_R h hr
  cases hag : ti.agg with
  | true =>
    have := run_loadCells_list (P := P) w ⟨b, off, none⟩ vs (fun k v hk => by rw [Addr.add_lit]; exact hc k v hk)
    exact ⟨.agg vs.toArray, by simp [loadVar, ht.agg, hag, ht.size, ← hl, this, Result.andThen], ga hag⟩
  | false =>
    obtain ⟨v, rfl, hR⟩ := gb hag
    have hv := hc 0 v rfl
    simp only [Nat.add_zero] at hv
    exact ⟨v, by simp [loadVar, ht.agg, hag, hv, Result.andThen], hR⟩
theorem take_all2 {cs r : List XV} {vs : List Value} {o n : Nat} (h : All2 (fun x v => XV.R X K g w x v) cs vs) (ht : takeX cs o n = some r) :
    All2 (fun x v => XV.R X K g w x v) r ((vs.drop o).take n) ∧ ((vs.drop o).take n).length = n := by
  obtain ⟨rfl, hle⟩ := takeX_eq _ _ _ _ ht
  refine ⟨(h.drop o).take n, ?_⟩
  have := h.len
  simp
  omega
theorem strOf_vals : ∀ (r : List XV) (vs : List Value) (l : List Nat), All2 (fun x v => XV.R X K g w x v) r vs → strOf r = some l → vs = l.map (fun x : Nat => Value.int .u8 (x : Int)) ∧ ∀ x ∈ l, x < 256
  | [], vs, l, h, hs => by
    cases h
    simp only [strOf, Option.some.injEq] at hs
    subst hs
    exact ⟨rfl, by simp⟩
  | x :: r, vs, l, h, hs => by
    cases h with
    | cons h1 h2 =>
      unfold strOf at hs
      split at hs
      · rename_i heq; cases heq
      · rename_i n r' heq
        cases heq
        split at hs
        · rename_i l' hl'
          obtain ⟨hb, hs⟩ := bif_some hs
          cases hs
          obtain ⟨e1, e2⟩ := strOf_vals _ _ _ h2 hl'
          rw [e1, xint h1]
          exact ⟨rfl, fun x hx => by rcases List.mem_cons.1 hx with rfl | hx; exact nblt hb; exact e2 x hx⟩
        · cases hs
      · cases hs
theorem opR_sound (hE : XEOk P E g.μ) (H : HR w0 h g w) {o : Oper} {ins : List XV} {r : XV} (hi : All2 (fun x v => XV.R (ownX h g) h.K g w x v) ins ((insX o.op).map a.eval)) (hr : opR E o.op ins h = some r) :
    GiX P ro a w o (PR (ownX h g) h.K g w r) := by
  unfold opR at hr
  split at hr
  case h_1 t x id off ho =>
    rw [ho] at hi
    split at hr
    · rename_i ti e tt cs hti hg
      split at hr
      · rename_i r' hr'
        obtain ⟨c, fr, vs, h1, h2, h3, h4, h5, h6, h7, h8⟩ := H.blk _ _ hg
        obtain ⟨k1, k2⟩ := take_all2 h5 hr'
        have hins : ∃ v, [a.eval x] = [v] ∧ XV.R (ownX h g) h.K g w (.p id off) v := by
          cases x with
          | global gl => exact absurd hi.len (by simp [insX])
          | _ =>
            obtain ⟨v, hv, hR⟩ := hi.one
            exact ⟨v, hv, hR⟩
        obtain ⟨v, hv, hR⟩ := hins
        cases hv
        obtain ⟨_, e1⟩ := xptr hR
        obtain ⟨z, q1, q2⟩ := load_x (P := P) (hE.tt _ _ hti) (b := g.σ id) (off := off) k1 k2 (fun j v hv => by rw [cell_of h1]; exact h6 _ _ (drop_take_get hv)) hr
        exact gi_pure (by simp [ho]) (v := z) (by simp [execOp, ho, e1, Instr.loadAt, Instr.sureAddr, q1, Result.andThen]) q2
      · cases hr
    · cases hr
  case h_2 s d x id off ho =>
    rw [ho] at hi
    obtain ⟨v, hv, hR⟩ := hi.one
    cases hv
    obtain ⟨hk, e1⟩ := xptr hR
    split at hr
    · rename_i t e tt cs hd1 hd2 hg
      obtain ⟨hb, hr⟩ := bif_some hr
      cases hr
      obtain ⟨hb1, hb2⟩ := and_true hb
      have hlt := nblt hb1
      have hne := nbeqf (by simpa using hb2)
      obtain ⟨c, fr, vs, h1, h2, h3, h4, h5, h6, h7, h8⟩ := H.blk _ _ hg
      have hu1 := XE.und hE hd1 (by simp) w
      have hu2 := XE.und hE hd2 (by simp) w
      have hsz := XE.size hE hne w
      have hsh : w.shape? (g.σ id) = some (e, c.size) := by simp [World.shape?, h1]
      refine gi_pure (by simp [ho]) (v := .pointer (some ⟨g.σ id, off, none⟩)) ?_ (rptr hk)
      have hlt2 : ¬ c.size ≤ off := by omega
      simp [execOp, ho, e1, convert, hu1, hu2, Result.andThen, Conv.unsafePointer, Conv.seenAt, viewAt, hsh, cellsIn, hsz, hne, hlt2]
    · rename_i u e cs hd1 hd2 hg
      obtain ⟨hb, hr⟩ := bif_some hr
      cases hr
      obtain ⟨hb, hb5⟩ := and_true hb
      obtain ⟨hb, hb4⟩ := and_true hb
      obtain ⟨hb, hb3⟩ := and_true hb
      obtain ⟨hb1, hb2⟩ := and_true hb
      have e2 := nbeq hb1
      have e3 := nbeq hb2
      have e4 := nbeq hb4
      subst e2 e3
      have hne := nbeqf (by simpa using hb3)
      obtain ⟨c, fr, vs, h1, h2, h3, h4, h5, h6, h7, h8⟩ := H.blk _ _ hg
      have hu1 := XE.und hE hd1 (by simp) w
      have hu2 := XE.und hE hd2 (by simp) w
      have hsz := XE.size hE hne w
      have hcs : c.size = E.sz e := by rw [h8 rfl, e4]
      have hsh : w.shape? (g.σ id) = some (e, c.size) := by simp [World.shape?, h1]
      have hvis := hE.vis _ hb5
      rw [← hcs] at hvis
      refine gi_pure (by simp [ho]) (v := .pointer (some ⟨g.σ id, 0, none⟩)) ?_ (rptr hk)
      simp [execOp, ho, e1, convert, hu1, hu2, Result.andThen, Conv.unsafePointer, Conv.seenAt, viewAt, hsh, hsz, hne, variablesAt, hvis]
    · cases hr
  case h_3 s d x id t i len ho =>
    rw [ho] at hi
    obtain ⟨v, hv, hR⟩ := hi.one
    cases hv
    obtain ⟨hk, hle, e1⟩ := xsl hR
    split at hr
    · rename_i e e' tt cs hd1 hd2 hg
      split at hr
      · rename_i hd3
        obtain ⟨hb, hr⟩ := bif_some hr
        have et := nbeq hb
        subst et
        split at hr
        · rename_i r' hr'
          split at hr
          · rename_i l hl
            cases hr
            obtain ⟨c, fr, vs, h1, h2, h3, h4, h5, h6, h7, h8⟩ := H.blk _ _ hg
            obtain ⟨k1, k2⟩ := take_all2 h5 hr'
            obtain ⟨hvs, hlt⟩ := strOf_vals _ _ _ k1 hl
            have hu1 := XE.und hE hd1 (by simp) w
            have hu2 := XE.und hE hd2 (by simp) w
            have hu3 := XE.und hE hd3 (by simp) w
            have hload := run_loadCells_list (P := P) w ⟨g.σ id, i * 1, none⟩ ((vs.drop i).take len) (fun k v hk => by rw [Addr.add_lit, cell_of h1, Nat.mul_one]; exact h6 _ _ (drop_take_get hk))
            rw [k2, hvs] at hload
            have hb := run_bytesToString (P := P) w ⟨g.σ id, i * 1, none⟩ len (g.κ id - i) (l.map fun x : Nat => (x : Int)) (by rw [hload]; congr 2; simp [Function.comp_def])
            rw [push_fold] at hb
            have e0 : ByteArray.empty ++ byt l = byt l := by apply ByteArray.ext; apply Array.ext'; simp [byt]
            rw [e0] at hb
            refine gi_pure (by simp [ho]) (v := .string (byt l)) ?_ (rstr hlt)
            simp only [execOp, ho, e1, convert, Sem.run_bind, hu1, hu2, hu3, Result.andThen, hb, Sem.run_pure]
          · cases hr
        · cases hr
      · cases hr
    · cases hr
  case h_4 => cases hr
end
end Go.Proofs.YtocpmekblkfdiaaGreatDoor
namespace Go.Proofs.YtocpmekblkfdiaaGreatDoor
open Go.RowKit
set_option linter.unusedSimpArgs false
/-- what an operation leaves: blocks as the evaluator says, and a value -/
def WR (w0 : World) (h : XH) (g : Gx) (w : World) (r : Option XV) (h' : XH) (v : Value) (w' : World) : Prop :=
  ∃ g', HR w0 h' g' w' ∧ Mv (ownX h g) h.K g w (ownX h' g') h'.K g' w' ∧ XV.R (ownX h' g') h'.K g' w' (r.getD (.t [])) v
section
variable {P : Program} {E : XE} {X : Nat → Nat → Prop} {K : Nat → Bool} {g : Gx} {a : Act} {w w' w0 : World} {ro : Option Nat} {h h' : XH}
theorem PR.wr (H : HR w0 h g w) {r : XV} {v : Value} (hp : PR (ownX h g) h.K g w r v w') : WR w0 h g w (some r) h v w' := by
  obtain ⟨h1, h2⟩ := H.grow hp.1
  exact ⟨g, h1, h2, hp.2⟩
/-- a new block of cells -/
theorem new_cells (H : HR w0 h g w) (hb : Below w.heap.size w w') {b : Nat} (hb1 : w.heap.size ≤ b) (hb2 : b < w'.heap.size) {c : Array Value} {e t κ0 : Nat} {cs : List XV} {us : List Value} (hw : w'.heap[b]? = some (.cells c e (0, 0))) (hκ : κ0 * t ≤ c.size)
    (hcs : All2 (fun x v => XV.R (ownX h g) h.K g w x v) cs us) (hcv : ∀ (j : Nat) (v : Value), us[j]? = some v → c[j]? = some v) (hf : ∀ x ∈ cs, x.flat = true) (ht : t = 0 → c.size = cs.length) :
    HR w0 (h.new (.c e t cs)) ⟨upd g.σ h.n b, upd g.κ h.n κ0, g.μ⟩ w' ∧ Mv (ownX h g) h.K g w (ownX (h.new (.c e t cs)) ⟨upd g.σ h.n b, upd g.κ h.n κ0, g.μ⟩) (h.new (.c e t cs)).K ⟨upd g.σ h.n b, upd g.κ h.n κ0, g.μ⟩ w' := by
  have m := mv_new H hb hb1 κ0 (.c e t cs)
  refine ⟨H.newB hb hb1 hb2 κ0 _ ⟨c, (0, 0), us, by simpa only [upd_self] using hw, Nat.le_refl _, by simpa only [upd_self] using hκ, ?_, hcs.mv m, hcv, hf, ht⟩, m⟩
  rw [hcs.len]
  rcases Nat.eq_zero_or_pos us.length with h0 | h0
  · omega
  · have := hcv (us.length - 1) (us[us.length - 1]'(by omega)) (List.getElem?_eq_getElem (by omega))
    have := (Array.getElem?_eq_some_iff.1 this).1
    omega
theorem K_new_self (h : XH) (b : XB) : (h.new b).K h.n = true := by rw [XH.K_new]; simp
theorem alloc_x (hE : XEOk P E g.μ) (H : HR w0 h g w) {o : Oper} {t : Nat} {ti : XT} (ho : o.op = .alloc t) (ht : E.tt t = some ti) : GiX P ro a w o (WR w0 h g w (some (.p h.n 0)) (h.new (.c t 0 ti.zero.cells))) := by
  have hti := hE.tt _ _ ht
  obtain ⟨zv, hz, hzr⟩ := hti.zero
  obtain ⟨zs, hz1, hz2⟩ := XV.R.cells (hzr (ownX h g) h.K g w) (allFlat hti.zflat)
  refine gi_run (by simp [ho]) (v := .pointer (some ⟨w.heap.size, 0, none⟩)) (w' := w.alloc (.cells zs.toArray t)) ?_ ?_
  · simp [execOp, ho, Instr.alloc, hz, Result.andThen, newVar, newRow, hz1]
  · obtain ⟨h1, h2⟩ := new_cells (w' := w.alloc (.cells zs.toArray t)) (b := w.heap.size) (κ0 := 0) (t := 0) (e := t) (c := zs.toArray) H (below_alloc _) (Nat.le_refl _) (by simp) (heap_alloc_new w _) (by simp) hz2 (by simp) (allFlat hti.zflat) (by intro _; rw [hz2.len]; simp)
    refine ⟨_, h1, h2, ?_⟩
    simp only [Option.getD_some, XV.R, K_new_self, upd_self]
    exact ⟨trivial, trivial⟩
theorem box_x (H : HR w0 h g w) {o : Oper} {t : Nat} {y : Operand} {x : XV} (ho : o.op = .box t y) (hx : XV.R (ownX h g) h.K g w x (a.eval y)) (hf : x.cells.all XV.flat = true) : GiX P ro a w o (WR w0 h g w (some (.p h.n 0)) (h.new (.c t 0 x.cells))) := by
  obtain ⟨zs, hz1, hz2⟩ := XV.R.cells hx (allFlat hf)
  refine gi_run (by simp [ho]) (v := .pointer (some ⟨w.heap.size, 0, none⟩)) (w' := w.alloc (.cells zs.toArray t)) ?_ ?_
  · simp [execOp, ho, Instr.box, Result.andThen, newVar, newRow, hz1]
  · obtain ⟨h1, h2⟩ := new_cells (w' := w.alloc (.cells zs.toArray t)) (b := w.heap.size) (κ0 := 0) (t := 0) (e := t) (c := zs.toArray) H (below_alloc _) (Nat.le_refl _) (by simp) (heap_alloc_new w _) (by simp) hz2 (by simp) (allFlat hf) (by intro _; rw [hz2.len]; simp)
    refine ⟨_, h1, h2, ?_⟩
    simp only [Option.getD_some, XV.R, K_new_self, upd_self]
    exact ⟨trivial, trivial⟩
theorem layX_len : ∀ (ns cs : List XV) (o : Nat), (layX cs o ns).length = cs.length
  | [], _, _ => rfl
  | n :: ns, cs, o => by simp [layX, layX_len ns, setX_eq]
theorem layX_flat : ∀ (ns cs : List XV) (o : Nat), (∀ x ∈ ns, x.flat = true) → (∀ x ∈ cs, x.flat = true) → ∀ x ∈ layX cs o ns, x.flat = true
  | [], _, _, _, h => h
  | n :: ns, cs, o, hn, h => by
    simp only [layX, setX_eq]
    refine layX_flat ns _ _ (fun x hx => hn x (by simp [hx])) fun x hx => ?_
    rcases List.mem_or_eq_of_mem_set hx with hx | rfl
    · exact h x hx
    · exact hn _ (by simp)
/-- cells laid anew: what is known of the block -/
theorem setCells_lay {R : XV → Value → Prop} {b e : Nat} {fr : Nat × Nat} {ns : List XV} {us : List Value} (hn : All2 R ns us) : ∀ (o : Nat) (w : World) (c : Array Value) (cs : List XV) (vs : List Value), w.heap[b]? = some (.cells c e fr) → All2 R cs vs → (∀ (j : Nat) (v : Value), vs[j]? = some v → c[j]? = some v) →
    ∃ (c' : Array Value) (vs' : List Value), (w.setCells b o us).heap[b]? = some (.cells c' e fr) ∧ c'.size = c.size ∧ All2 R (layX cs o ns) vs' ∧ ∀ (j : Nat) (v : Value), vs'[j]? = some v → c'[j]? = some v := by
  induction hn with
  | nil => intro o w c cs vs h1 h2 h3; exact ⟨c, vs, h1, rfl, h2, h3⟩
  | @cons n u ns us hnu _ ih =>
    intro o w c cs vs h1 h2 h3
    simp only [layX, setX_eq, World.setCells]
    have hb := (Array.getElem?_eq_some_iff.1 h1).1
    obtain ⟨c', vs', q1, q2, q3, q4⟩ := ih (o + 1) (w.setCell ⟨b, o, none⟩ u) (c.setIfInBounds o u) (cs.set o n) (vs.set o u) (by
      simp only [World.setCell, Array.getElem?_modify, if_true, h1, Option.map_some]; simp) (h2.set hnu o) (fun j v hj => by
      rw [List.getElem?_set] at hj
      rw [Array.getElem?_setIfInBounds]
      split at hj
      · rename_i hoj
        subst hoj
        split at hj
        · rename_i hlt
          cases hj
          have := h3 o _ (List.getElem?_eq_getElem hlt)
          have := (Array.getElem?_eq_some_iff.1 this).1
          simp [this]
        · cases hj
      · rename_i hoj
        rw [if_neg hoj]
        exact h3 j v hj)
    exact ⟨c', vs', q1, by rw [q2]; simp, q3, q4⟩
theorem same_setCells (b o : Nat) (us : List Value) (w : World) : SameBut b w (w.setCells b o us) := by
  have h0 := below_setCells (B := 0) (b := b) (Nat.zero_le _) us o w
  exact ⟨h0.os, h0.tape, h0.output, size_setCells b us o w, fun k hk => setCells_block hk us o w⟩
theorem store_x (hE : XEOk P E g.μ) (H : HR w0 h g w) {o : Oper} {t id off e tt : Nat} {p y : Operand} {x : XV} {ti : XT} {cs : List XV} (ho : o.op = .store t p y) (hp : XV.R (ownX h g) h.K g w (.p id off) (a.eval p)) (hx : XV.R (ownX h g) h.K g w x (a.eval y))
    (ht : E.tt t = some ti) (hg : h.get id = some (.c e tt cs)) (hl : x.cells.length = ti.size) (hle : off + ti.size ≤ cs.length) (hf : x.cells.all XV.flat = true) : GiX P ro a w o (WR w0 h g w none (h.put id (.c e tt (layX cs off x.cells)))) := by
  have hti := hE.tt _ _ ht
  obtain ⟨us, hu, hus⟩ := XV.R.cells hx (allFlat hf)
  obtain ⟨c, fr, vs, h1, h2, h3, h4, h5, h6, h7, h8⟩ := H.blk _ _ hg
  obtain ⟨_, e1⟩ := xptr hp
  have hlu : us.length = ti.size := by rw [← hus.len, hl]
  have hcell : ∀ j, j < us.length → (w.cell? ⟨g.σ id, off + 0 + j, none⟩).isSome = true := fun j hj => by
    rw [cell_of h1]
    have : off + 0 + j < c.size := by omega
    rw [Array.getElem?_eq_getElem this]; rfl
  have hst := run_storeCells_cells (P := P) (g.σ id) off us 0 w hcell (fun j _ => frozen_of h1 h2) (fun v hv => by obtain ⟨y, hy, hR⟩ := all2_mem_right hus v hv; exact notAgg_one (hR.flat (allFlat hf y hy)))
  rw [Nat.add_zero] at hst
  refine gi_skip (by simp [ho]) (w' := w.setCells (g.σ id) off us) ?_ ?_
  · simp [execOp, ho, Instr.storeAt, Instr.sureAddr, e1, storeVar, hu, hti.size, Result.andThen, ← hlu, hst]
  · have hs := same_setCells (g.σ id) off us w
    have m := mv_set (w := w) (g := g) hg rfl hs
    obtain ⟨c', vs', q1, q2, q3, q4⟩ := setCells_lay (R := fun x v => XV.R (ownX h g) h.K g (w.setCells (g.σ id) off us) x v) (hus.mv m) off w c cs vs h1 (h5.mv m) h6
    obtain ⟨r1, r2⟩ := H.setB (blk := .c e tt (layX cs off x.cells)) hg rfl rfl hs ⟨c', fr, vs', q1, h2, by rw [q2]; exact h3, by rw [q2, layX_len]; exact h4, q3, q4, layX_flat _ _ _ (allFlat hf) h7, fun e => by rw [q2, layX_len]; exact h8 e⟩
    exact ⟨g, r1, r2, by simp only [Option.getD_none, XV.R, XVs.R]; exact ⟨[], rfl, rfl⟩⟩
theorem rowsX_vals {t : Nat} : ∀ (ins : List XV) (vs : List Value) (cs : List XV), All2 (fun x v => XV.R X K g w x v) ins vs → rowsX t ins = some cs →
    All2 (fun x v => XV.R X K g w x v) cs (vs.flatMap fun v => v.cells.toList) ∧ (∀ x ∈ cs, x.flat = true) ∧ ∀ v ∈ vs, v.cells.size = t
  | [], vs, cs, h1, h2 => by
    cases h1
    simp only [rowsX, Option.some.injEq] at h2
    subst h2
    exact ⟨.nil, by simp, by simp⟩
  | x :: ins, vs, cs, h1, h2 => by
    cases h1 with
    | @cons _ v _ vs hx hr =>
      unfold rowsX at h2
      obtain ⟨hb, h2⟩ := bif_some h2
      obtain ⟨hb1, hb2⟩ := and_true hb
      split at h2
      · rename_i r hr'
        cases h2
        obtain ⟨e1, e2, e3⟩ := rowsX_vals ins vs r hr hr'
        obtain ⟨us, hu, hus⟩ := XV.R.cells hx (allFlat hb2)
        refine ⟨?_, fun y hy => ?_, fun y hy => ?_⟩
        · rw [List.flatMap_cons, hu]
          exact hus.append e1
        · rcases List.mem_append.1 hy with hy | hy
          · exact allFlat hb2 y hy
          · exact e2 y hy
        · rcases List.mem_cons.1 hy with rfl | hy
          · rw [hu]; have := hus.len; have := nbeq hb1; simp; omega
          · exact e3 y hy
      · cases h2
theorem repX_vals {zs : List Value} {zc : List XV} (hz : All2 (fun x v => XV.R X K g w x v) zc zs) : ∀ n, All2 (fun x v => XV.R X K g w x v) (repX n zc) (List.replicate n zs).flatten
  | 0 => by simp only [repX, List.replicate_zero, List.flatten_nil]; exact .nil
  | n + 1 => by rw [List.replicate_succ, List.flatten_cons]; exact hz.append (repX_vals hz n)
theorem repX_flat {zc : List XV} (hz : ∀ x ∈ zc, x.flat = true) : ∀ n, ∀ x ∈ repX n zc, x.flat = true
  | 0, x, hx => by simp [repX] at hx
  | n + 1, x, hx => by
    rcases List.mem_append.1 (show x ∈ zc ++ repX n zc from hx) with hx | hx
    · exact hz x hx
    · exact repX_flat hz n x hx
theorem rbsl {id t n : Nat} {b κ0 : Nat} (hn : n ≤ κ0) {h0 : XH} {blk : XB} (hid : id = h0.n) : XV.R X (h0.new blk).K ⟨upd g.σ h0.n b, upd g.κ h0.n κ0, g.μ⟩ w (.sl id t 0 n) (.slice (some ⟨b, 0, none⟩) n κ0) := by
  subst hid
  simp only [XV.R, K_new_self, upd_self, Nat.zero_mul, Nat.zero_add, Nat.sub_zero]
  exact ⟨trivial, hn, trivial⟩
theorem bslice_x (hE : XEOk P E g.μ) (H : HR w0 h g w) {o : Oper} {t n e : Nat} {ps : Array (Nat × Operand)} {te : XT} {ins cs : List XV} (ho : o.op = .buildSlice t n ps) (hi : All2 (fun x v => XV.R (ownX h g) h.K g w x v) ins ((ps.toList.map (·.2)).map a.eval))
    (hd : E.desc t = .slice e) (hte : E.tt e = some te) (hpos : te.size ≠ 0) (hrg : isRangeX 0 (ps.toList.map (·.1)) = true) (hps : ps.size = n) (hn : n ≤ 10000) (hsz : te.size ≤ 1000) (hcs : rowsX te.size ins = some cs) :
    GiX P ro a w o (WR w0 h g w (some (.sl h.n te.size 0 n)) (h.new (.c e te.size cs))) := by
  obtain ⟨e1, e2, e3⟩ := rowsX_vals _ _ _ hi hcs
  have hlen : (ps.toList.map (·.1)).length = n := by simpa using hps
  have hix : ps.toList.map (·.1) = List.range n := by rw [List.range_eq_range', ← hlen]; exact isRangeX_eq _ 0 hrg
  have hvl : ((ps.toList.map (·.2)).map a.eval).length = n := by simpa using hps
  have hsm : n * te.size ≤ 16777216 := Nat.le_trans (Nat.mul_le_mul hn hsz) (by omega)
  have hr := buildSlice_runX (w := w) hE hd hte _ hvl (by omega) hsm e3 (ps.map fun x => (x.1, a.eval x.2)) (parts_range hix)
  have hsize : (((ps.toList.map (·.2)).map a.eval).flatMap fun v => v.cells.toList).length = n * te.size := by
    rw [← hvl]
    clear hr e1 hvl hix hi
    generalize (ps.toList.map (·.2)).map a.eval = vs at *
    induction vs with
    | nil => simp
    | cons v vs ih =>
      rw [List.flatMap_cons, List.length_append, ih fun y hy => e3 y (by simp [hy]), List.length_cons, Nat.succ_mul, Array.length_toList, e3 v (by simp)]
      omega
  refine gi_run (by simp [ho]) (v := .slice (some ⟨w.heap.size, 0, none⟩) n n) (w' := w.alloc (.cells (((ps.toList.map (·.2)).map a.eval).flatMap fun v => v.cells.toList).toArray e)) ?_ ?_
  · simp only [execOp, ho, Sem.run_bind, hr, Result.andThen, Sem.run_pure]
  · obtain ⟨r1, r2⟩ := new_cells (b := w.heap.size) (κ0 := n) (t := te.size) (e := e) H (below_alloc _) (Nat.le_refl _) (by simp) (heap_alloc_new w _) (by rw [List.size_toArray, hsize]; exact Nat.le_refl _) e1 (by simp) e2 (fun h0 => absurd h0 hpos)
    exact ⟨_, r1, r2, rbsl (Nat.le_refl _) rfl⟩
theorem make_x (hE : XEOk P E g.μ) (H : HR w0 h g w) {o : Oper} {t e l c : Nat} {x y : Operand} {k k' : IntKind} {te : XT} (ho : o.op = .makeSlice t x y) (hl : XV.R (ownX h g) h.K g w (.i k (l : Int)) (a.eval x)) (hc : XV.R (ownX h g) h.K g w (.i k' (c : Int)) (a.eval y))
    (hd : E.desc t = .slice e) (hte : E.tt e = some te) (hpos : te.size ≠ 0) (hlc : l ≤ c) (hbig : c ≤ 1000000) :
    GiX P ro a w o (WR w0 h g w (some (.sl h.n te.size 0 l)) (h.new (.c e te.size (repX c te.zero.cells)))) := by
  obtain ⟨ti, hti, hd1, h1⟩ := XE.desc_some hE hd (by simp)
  have hu := h1.und
  rw [hd1] at hu
  have hte' := hE.tt _ _ hte
  obtain ⟨i, hi1, hi2, hi3, zv, hi4, hi5⟩ := hte'.info
  obtain ⟨zs, hz1, hz2⟩ := XV.R.cells (hi5 (ownX h g) h.K g w) (allFlat hte'.zflat)
  have hby : (i.bytes : Int) * (c : Int) ≤ 281474976710656 := by
    have e1 : (i.bytes : Int) * (c : Int) ≤ 4096 * (c : Int) := Int.mul_le_mul_of_nonneg_right (by omega) (by omega)
    omega
  have hr := run_make (P := P) w t e i zv hu hi1 hi4 k k' (l : Int) (c : Int) (by omega) (by omega) hby (by omega)
  simp only [Int.toNat_natCast] at hr
  have hzl : zs.length = te.size := by rw [← hz2.len, hte'.zlen]
  refine gi_run (by simp [ho]) (v := .slice (some ⟨w.heap.size, 0, none⟩) l c) (w' := w.alloc (.cells (madeCells zv.cells (c * i.size)) e)) ?_ ?_
  · simp [execOp, ho, xint hl, xint hc, hr, Result.andThen]
  · obtain ⟨r1, r2⟩ := new_cells (w' := w.alloc (.cells (madeCells zv.cells (c * i.size)) e)) (c := madeCells zv.cells (c * i.size)) (b := w.heap.size) (κ0 := c) (t := te.size) (e := e) H (below_alloc _) (Nat.le_refl _) (by simp) (heap_alloc_new w _) (by rw [size_madeCells, hi2]; exact Nat.le_refl _) (repX_vals hz2 c) (fun j v hj => by
      have hjl := (List.getElem?_eq_some_iff.1 hj).1
      have hlen : ((List.replicate c zs).flatten).length = c * zs.length := by simp [List.length_flatten]
      rw [hlen] at hjl
      rw [rep_flat zs c j hjl] at hj
      refine made_get (by rw [hi2, ← hzl]; exact hjl) ?_
      rw [hz1]; simpa using hj) (repX_flat (allFlat hte'.zflat) c) (fun h0 => absurd h0 hpos)
    exact ⟨_, r1, r2, rbsl hlc rfl⟩
theorem range_x (hE : XEOk P E g.μ) (H : HR w0 h g w) {o : Oper} {t : Nat} {x : Operand} {l : List Nat} (ho : o.op = .range t x) (hx : XV.R (ownX h g) h.K g w (.s l) (a.eval x)) (hd : E.desc t = .string) :
    GiX P ro a w o (WR w0 h g w (some (.p h.n 0)) (h.new (.it l 0))) := by
  obtain ⟨ti, hti, hd1, h1⟩ := XE.desc_some hE hd (by simp)
  obtain ⟨e1, e2⟩ := xstr hx
  have hr := run_range_string (P := P) w t (byt l) (by rw [h1.und, hd1])
  refine gi_run (by simp [ho]) (v := .pointer (some ⟨w.heap.size, 0, none⟩)) (w' := w.alloc (.stringIter (byt l) 0)) ?_ ?_
  · simp [execOp, ho, e1, hr, Result.andThen, World.iter]
  · have m := mv_new H (below_alloc (.stringIter (byt l) 0)) (Nat.le_refl _) 0 (.it l 0)
    have r1 := H.newB (below_alloc (.stringIter (byt l) 0)) (Nat.le_refl _) (by simp) 0 (.it l 0) ⟨by simp only [upd_self]; exact heap_alloc_new w _, e2⟩
    refine ⟨_, r1, m, ?_⟩
    simp only [Option.getD_some, XV.R, K_new_self, upd_self]
    exact ⟨trivial, trivial⟩
theorem same_iter (k : Nat) (s : ByteArray) (pos : Nat) (w : World) : SameBut k w (w.iterAt k s pos) := ⟨rfl, rfl, rfl, by simp [World.iterAt], fun i hi => by simp [World.iterAt, Array.getElem?_setIfInBounds, Ne.symm hi]⟩
theorem next_x (H : HR w0 h g w) {o : Oper} {x : Operand} {id pos : Nat} {l : List Nat} (ho : o.op = .next x true) (hx : XV.R (ownX h g) h.K g w (.p id 0) (a.eval x)) (hg : h.get id = some (.it l pos)) {r : XV} {h' : XH}
    (hr : (match nthN l pos with
      | some c => bif Nat.blt c 128 then some (some (.t [.b true, .i .i64 (Int.ofNat pos), .i .i32 (Int.ofNat c)]), h.put id (.it l (pos + 1))) else none
      | none => some (some (.t [.b false]), h)) = some (some r, h')) : GiX P ro a w o (WR w0 h g w (some r) h') := by
  obtain ⟨hk, e1⟩ := xptr hx
  obtain ⟨b1, b2⟩ := H.blk _ _ hg
  split at hr
  · rename_i c hc
    obtain ⟨hb, hr⟩ := bif_some hr
    cases hr
    rw [nthN_eq] at hc
    obtain ⟨g1, g2⟩ := byt_get b2 hc
    have hlt : pos < (byt l).size := by rw [byt_size]; exact (List.getElem?_eq_some_iff.1 hc).1
    have hget : (byt l)[pos]'hlt = UInt8.ofNat c := by
      rw [getElem?_pos (byt l) pos hlt] at g1
      exact Option.some.inj g1
    have hn := Lib.run_next_ascii_at (P := P) w (g.σ id) (byt l) pos o.type b1 hlt (by rw [hget, g2]; exact nblt hb)
    rw [hget, g2] at hn
    refine gi_run (by simp [ho]) (v := .tuple #[.bool true, .int .i64 pos, .int .i32 c]) (w' := w.iterAt (g.σ id) (byt l) (pos + 1)) ?_ ?_
    · simp [execOp, ho, e1, hn, Result.andThen]
    · have hs := same_iter (g.σ id) (byt l) (pos + 1) w
      obtain ⟨r1, r2⟩ := H.setB (blk := .it l (pos + 1)) hg rfl rfl hs ⟨Lib.iterAt_heap w _ _ _ _ b1, b2⟩
      refine ⟨g, r1, r2, ?_⟩
      exact XV.R.t_all2.2 ⟨[.bool true, .int .i64 pos, .int .i32 c], rfl, .cons rbool (.cons rint (.cons rint .nil))⟩
  · rename_i hc
    cases hr
    rw [nthN_eq] at hc
    have hlt : ¬ pos < (byt l).size := by rw [byt_size]; have := List.getElem?_eq_none_iff.1 hc; omega
    have hn := Lib.run_next_end_at (P := P) w (g.σ id) (byt l) pos o.type b1 hlt
    refine gi_run (by simp [ho]) (v := .tuple #[.bool false]) (w' := w) ?_ ⟨g, H, Mv.refl _ _ _ _, XV.R.t_all2.2 ⟨[.bool false], rfl, .cons rbool .nil⟩⟩
    simp [execOp, ho, e1, hn, Result.andThen]
theorem same_freeze (p : Addr) (n : Nat) (w : World) : SameBut p.block w (w.freeze p n) := by
  unfold World.freeze
  split
  · exact SameBut.refl _ _
  · exact ⟨rfl, rfl, rfl, by simp, fun k hk => by simp only [Array.getElem?_modify]; rw [if_neg (Ne.symm hk)]⟩
theorem ustr_x (hE : XEOk P E g.μ) (H : HR w0 h g w) {o : Oper} {args : Array Operand} {pt it e tt id n : Nat} {cs r' : List XV} {l : List Nat} (ho : o.op = .call ⟨.builtin .unsafeString, args, #[pt, it]⟩) (hi : All2 (fun x v => XV.R (ownX h g) h.K g w x v) [.p id 0, .i .i64 (n : Int)] (args.toList.map a.eval))
    (hd : E.desc pt = .pointer e) (hg : h.get id = some (.c e tt cs)) (h1' : E.one e = true) (hn : n ≠ 0) (hbig : n ≤ 1000000) (hr : takeX cs 0 n = some r') (hl : strOf r' = some l) : GiX P ro a w o (WR w0 h g w (some (.s l)) (h.put id .dead)) := by
  obtain ⟨u, v, hv, hR1, hR2⟩ := hi.two
  have hargs : args.map a.eval = #[u, v] := by apply Array.ext'; simpa using hv
  rw [(xptr hR1).2, xint hR2] at hargs
  obtain ⟨ti, hti, hd1, hti'⟩ := XE.desc_some hE hd (by simp)
  obtain ⟨c, fr, vs, h1, h2, h3, h4, h5, h6, h7, h8⟩ := H.blk _ _ hg
  obtain ⟨k1, k2⟩ := take_all2 h5 hr
  obtain ⟨hvs, hlt⟩ := strOf_vals _ _ _ k1 hl
  have hll : l.length = n := by
    have := congrArg List.length hvs
    rw [k2] at this
    simpa using this.symm
  have hsh : w.shape? (g.σ id) = some (e, c.size) := by simp [World.shape?, h1]
  have hru := Lib.run_unsafeString_row (P := P) w pt it o.type e (by rw [hti'.und, hd1]) (hE.one _ h1') (g.σ id) c.size hsh (l.map UInt8.ofNat) (by rw [ne_eq, List.map_eq_nil_iff]; rintro rfl; exact hn hll.symm)
    (by simp; have := (takeX_eq _ _ _ _ hr).2; omega) (by simp; omega) (fun j x hj => by
      rw [List.getElem?_map, Option.map_eq_some_iff] at hj
      obtain ⟨y, hy, rfl⟩ := hj
      have hy' : y < 256 := hlt y (List.mem_of_getElem? hy)
      have e2 : ((vs.drop 0).take n)[j]? = some (.int .u8 (y : Int)) := by rw [hvs, List.getElem?_map, hy]; rfl
      have := h6 _ _ (drop_take_get e2)
      rw [Nat.zero_add] at this
      rw [Addr.add_lit, Nat.zero_add, cell_of h1, this]
      simp [UInt8.toNat_ofNat']
      omega)
  simp only [List.length_map, hll] at hru
  refine gi_run (by simp [ho]) (v := .string (byt l)) (w' := w.freeze ⟨g.σ id, 0, none⟩ n) ?_ ?_
  · simp only [execOp, ho, resolve, hargs, Sem.run_bind, Sem.run_pure, Result.andThen, invoke, builtin]
    simp [hru, byt]
  · obtain ⟨r1, r2⟩ := H.kill hg rfl (same_freeze ⟨g.σ id, 0, none⟩ n w)
    exact ⟨g, r1, r2, rstr hlt⟩
end
end Go.Proofs.YtocpmekblkfdiaaGreatDoor
namespace Go.Proofs.YtocpmekblkfdiaaGreatDoor
open Go.RowKit
set_option linter.unusedSimpArgs false
section
variable {P : Program} {E : XE} {X : Nat → Nat → Prop} {K : Nat → Bool} {g : Gx} {a : Act} {w w' w0 : World} {ro : Option Nat} {h h' : XH}
theorem bytes_cells (l : List Nat) (hl : ∀ x ∈ l, x < 256) : byteCells (byt l) = l.map fun c : Nat => Value.int .u8 (c : Int) := by
  unfold byteCells
  rw [byt_data, List.map_map]
  refine List.map_congr_left fun x hx => ?_
  have := hl x hx
  simp [UInt8.toNat_ofNat']
  omega
theorem tail_x (hE : XEOk P E g.μ) (H : HR w0 h g w) {e t' tt n : Nat} {x : XV} {new : List XV} {v : Value} (hx : XV.R (ownX h g) h.K g w x v) (ht : tailX E h e tt t' x = some (n, new)) :
    ∃ news, Src P tt t' v n news w ∧ All2 (fun x v => XV.R (ownX h g) h.K g w x v) new news ∧ ∀ y ∈ new, y.flat = true := by
  unfold tailX at ht
  split at ht
  · rename_i l
    split at ht
    · rename_i hd1 hd2
      have hb := (bif_some ht).1
      replace ht := (bif_some ht).2
      cases ht
      have e1 := nbeq hb
      subst e1
      obtain ⟨ti, _, hd3, hti⟩ := XE.desc_some hE hd2 (by simp)
      obtain ⟨rfl, hl⟩ := xstr hx
      have hs := Src.ofString (P := P) (w := w) (tx := t') (by rw [hti.und, hd3]) (byt l)
      rw [byt_size, bytes_cells l hl] at hs
      refine ⟨_, hs, ?_, ?_⟩
      · clear hs hx hl
        induction l with
        | nil => exact .nil
        | cons x l ih => exact .cons rint ih
      · intro y hy
        obtain ⟨x, _, rfl⟩ := List.mem_map.1 hy
        rfl
    · cases ht
  · split at ht
    · rename_i e' hd
      cases ht
      obtain ⟨ti, _, hd3, hti⟩ := XE.desc_some hE hd (by simp)
      rw [xns hx]
      exact ⟨[], Src.ofNil w (by rw [hti.und, hd3]) 0, .nil, by simp⟩
    · cases ht
  · rename_i id t i len
    split at ht
    · rename_i e' e2 t2 cs hd hg
      have hb := (bif_some ht).1
      replace ht := (bif_some ht).2
      have e1 := nbeq hb
      subst e1
      split at ht
      · rename_i r hr
        cases ht
        obtain ⟨ti, _, hd3, hti⟩ := XE.desc_some hE hd (by simp)
        obtain ⟨c, fr, vs, h1, h2, h3, h4, h5, h6, h7, h8⟩ := H.blk _ _ hg
        obtain ⟨k1, k2⟩ := take_all2 h5 hr
        rw [(xsl hx).2.2]
        have hf : ∀ y ∈ new, y.flat = true := fun y hy => by
          rw [(takeX_eq _ _ _ _ hr).1] at hy
          exact h7 y (List.mem_of_mem_drop (List.mem_of_mem_take hy))
        refine ⟨_, Src.ofSlice w (by rw [hti.und, hd3]) ⟨g.σ id, i * t, none⟩ n _ _ k2 (fun j u hu => by rw [Addr.add_lit, cell_of h1]; exact h6 _ _ (drop_take_get hu)) (fun u hu => ?_), k1, hf⟩
        obtain ⟨y, hy, hR⟩ := all2_mem_right k1 u hu
        exact notAgg_one (hR.flat (hf y hy))
      · cases ht
    · cases ht
  · cases ht
/-- cells laid anew: each of them -/
theorem setCells_get {b e : Nat} {fr : Nat × Nat} : ∀ (us : List Value) (o : Nat) (w : World) (c : Array Value), w.heap[b]? = some (.cells c e fr) →
    ∃ c' : Array Value, (w.setCells b o us).heap[b]? = some (.cells c' e fr) ∧ c'.size = c.size ∧ (∀ j, j < o → c'[j]? = c[j]?) ∧ ∀ (j : Nat) (u : Value), us[j]? = some u → o + j < c.size → c'[o + j]? = some u
  | [], o, w, c, h => ⟨c, h, rfl, fun _ _ => rfl, by simp⟩
  | u :: us, o, w, c, h => by
    have hb := (Array.getElem?_eq_some_iff.1 h).1
    obtain ⟨c', h1, h2, h3, h4⟩ := setCells_get (b := b) (e := e) (fr := fr) us (o + 1) (w.setCell ⟨b, o, none⟩ u) (c.setIfInBounds o u) (by
      simp only [World.setCell, Array.getElem?_modify, if_true, h, Option.map_some]; simp)
    refine ⟨c', by rw [World.setCells]; exact h1, by rw [h2]; simp, fun j hj => ?_, fun j v hv hlt => ?_⟩
    · rw [h3 j (by omega), Array.getElem?_setIfInBounds, if_neg (by omega)]
    · cases j with
      | zero =>
        simp only [List.getElem?_cons_zero, Option.some.injEq] at hv
        subst hv
        rw [Nat.add_zero] at hlt ⊢
        rw [h3 o (by omega), Array.getElem?_setIfInBounds, if_pos rfl, if_pos hlt]
      | succ j =>
        have := h4 j v (by simpa using hv) (by simp; omega)
        rw [show o + (j + 1) = o + 1 + j by omega]
        exact this
theorem app_x (hE : XEOk P E g.μ) (H : HR w0 h g w) {o : Oper} {args : Array Operand} {ts : Array Nat} {s x r : XV} {h' : XH} (ho : o.op = .call ⟨.builtin .append, args, ts⟩) (hi : All2 (fun x v => XV.R (ownX h g) h.K g w x v) [s, x] (args.toList.map a.eval))
    (hr : appX E ts.toList s x h = some (r, h')) : GiX P ro a w o (WR w0 h g w (some r) h') := by
  obtain ⟨sv, xv, hv, hs, hx⟩ := hi.two
  have hargs : args.map a.eval = #[sv, xv] := by apply Array.ext'; simpa using hv
  have hex : ∀ {v : Value} {w' : World}, (Builtin.append_ ts o.type #[sv, xv]).run P w = .ok v w' → (execOp a.eval o).run P w = .ok (.value v) w' := by
    intro v w' hr
    simp only [execOp, ho, resolve, hargs, Sem.run_bind, Sem.run_pure, Result.andThen, invoke, builtin]
    simp [hr]
  have hnd : ∀ c, o.op ≠ .defer c := by simp [ho]
  clear hargs hi hv ho
  unfold appX at hr
  split at hr
  · rename_i t t' hts
    have hts' : ts = #[t, t'] := by apply Array.ext'; simpa using hts
    subst hts'
    split at hr
    · rename_i e hd
      split at hr
      · rename_i te hte
        have hb := (bif_none hr).1
        replace hr := (bif_none hr).2
        have hpos := nbeqf hb
        split at hr
        · rename_i n new htl
          obtain ⟨news, hsrc, hnew, hnf⟩ := tail_x hE H hx htl
          obtain ⟨ti, _, hd3, hti⟩ := XE.desc_some hE hd (by simp)
          have hu := hti.und
          rw [hd3] at hu
          have hte' := hE.tt _ _ hte
          obtain ⟨i, hi1, hi2, hi3, zv, hi4, hi5⟩ := hte'.info
          obtain ⟨zs, hz1, hz2⟩ := XV.R.cells (hi5 (ownX h g) h.K g w) (allFlat hte'.zflat)
          have hzs : zv.cells.size = te.size := by rw [hz1]; have := hz2.len; have := hte'.zlen; simp; omega
          have hnl : news.length = n * te.size := hsrc.newsLen
          rw [← hi2] at hsrc
          unfold appX2 at hr
          split at hr
          · have es := xns hs
            subst es
            by_cases hn0 : n = 0
            · subst hn0
              simp at hr
              obtain ⟨rfl, rfl⟩ := hr
              have hn' : news = [] := List.length_eq_zero_iff.1 (by rw [hnl]; simp)
              refine gi_run hnd (v := .slice none 0 0) (w' := w) (hex ?_) ⟨g, H, Mv.refl _ _ _ _, by simp only [Option.getD_some, XV.R]⟩
              rcases hsrc.kind with ⟨e', hk⟩ | hk <;> simp [Builtin.append_, run_underlying hu, run_underlying hk, sizeOf, typeInfo, hi1, hsrc.len, hsrc.cells]
            · rw [beq_false_of hn0] at hr
              simp only [cond_false] at hr
              have hb := (bif_some hr).1
              replace hr := (bif_some hr).2
              cases hr
              have hbig := nble hb
              have hby : (0 + n) * i.bytes ≤ 140737488355328 := by
                have := Nat.mul_le_mul hbig hi3
                rw [Nat.zero_add]; omega
              have hap := run_append_grow_src (P := P) w t t' o.type e i zv hu hi1 hi4 none 0 0 [] (run_firstCells_none _ _ _ _ _) xv n news hsrc (by omega) (by omega) (growslice_fits (by omega) hby)
              rw [Nat.zero_add, List.nil_append] at hap
              have hge := grownCap_ge w n 0 e
              refine gi_run hnd (hex hap) ?_
              have hsz : (news.toArray ++ Builtin.zeroCells zv.cells (grownCap w n 0 e - n)).size = grownCap w n 0 e * te.size := by
                simp only [Array.size_append, List.size_toArray, size_zeroCells, hzs, hnl]
                rw [← Nat.add_mul]
                congr 1
                omega
              obtain ⟨r1, r2⟩ := new_cells (b := w.heap.size) (κ0 := grownCap w n 0 e) (t := te.size) (e := e) H ((Below.refl _ w).drew.alloc (Nat.le_refl _) _) (Nat.le_refl _) (by simp) (heap_alloc_new w.drew _) (by rw [hsz]; exact Nat.le_refl _) hnew (fun j v hj => by
                rw [Array.getElem?_append_left (by simpa using (List.getElem?_eq_some_iff.1 hj).1)]; simpa using hj) hnf (fun h0 => absurd h0 hpos)
              exact ⟨_, r1, r2, rbsl hge rfl⟩
          · rename_i id tt i0 len
            obtain ⟨hk, hle, es⟩ := xsl hs
            subst es
            by_cases hn0 : n = 0
            · subst hn0
              simp at hr
              obtain ⟨rfl, rfl⟩ := hr
              have hn' : news = [] := List.length_eq_zero_iff.1 (by rw [hnl]; simp)
              subst hn'
              have hap := run_append_room_src (P := P) w t t' o.type e i hu hi1 (g.σ id) (i0 * tt) len (g.κ id - i0) xv 0 [] hsrc (by omega) (by simp) (by simp)
              exact gi_run hnd (hex hap) ⟨g, H, Mv.refl _ _ _ _, rsl hk hle⟩
            · rw [beq_false_of hn0] at hr
              simp only [cond_false] at hr
              split at hr
              · rename_i e' t2 cs hg
                have hb := (bif_some hr).1
                replace hr := (bif_some hr).2
                obtain ⟨hb, hb4⟩ := and_true hb
                obtain ⟨hb, hb5⟩ := and_true hb
                obtain ⟨hb, hb3⟩ := and_true hb
                obtain ⟨hb1, hb2⟩ := and_true hb
                have q5 := nbeq hb5
                have q1 := nbeq hb1
                have q2 := nbeq hb2
                have q3 := nbeq hb3
                have hbig := nble hb4
                subst q1 q2 q3 q5
                split at hr
                · rename_i old hold
                  cases hr
                  obtain ⟨c, fr, vs, h1, h2, h3, h4, h5, h6, h7, h8⟩ := H.blk _ _ hg
                  obtain ⟨k1, k2⟩ := take_all2 h5 hold
                  rw [List.drop_zero] at k1 k2
                  have hof : ∀ y ∈ old ++ new, y.flat = true := fun y hy => by
                    rcases List.mem_append.1 hy with hy | hy
                    · rw [(takeX_eq _ _ _ _ hold).1] at hy
                      exact h7 y (List.mem_of_mem_drop (List.mem_of_mem_take hy))
                    · exact hnf y hy
                  have hold0 : ∀ (j : Nat) (u : Value), (vs.take (len * te.size))[j]? = some u → c[j]? = some u := fun j u hu => by
                    rw [List.getElem?_take] at hu
                    split at hu
                    · exact h6 j u hu
                    · cases hu
                  have hby : (len + n) * i.bytes ≤ 140737488355328 := by
                    have := Nat.mul_le_mul hbig hi3
                    omega
                  simp only [Nat.zero_mul, Nat.sub_zero, Nat.zero_add] at hle hex ⊢
                  have holdlen : (vs.take (len * te.size)).length = len * te.size := k2
                  by_cases hroom : len + n ≤ g.κ id
                  · have hmul : (len + n) * te.size ≤ c.size := Nat.le_trans (Nat.mul_le_mul_right _ hroom) h3
                    rw [Nat.add_mul] at hmul
                    have hap := run_append_room_src (P := P) w t t' o.type e i hu hi1 (g.σ id) 0 len (g.κ id) xv n news hsrc hroom (fun j hj => by
                      rw [cell_of h1, hi2, Array.getElem?_eq_getElem (by omega)]; rfl) (fun j _ => frozen_of h1 h2)
                    rw [hi2, Nat.zero_add] at hap
                    refine gi_run hnd (hex hap) ?_
                    have hsb := same_setCells (g.σ id) (len * te.size) news w
                    obtain ⟨c', c1, c2, c3, c4⟩ := setCells_get news (len * te.size) w c h1
                    have m := mv_move H hg rfl hsb (g.κ id) (.c e te.size (old ++ new))
                    have r1 := H.move hg rfl hsb (g.κ id) (.c e te.size (old ++ new)) ⟨c', fr, vs.take (len * te.size) ++ news, by simp only [upd_self]; exact c1, h2, by simp only [upd_self]; rw [c2]; exact h3, by
                      have := k1.len
                      have := hnew.len
                      rw [List.length_append, c2]; omega, (k1.append hnew).mv m, fun j u hu => by
                      rw [List.getElem?_append] at hu
                      split at hu
                      · rename_i hlt
                        rw [c3 j (by omega)]; exact hold0 j u hu
                      · rename_i hge
                        rw [holdlen] at hu hge
                        have hj := (List.getElem?_eq_some_iff.1 hu).1
                        have := c4 _ u hu (by omega)
                        rwa [show len * te.size + (j - len * te.size) = j by omega] at this, hof, fun h0 => absurd h0 hpos⟩
                    exact ⟨_, r1, m, rbsl (h0 := h.put id .dead) hroom rfl⟩
                  · have hold1 : (Builtin.firstCells i.size len (.slice (some ⟨g.σ id, 0, none⟩) len (g.κ id))).run P w.drew = .ok (vs.take (len * te.size)).toArray w.drew :=
                      run_firstCells_some w.drew i.size len ⟨g.σ id, 0, none⟩ len (g.κ id) _ (by rw [holdlen, hi2]) (fun j u hu => by rw [Addr.add_lit, Nat.zero_add]; have := cell_of (o := j) h1; simpa using this.trans (hold0 j u hu))
                    have hap := run_append_grow_src (P := P) w t t' o.type e i zv hu hi1 hi4 (some ⟨g.σ id, 0, none⟩) len (g.κ id) _ hold1 xv n news hsrc (by omega) (by omega) (growslice_fits (by omega) hby)
                    have hge := grownCap_ge w (len + n) (g.κ id) e
                    refine gi_run hnd (hex hap) ?_
                    obtain ⟨H1, m1⟩ := H.kill hg rfl (SameBut.refl _ w)
                    have hsz : ((vs.take (len * te.size) ++ news).toArray ++ Builtin.zeroCells zv.cells (grownCap w (len + n) (g.κ id) e - (len + n))).size = grownCap w (len + n) (g.κ id) e * te.size := by
                      simp only [Array.size_append, List.size_toArray, List.length_append, size_zeroCells, hzs, hnl, holdlen]
                      rw [← Nat.add_mul, ← Nat.add_mul]
                      congr 1
                      omega
                    obtain ⟨r1, r2⟩ := new_cells (b := w.heap.size) (κ0 := grownCap w (len + n) (g.κ id) e) (t := te.size) (e := e) H1 ((Below.refl _ w).drew.alloc (Nat.le_refl _) _) (Nat.le_refl _) (by simp) (heap_alloc_new w.drew _) (by rw [hsz]; exact Nat.le_refl _) ((k1.append hnew).mv m1) (fun j v hj => by
                      rw [Array.getElem?_append_left (by simpa using (List.getElem?_eq_some_iff.1 hj).1)]; simpa using hj) hof (fun h0 => absurd h0 hpos)
                    exact ⟨_, r1, m1.trans r2, rbsl (h0 := h.put id .dead) hge rfl⟩
                · cases hr
              · cases hr
          · cases hr
        · cases hr
      · cases hr
    · cases hr
  · cases hr
end
end Go.Proofs.YtocpmekblkfdiaaGreatDoor
namespace Go.Proofs.YtocpmekblkfdiaaGreatDoor
open Go.RowKit
set_option linter.unusedSimpArgs false
section
variable {P : Program} {E : XE} {g : Gx} {a : Act} {w w' w0 : World} {ro : Option Nat} {h h' : XH}
theorem opW_sound (hE : XEOk P E g.μ) (H : HR w0 h g w) {o : Oper} {ins : List XV} {r : Option XV} {h' : XH} (hi : All2 (fun x v => XV.R (ownX h g) h.K g w x v) ins ((insX o.op).map a.eval)) (hr : opW E o.op ins h = some (r, h')) :
    GiX P ro a w o (WR w0 h g w r h') := by
  unfold opW at hr
  split at hr
  case h_1 t ho =>
    split at hr
    · rename_i ti ht; cases hr; exact alloc_x hE H ho ht
    · cases hr
  case h_2 t y x ho =>
    rw [ho] at hi
    have hb := (bif_some hr).1
    replace hr := (bif_some hr).2
    cases hr
    obtain ⟨v, hv, hR⟩ := hi.one
    cases hv
    exact box_x H ho hR hb
  case h_3 t p y id off x ho =>
    rw [ho] at hi
    split at hr
    · rename_i ti e tt cs ht hg
      have hb := (bif_some hr).1
      replace hr := (bif_some hr).2
      cases hr
      obtain ⟨hb, hb3⟩ := and_true hb
      obtain ⟨hb1, hb2⟩ := and_true hb
      obtain ⟨u, v, hv, h1, h2⟩ := hi.two
      cases hv
      exact store_x hE H ho h1 h2 ht hg (nbeq hb1) (nble hb2) hb3
    · cases hr
  case h_4 t n ps ho =>
    rw [ho] at hi
    split at hr
    · rename_i e hd
      split at hr
      · rename_i te hte
        have hb := (bif_some hr).1
        replace hr := (bif_some hr).2
        obtain ⟨hb, hb5⟩ := and_true hb
        obtain ⟨hb, hb4⟩ := and_true hb
        obtain ⟨hb, hb3⟩ := and_true hb
        obtain ⟨hb1, hb2⟩ := and_true hb
        split at hr
        · rename_i cs hcs
          cases hr
          exact bslice_x hE H ho hi hd hte (nbeqf (by simpa using hb1)) hb2 (nbeq hb3) (nble hb4) (nble hb5) hcs
        · cases hr
      · cases hr
    · cases hr
  case h_5 t x y k l k' c ho =>
    rw [ho] at hi
    split at hr
    · rename_i e l' c' hd hl hc
      have el := natX_eq hl
      have ec := natX_eq hc
      subst el ec
      split at hr
      · rename_i te hte
        have hb := (bif_some hr).1
        replace hr := (bif_some hr).2
        cases hr
        obtain ⟨hb, hb3⟩ := and_true hb
        obtain ⟨hb1, hb2⟩ := and_true hb
        obtain ⟨u, v, hv, h1, h2⟩ := hi.two
        cases hv
        exact make_x hE H ho h1 h2 hd hte (nbeqf (by simpa using hb1)) (nble hb2) (nble hb3)
      · cases hr
    · cases hr
  case h_6 t x l ho =>
    rw [ho] at hi
    have hb := (bif_some hr).1
    replace hr := (bif_some hr).2
    cases hr
    obtain ⟨v, hv, hR⟩ := hi.one
    cases hv
    have hd : E.desc t = .string := by
      cases hdd : E.desc t <;> rw [hdd] at hb <;> first | rfl | cases hb
    exact range_x hE H ho hR hd
  case h_7 x id ho =>
    rw [ho] at hi
    obtain ⟨v, hv, hR⟩ := hi.one
    cases hv
    split at hr
    · rename_i l pos hg
      cases r with
      | some r => exact next_x H ho hR hg hr
      | none =>
        split at hr
        · have hr' := (bif_some hr).2; cases hr'
        · cases hr
    · cases hr
  case h_8 args ts s x ho =>
    rw [ho] at hi
    split at hr
    · rename_i v h1 hap
      cases hr
      exact app_x hE H ho hi hap
    · cases hr
  case h_9 args ts id n ho =>
    rw [ho] at hi
    split at hr
    · rename_i pt it n' hts hn
      have en := natX_eq hn
      subst en
      have hts' : ts = #[pt, it] := by apply Array.ext'; simpa using hts
      subst hts'
      split at hr
      · rename_i e' e tt cs hd hg
        have hb := (bif_some hr).1
        replace hr := (bif_some hr).2
        obtain ⟨hb, hb4⟩ := and_true hb
        obtain ⟨hb, hb3⟩ := and_true hb
        obtain ⟨hb1, hb2⟩ := and_true hb
        have e1 := nbeq hb1
        subst e1
        split at hr
        · rename_i r' hr'
          split at hr
          · rename_i l hl
            cases hr
            exact ustr_x hE H ho hi hd hg hb2 (nbeqf (by simpa using hb3)) (nble hb4) hr' hl
          · cases hr
        · cases hr
      · cases hr
    · cases hr
  case h_10 => cases hr
end
end Go.Proofs.YtocpmekblkfdiaaGreatDoor
namespace Go.Proofs.YtocpmekblkfdiaaGreatDoor
open Go.RowKit
set_option linter.unusedSimpArgs false
section
variable {P : Program} {E : XE} {X : Nat → Nat → Prop} {K : Nat → Bool} {g : Gx} {a : Act} {w w' w0 : World} {ro : Option Nat} {h h' : XH}
theorem constX_R {v : Value} {x : XV} (hx : constX v = some x) : XV.R X K g w x v := by
  unfold constX at hx
  split at hx
  · cases hx; exact rbool
  · cases hx; exact rint
  · rename_i s
    cases hx
    have := rstr (X := X) (K := K) (g := g) (w := w) (unbyt_lt s)
    rwa [byt_unbyt] at this
  · cases hx; simp only [XV.R]
  · cases hx; simp only [XV.R]
  · cases hx; simp only [XV.R]
  · cases hx; simp only [XV.R]
  · cases hx
theorem getX_R {S : List XV} {o : Operand} {x : XV} (hS : All2 (fun x v => XV.R X K g w x v) S a.tmps.toList) (hx : getX S o = some x) : XV.R X K g w x (a.eval o) := by
  unfold getX at hx
  split at hx
  · rename_i t
    rw [nthX_eq] at hx
    obtain ⟨v, hv, hR⟩ := hS.get hx
    have e : a.eval (.tmp t) = v := by
      have hv' : a.tmps[t]? = some v := by simpa using hv
      simp [Act.eval, Array.getD_eq_getD_getElem?, hv']
    rw [e]; exact hR
  · exact constX_R hx
  · rename_i f
    cases hx
    exact XV.R.f_all2.2 ⟨[], rfl, .nil⟩
  · cases hx
theorem getXs_R {S : List XV} (hS : All2 (fun x v => XV.R X K g w x v) S a.tmps.toList) : ∀ (l : List Operand) (xs : List XV), getXs S l = some xs → All2 (fun x v => XV.R X K g w x v) xs (l.map a.eval)
  | [], xs, hx => by
    simp only [getXs, Option.some.injEq] at hx
    subst hx
    exact .nil
  | o :: l, xs, hx => by
    unfold getXs at hx
    split at hx
    · rename_i x h1
      split at hx
      · rename_i r h2
        cases hx
        exact .cons (getX_R hS h1) (getXs_R hS l r h2)
      · cases hx
    · cases hx
theorem put_R {S : List XV} {d : Option Nat} {r : Option XV} {v : Value} (hS : All2 (fun x v => XV.R X K g w x v) S a.tmps.toList) (hr : XV.R X K g w (r.getD (.t [])) v) : All2 (fun x v => XV.R X K g w x v) (putD S d r) (a.put d v).tmps.toList := by
  cases d with
  | none => cases r <;> exact hS
  | some d =>
    have e : (a.put (some d) v).tmps.toList = a.tmps.toList.set d v := by simp [Act.put]
    rw [e]
    cases r with
    | none => simp only [putD, setX_eq]; exact hS.set hr d
    | some r => simp only [putD, setX_eq]; exact hS.set hr d
theorem put_defers (d : Option Nat) (v : Value) : (a.put d v).defers = a.defers := by cases d <;> rfl
theorem want_x {ops : Array Oper} {S : List XV} {o : Oper} {b : Bool} (hS : All2 (fun x v => XV.R X K g w x v) S a.tmps.toList) (hw : wantX ops S o = some b) : Region.wanted o (yielded ops a.tmps) = b := by
  unfold wantX at hw
  split at hw
  · rename_i hg
    cases hw
    simp [Region.wanted, hg]
  · rename_i j want hg
    split at hw
    · rename_i oj hj
      split at hw
      · rename_i t hd
        have hy : ∀ v, a.tmps[t]? = some v → yielded ops a.tmps j = (match some v with | some (.bool b) => some b | _ => none) := by
          intro v hv
          cases v <;> simp [yielded, hj, hd, hv]
        split at hw
        · rename_i x hx
          cases hw
          rw [nthX_eq] at hx
          obtain ⟨v, hv, hR⟩ := hS.get hx
          have := hy v (by simpa using hv)
          rw [xbool hR] at this
          simp only [Region.wanted, hg, this]
          cases x <;> cases want <;> rfl
        · rename_i hx
          cases hw
          rw [nthX_eq] at hx
          obtain ⟨v, hv, hR⟩ := hS.get hx
          have := hy v (by simpa using hv)
          obtain ⟨vs, e1, e2⟩ := XV.R.t_all2.1 hR
          cases e2
          rw [e1] at this
          simp only [Region.wanted, hg, this]
          cases want <;> rfl
        · cases hw
      · cases hw
    · cases hw
theorem resX1_run (hE : XEOk P E g.μ) (H : HR w0 h g w) {S : List XV} {r : ResultVar} {x : XV} (hS : All2 (fun x v => XV.R (ownX h g) h.K g w x v) S a.tmps.toList) (hr : resX1 E S h r = some x) : ∃ v, (oneRes a.tmps r).run P w = .ok v w ∧ XV.R (ownX h g) h.K g w x v := by
  unfold resX1 at hr
  split at hr
  · rename_i t
    have := getX_R (a := a) (o := .tmp t) hS hr
    exact ⟨a.eval (.tmp t), by simp [oneRes, Act.eval], this⟩
  · rename_i addr t
    split at hr
    · rename_i id off hp
      have hpR := getX_R (a := a) (o := .tmp addr) hS hp
      unfold opR at hr
      simp only at hr
      split at hr
      · rename_i ti e tt cs hti hg
        split at hr
        · rename_i r' hr'
          obtain ⟨c, fr, vs, h1, h2, h3, h4, h5, h6, h7, h8⟩ := H.blk _ _ hg
          obtain ⟨k1, k2⟩ := take_all2 h5 hr'
          obtain ⟨z, q1, q2⟩ := load_x (P := P) (hE.tt _ _ hti) (b := g.σ id) (off := off) k1 k2 (fun j v hv => by rw [cell_of h1]; exact h6 _ _ (drop_take_get hv)) hr
          have e1 : a.tmps.getD addr undef = .pointer (some ⟨g.σ id, off, none⟩) := (xptr hpR).2
          exact ⟨z, by simp [oneRes, e1, asAddr, q1], q2⟩
        · cases hr
      · cases hr
    · cases hr
theorem resXs_run (hE : XEOk P E g.μ) (H : HR w0 h g w) {S : List XV} (hS : All2 (fun x v => XV.R (ownX h g) h.K g w x v) S a.tmps.toList) : ∀ (rs : List ResultVar) (xs : List XV), resXs E S h rs = some xs →
    ∃ vs : List Value, (rs.mapM (oneRes a.tmps)).run P w = .ok vs w ∧ All2 (fun x v => XV.R (ownX h g) h.K g w x v) xs vs
  | [], xs, hr => by
    simp only [resXs, Option.some.injEq] at hr
    subst hr
    exact ⟨[], by simp, .nil⟩
  | r :: rs, xs, hr => by
    unfold resXs at hr
    split at hr
    · rename_i x h1
      split at hr
      · rename_i ys h2
        cases hr
        obtain ⟨v, e1, e2⟩ := resX1_run (P := P) hE H hS h1
        obtain ⟨vs, e3, e4⟩ := resXs_run hE H hS rs ys h2
        exact ⟨v :: vs, by simp [List.mapM_cons, e1, e3, Result.andThen], .cons e2 e4⟩
      · cases hr
    · cases hr
theorem resX_run (hE : XEOk P E g.μ) (H : HR w0 h g w) {S : List XV} {fn : Func} {x : XV} (hS : All2 (fun x v => XV.R (ownX h g) h.K g w x v) S a.tmps.toList) (hr : resX E S h fn.results.toList = some x) :
    ∃ v, (results fn a.tmps).run P w = .ok v w ∧ XV.R (ownX h g) h.K g w x v := by
  unfold resX at hr
  have key : ∀ xs, resXs E S h fn.results.toList = some xs → ∃ vs : List Value, (fn.results.mapM (oneRes a.tmps)).run P w = .ok vs.toArray w ∧ All2 (fun x v => XV.R (ownX h g) h.K g w x v) xs vs := by
    intro xs hx
    obtain ⟨vs, e1, e2⟩ := resXs_run (P := P) hE H hS _ _ hx
    exact ⟨vs, by simp [Array.mapM_eq_mapM_toList, e1, Result.andThen], e2⟩
  split at hr
  · rename_i y hy
    cases hr
    obtain ⟨vs, e1, e2⟩ := key _ hy
    obtain ⟨v, rfl, hv⟩ := e2.one
    exact ⟨v, by rw [results_eq]; simp [e1, Result.andThen], hv⟩
  · rename_i xs hy hx
    cases hr
    obtain ⟨vs, e1, e2⟩ := key _ hx
    have hl : vs.length ≠ 1 := by
      intro hl
      rw [← e2.len] at hl
      obtain ⟨y, rfl⟩ := List.length_eq_one_iff.1 hl
      exact hy y rfl
    refine ⟨.tuple vs.toArray, by rw [results_eq]; simp [e1, Result.andThen, hl], XV.R.t_all2.2 ⟨vs, rfl, e2⟩⟩
  · cases hr
end
/-- what holds throughout -/
structure XC (P : Program) (E : XE) (μ : Int) (w0 : World) : Prop where
  ok : XEOk P E μ
  ml : w0.cell? ⟨E.gml, 0, none⟩ = some (.int .i64 μ)
  mlt : E.gml < w0.heap.size
  mixed : P.follows .mixedOrders = true
def CallXOk (P : Program) (E : XE) (μ : Int) (w0 : World) (ev : Bool → Run) : Prop :=
  ∀ (o : Oper) (ins : List XV) (h : XH) (v : XV) (h' : XH) (a : Act) (w : World) (g : Gx) (ro : Option Nat), g.μ = μ → HR w0 h g w → All2 (fun x v => XV.R (ownX h g) h.K g w x v) ins ((insX o.op).map a.eval) →
    callX E ev o.op ins h = some (v, h') → GiX P ro a w o (WR w0 h g w (some v) h')
section
variable {P : Program} {E : XE} {μ : Int} {w0 : World} {ev : Bool → Run} {g : Gx} {a : Act} {w w' : World} {ro : Option Nat} {h h' : XH}
theorem HR.own_lt (H : HR w0 h g w) : ∀ b o, ownX h g b o → b < w.heap.size := by
  rintro b o ⟨id, blk, hg, hl, rfl⟩
  exact (H.old id blk hg hl).2
theorem XC.cell (C : XC P E μ w0) (H : HR w0 h g w) (hm : g.μ = μ) : w.cell? ⟨E.gml, 0, none⟩ = some (.int .i64 g.μ) := by
  rw [H.below.cell (p := ⟨E.gml, 0, none⟩) C.mlt, C.ml, hm]
theorem opX_cases {op : Op} {ins : List XV} {r : Option XV} {m : XM} (ho : opX E ev op ins h = some (r, h', m)) :
    (m = .no ∧ h' = h ∧ ∃ x, r = some x ∧ opP E op ins = some x) ∨ (m = .rd (idOfX ins) ∧ h' = h ∧ ∃ x, r = some x ∧ opP E op ins = none ∧ opR E op ins h = some x) ∨
    (m = .wr ∧ (opW E op ins h = some (r, h') ∨ ∃ x, r = some x ∧ callX E ev op ins h = some (x, h'))) := by
  unfold opX at ho
  split at ho
  · rename_i v hv; cases ho; exact .inl ⟨rfl, rfl, v, rfl, hv⟩
  · rename_i hP
    split at ho
    · rename_i v hv; cases ho; exact .inr (.inl ⟨rfl, rfl, v, rfl, hP, hv⟩)
    · split at ho
      · rename_i v h1 hw; cases ho; exact .inr (.inr ⟨rfl, .inl hw⟩)
      · split at ho
        · rename_i v h1 hc; cases ho; exact .inr (.inr ⟨rfl, .inr ⟨v, rfl, hc⟩⟩)
        · cases ho
theorem opX_sound (C : XC P E μ w0) (hc : CallXOk P E μ w0 ev) (hm : g.μ = μ) (H : HR w0 h g w) {o : Oper} {ins : List XV} {r : Option XV} {m : XM} (hi : All2 (fun x v => XV.R (ownX h g) h.K g w x v) ins ((insX o.op).map a.eval)) (ho : opX E ev o.op ins h = some (r, h', m)) :
    GiX P ro a w o (WR w0 h g w r h') := by
  have hE : XEOk P E g.μ := by rw [hm]; exact C.ok
  rcases opX_cases ho with ⟨_, rfl, x, rfl, h1⟩ | ⟨_, rfl, x, rfl, _, h1⟩ | ⟨_, h1 | ⟨x, rfl, h1⟩⟩
  · exact (opP_sound hE H.own_lt (C.cell H hm) hi h1).mono fun v w' hp => hp.wr H
  · exact (opR_sound hE H hi h1).mono fun v w' hp => hp.wr H
  · exact opW_sound hE H hi h1
  · exact hc o ins h x h' a w g ro hm H hi h1
theorem opsX_sound (C : XC P E μ w0) (hc : CallXOk P E μ w0 ev) {ops : Array Oper} {Q : Exit → Act → World → Prop} : ∀ (l : List Oper) (S : List XV) (h : XH) (a : Act) (w : World) (g : Gx) (S' : List XV) (h' : XH) (rs : List XRec), g.μ = μ → HR w0 h g w →
    All2 (fun x v => XV.R (ownX h g) h.K g w x v) S a.tmps.toList → opsX E ev ops l S h = some (S', h', rs) →
    (∀ a' w' g', a'.defers = a.defers → HR w0 h' g' w' → Mv (ownX h g) h.K g w (ownX h' g') h'.K g' w' → All2 (fun x v => XV.R (ownX h' g') h'.K g' w' x v) S' a'.tmps.toList → Q .normal a' w') → wpListIn (Wd ro) 0 P ops Q l a w
  | [], S, h, a, w, g, S', h', rs, _, H, hS, ho, hq => by
    simp only [opsX, Option.some.injEq, Prod.mk.injEq] at ho
    obtain ⟨rfl, rfl, rfl⟩ := ho
    exact hq a w g rfl H (Mv.refl _ _ _ _) hS
  | o :: l, S, h, a, w, g, S', h', rs, hm, H, hS, ho, hq => by
    refine wpListIn_step fun K hK => ?_
    unfold opsX at ho
    split at ho
    · rename_i hw
      rw [if_pos (want_x hS hw)]
      split at ho
      · rename_i ins hins
        split at ho
        · rename_i v h1 m hop
          split at ho
          · rename_i S2 h2 l2 hrec
            cases ho
            refine opX_sound C hc hm H (getXs_R hS _ _ hins) hop K Q fun v' w' hwr => ?_
            obtain ⟨g', H', m', hR⟩ := hwr
            refine hK _ _ (opsX_sound C hc l _ _ _ _ g' _ _ _ (by rw [m'.mu, hm]) H' (put_R (hS.mv m') hR) hrec fun a2 w2 g2 hd2 H2 m2 hS2 => hq a2 w2 g2 (by rw [hd2, put_defers]) H2 (m'.trans m2) hS2)
          · cases ho
        · cases ho
      · cases ho
    · rename_i hw
      rw [if_neg (by rw [want_x hS hw]; simp)]
      split at ho
      · rename_i S2 h2 l2 hrec
        cases ho
        refine ⟨fun f _ => wd_all f, hK _ _ (opsX_sound C hc l _ _ _ _ g _ _ _ hm H (put_R hS (by simp only [Option.getD_none, XV.R, XVs.R]; exact ⟨[], rfl, rfl⟩)) hrec fun a2 w2 g2 hd2 H2 m2 hS2 => hq a2 w2 g2 (by rw [hd2, put_defers]) H2 m2 hS2)⟩
      · cases ho
    · cases ho
end
end Go.Proofs.YtocpmekblkfdiaaGreatDoor
