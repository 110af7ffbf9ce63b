/- The abstract walk, seventh part: an operation's whole effect; regions in the text's order; code; functions. No condition. -/
import Derived.Test.YtdojdghhbjjoeaaAs
namespace Go.Proofs.Ytdojdghhbjjoeaa
open Go.RowKit

section
variable {P : Program} {E : Env} {X0 : Nat → Nat → Prop} {w0 : World} {s : AS} {a : Act} {w : World} {g : Gh} {who : Nat → Option (Nat × Bool)}

theorem act_sound (hE : EnvOk P E) (H : Gam E.N X0 w0 s a w g who) (o : Oper) (h : (actOf E o s).1) (Q : Exit → Act → World → Prop) (K : Act → World → Prop)
    (hk : ∀ a' w' g' who', Gam E.N X0 w0 ((actOf E o s).2 ++ s) a' w' g' who' → K a' w') : o.wp P a w K Q := by
  have hval : ∀ (d : Nat), o.dst = some d → (d < E.N ∧ (valOf E o.op ((insOf o.op).map s.ev) ((needsOf E o.op ((insOf o.op).map s.ev)).map fun r => s.get r.1 r.2)).1) →
      (∀ a' w' g' who', Gam E.N X0 w0 ((d, 0, .av (valOf E o.op ((insOf o.op).map s.ev) ((needsOf E o.op ((insOf o.op).map s.ev)).map fun r => s.get r.1 r.2)).2) :: s) a' w' g' who' → K a' w') → o.wp P a w K Q := by
    intro d hd hh hk'
    refine val_sound hE H o hh.2 Q K fun v w' hb hG => ?_
    rw [hd]
    exact hk' _ _ g who (H.put hh.1 hb (fun av e => by cases e; exact hG) (.inl ⟨_, rfl⟩))
  have hnon : o.dst = none → (valOf E o.op ((insOf o.op).map s.ev) ((needsOf E o.op ((insOf o.op).map s.ev)).map fun r => s.get r.1 r.2)).1 →
      (∀ a' w' g' who', Gam E.N X0 w0 s a' w' g' who' → K a' w') → o.wp P a w K Q := by
    intro hd hh hk'
    refine val_sound hE H o hh Q K fun v w' hb hG => ?_
    rw [hd]
    exact hk' _ _ g who (H.grow hb)
  unfold actOf effOf at h hk
  cases ho : o.op
  case alloc t =>
    cases hd : o.dst with
    | none => rw [ho, hd] at h; simp only [valOf] at h; exact h.elim
    | some d =>
      rw [ho, hd] at h hk
      simp only at h hk
      split at h
      · rename_i ti ht
        simp only [ht] at hk
        have hti := hE.tt _ _ ht
        have hz1 := A1.P.toG (g := g) (hti.z1 g.X w)
        rw [hti.z1s] at hz1
        obtain ⟨us, hu, hcs⟩ := A1.G.cells hz1
        have hm : ∀ c ∈ ti.z1.cells, c.men d = false := by
          intro c hc
          have hst := hti.z1s
          cases hz : ti.z1 with
          | cel x => rw [hz] at hc hst; simp only [A1.cells, List.mem_singleton] at hc; subst hc; simp only [A1.strip, A1.cel.injEq] at hst; exact CV.strip_men hst d
          | agg l => rw [hz] at hc hst; simp only [A1.cells] at hc; simp only [A1.strip, A1.agg.injEq] at hst; exact CV.strip_men (map_self hst c hc) d
        have hr : (execOp a.eval o).run P w = .ok (.value (.pointer (some ⟨w.heap.size, 0, none⟩))) (w.alloc (.cells us.toArray t)) := by
          simp [execOp, ho, Instr.alloc, hti.zero, Result.andThen, newVar, newRow, hu]
        unfold Oper.wp
        rw [hr, Oper.upon_value, hd]
        exact hk _ _ _ _ (H.alloc h.1 h.2 hcs hm t)
      · exact h.elim
  case box t x =>
    cases hd : o.dst with
    | none => rw [ho, hd] at h; simp only [valOf] at h; exact h.elim
    | some d =>
      rw [ho, hd] at h hk
      simp only [insOf, List.map_cons, List.map_nil] at h hk
      have hx := H.ev x
      generalize s.ev x = ax at *
      split at h
      · rename_i av hi
        cases hi
        simp only at hk
        obtain ⟨us, hu, hcs⟩ := A1.G.cells (show av.G g w (a.eval x) from hx)
        have hm : ∀ c ∈ av.cells, c.men d = false := by
          intro c hc
          have hst := h.2.2
          cases av with
          | cel y => simp only [A1.cells, List.mem_singleton] at hc; subst hc; exact hst
          | agg l =>
            simp only [A1.cells] at hc
            simp only [A1.men, List.any_eq_false] at hst
            simpa using hst c hc
        have hr : (execOp a.eval o).run P w = .ok (.value (.pointer (some ⟨w.heap.size, 0, none⟩))) (w.alloc (.cells us.toArray t)) := by
          simp [execOp, ho, Instr.box, Result.andThen, newVar, newRow, hu]
        unfold Oper.wp
        rw [hr, Oper.upon_value, hd]
        exact hk _ _ _ _ (H.alloc h.1 h.2.1 hcs hm t)
      · exact h.elim
  case store t x y =>
    cases hd : o.dst with
    | some d => rw [ho, hd] at h; simp only [valOf] at h; exact h.2.elim
    | none =>
      rw [ho, hd] at h hk
      simp only [insOf, List.map_cons, List.map_nil] at h hk
      have hx := H.ev x
      have hy := H.ev y
      generalize s.ev x = ax at *
      generalize s.ev y = ay at *
      split at h
      · rename_i ti id off av ht hi
        cases hi
        simp only [ht] at hk
        have hti := hE.tt _ _ ht
        split at h
        · rename_i cs0 hcs0
          simp only [hcs0] at hk
          obtain ⟨us, hu, hcs⟩ := A1.G.cells (show av.G g w (a.eval y) from hy)
          have hp : a.eval x = .pointer (some ⟨g.σ id, off, none⟩) := hx
          have hlen : av.cells.length = ti.size := h
          have hall : ∀ j, j < av.cells.length → ∃ c, s.get id (off + 1 + j) = some (.cv c) := by
            intro j hj
            have e1 : E.sz t = ti.size := by simp [Env.sz, ht]
            simp only [needsOf, e1] at hcs0
            exact cvs_all _ _ _ _ hcs0 j (by omega)
          have hcell : ∀ j, j < us.length → (w.cell? ⟨g.σ id, off + j, none⟩).isSome = true ∧ w.frozen? ⟨g.σ id, off + j, none⟩ = false := by
            intro j hj
            obtain ⟨c, hc⟩ := hall j (by rw [hcs.len]; exact hj)
            obtain ⟨_, _, _, _, _, h6, v, h7, _⟩ := H.res _ _ _ hc
            rw [show off + 1 + j - 1 = off + j by omega] at h6 h7
            exact ⟨by rw [h7]; rfl, h6⟩
          have hst := run_storeCells_cells (P := P) (g.σ id) off us 0 w (fun j hj => by simpa using (hcell j hj).1) (fun j hj => by simpa using (hcell j hj).2)
            (fun v hv => by obtain ⟨c, _, hG⟩ := all2_mem_right hcs v hv; exact notAgg_one hG.flat)
          have hr : (execOp a.eval o).run P w = .ok .skip (w.setCells (g.σ id) off us) := by
            simp [execOp, ho, Instr.storeAt, Instr.sureAddr, hp, storeVar, hu, hti.size, Result.andThen, ← hlen, ← hcs.len, hst]
          unfold Oper.wp
          rw [hr, Oper.upon_skip, hd]
          exact hk _ _ _ _ (H.store hcs hall)
        · exact h.elim
      · rename_i ti id t' i av ht hi
        cases hi
        simp only [ht] at hk
        have hti := hE.tt _ _ ht
        simp only [needsOf, List.map_cons, List.map_nil] at h hk
        split at h
        · rename_i c hc
          have hid : s.get id 1 = some (.row c) := by simpa using hc
          simp only [hid] at hk
          obtain ⟨rfl, h2, h3, h4⟩ := h
          obtain ⟨us, hu, hcs⟩ := A1.G.cells (show av.G g w (a.eval y) from hy)
          have hp : a.eval x = .pointer (some ⟨g.σ id, i * c.t, none⟩) := hx
          obtain ⟨q1, q2, q3, HG⟩ := H.rowSet hid h3 hcs h4
          obtain ⟨_, _, _, hown, _⟩ := H.res _ _ _ hid
          obtain ⟨_, _, _, k4⟩ := hown q2
          have hst := run_storeCells_cells (P := P) (g.σ id) (i * c.t) us 0 w (fun j hj => by simpa using (k4 _ (by omega)).2.2) (fun j hj => by simpa using (k4 _ (by omega)).2.1)
            (fun v hv => by obtain ⟨c, _, hG⟩ := all2_mem_right hcs v hv; exact notAgg_one hG.flat)
          rw [Nat.add_zero, ← q1] at hst
          have hr : (execOp a.eval o).run P w = .ok .skip (w.setCells (g.σ id) (i * c.t) us) := by
            simp [execOp, ho, Instr.storeAt, Instr.sureAddr, hp, storeVar, hu, hti.size, Result.andThen, h2, ← q1, hst]
          unfold Oper.wp
          rw [hr, Oper.upon_skip, hd]
          exact hk _ _ _ _ HG
        · exact h.elim
      · exact h.elim
  case makeSlice t l c =>
    cases hd : o.dst with
    | none => rw [ho, hd] at h; simp only [valOf] at h; exact h.elim
    | some d =>
      rw [ho, hd] at h hk
      exact make_sound hE H ho hd h hk
  case buildSlice t n ps =>
    cases hd : o.dst with
    | none => rw [ho] at h hk hnon; rw [hd] at h hk; cases n <;> exact hnon hd h hk
    | some d =>
      cases n with
      | zero =>
        rw [ho, hd] at h hk
        exact empty_sound hE H ho hd h.1 h.2 hk
      | succ n =>
        rw [ho] at h hk hval
        rw [hd] at h hk
        exact hval d hd h hk
  case call c =>
    obtain ⟨callee, args, ts⟩ := c
    cases hd : o.dst with
    | none =>
      cases callee with
      | builtin b => cases b <;> (rw [ho] at h hk hnon; rw [hd] at h hk; exact hnon hd h hk)
      | _ => rw [ho] at h hk hnon; rw [hd] at h hk; exact hnon hd h hk
    | some d =>
      cases callee with
      | builtin b =>
        cases b
        case append =>
          rw [ho] at h hk
          rw [hd] at h hk
          exact app_sound hE H ho hd (by rw [ho]; exact h) (by rw [ho]; exact hk)
        all_goals
          rw [ho] at h hk hval
          rw [hd] at h hk
          exact hval d hd h hk
      | _ =>
        rw [ho] at h hk hval
        rw [hd] at h hk
        exact hval d hd h hk
  all_goals
    rw [ho] at h hk hval hnon
    cases hd : o.dst with
    | none => rw [hd] at h hk; exact hnon hd h hk
    | some d => rw [hd] at h hk; exact hval d hd h hk

end

/-! regions whose order is the text's -/

def boolAt (ops : Array Oper) (s : AS) (j : Nat) : Option (Nat × Bool) :=
  match ops[j]? with
  | some o => match o.dst with
    | some t => match s.get t 0 with
      | some (.av (.one (.cel (.bool b)))) => some (t, b)
      | _ => none
    | none => none
  | none => none

def skipOf (o : Oper) : AS :=
  match o.dst with
  | some d => [(d, 0, .av .und)]
  | none => []

/-- where an operation of a region lays its answer -/
def slotAt (ops : Array Oper) (j : Nat) : Option Nat :=
  match ops[j]? with
  | some o => o.dst
  | none => none

/-- is the slot known to hold nothing? -/
def undAt (s : AS) : Option Nat → Bool
  | some t => match s.get t 0 with
    | some (.av .und) => true
    | _ => false
  | none => false

def dstOk (E : Env) (o : Oper) : Prop :=
  match o.dst with
  | some d => d < E.N
  | none => True

/-- one operation of a region, its guard before it -/
def stepA (E : Env) (ops : Array Oper) (o : Oper) (s : AS) (K : AS → Prop) : Prop :=
  match o.guard with
  | none => (actOf E o s).1 ∧ K ((actOf E o s).2 ++ s)
  | some (j, want) => match boolAt ops s j with
    | some (t, b) => (b = want → (actOf E o (s.setv t (.av (.cel (.bool want))))).1 ∧ K ((actOf E o (s.setv t (.av (.cel (.bool want))))).2 ++ (s.setv t (.av (.cel (.bool want)))))) ∧
        (b = !want → dstOk E o ∧ K (skipOf o ++ (s.setv t (.av (.cel (.bool (!want)))))))
    | none => undAt s (slotAt ops j) = true ∧ dstOk E o ∧ K (skipOf o ++ s)

def awpOps (E : Env) (ops : Array Oper) : List Oper → AS → (AS → Prop) → Prop
  | [], s, K => K s
  | o :: r, s, K => stepA E ops o s fun s' => awpOps E ops r s' K

section
variable {P : Program} {E : Env} {X0 : Nat → Nat → Prop} {w0 : World} {s : AS} {a : Act} {w : World} {g : Gh} {who : Nat → Option (Nat × Bool)}

theorem Gam.same {N : Nat} {s' : AS} (H : Gam N X0 w0 s a w g who) (h : ∀ n k r, s'.get n k = some r → s.get n k = some r) : Gam N X0 w0 s' a w g who :=
  ⟨H.defers, H.size, H.below, H.sub, H.sup, H.lt, fun n k r hr => H.res n k r (h n k r hr)⟩

theorem Gam.skip (H : Gam E.N X0 w0 s a w g who) {o : Oper} (hd : dstOk E o) : Gam E.N X0 w0 (skipOf o ++ s) (a.put o.dst undef) w g who := by
  unfold skipOf
  unfold dstOk at hd
  cases h : o.dst with
  | none => exact H
  | some d =>
    rw [h] at hd
    exact H.put hd (Below.refl _ _) (fun av e => by cases e; rfl) (.inl ⟨_, rfl⟩)

theorem boolAt_yielded {N : Nat} {ops : Array Oper} {j t : Nat} {b : Bool} (H : Gam N X0 w0 s a w g who) (h : boolAt ops s j = some (t, b)) :
    yielded ops a.tmps j = some b ∧ s.get t 0 = some (.av (.one (.cel (.bool b)))) := by
  unfold boolAt at h
  split at h
  · rename_i o ho
    split at h
    · rename_i t' hd
      split at h
      · rename_i b' hg
        cases h
        obtain ⟨_, h2, h3⟩ := H.res _ _ _ hg
        have e : a.tmps.getD t undef = .bool b := h3
        refine ⟨?_, hg⟩
        rw [Array.getD_eq_getD_getElem?, Array.getElem?_eq_getElem h2] at e
        simp [yielded, ho, hd, Array.getElem?_eq_getElem h2, show a.tmps[t] = Value.bool b from e]
      · cases h
    · cases h
  · cases h

theorem und_yielded {N : Nat} {ops : Array Oper} {j : Nat} (H : Gam N X0 w0 s a w g who) (h : undAt s (slotAt ops j) = true) : yielded ops a.tmps j = none := by
  unfold undAt slotAt at h
  split at h
  · rename_i t ht
    split at ht
    · rename_i o ho
      split at h
      · rename_i hg
        obtain ⟨_, h2, h3⟩ := H.res _ _ _ hg
        have e : a.tmps.getD t undef = undef := h3
        rw [Array.getD_eq_getD_getElem?, Array.getElem?_eq_getElem h2] at e
        simp [yielded, ho, ht, Array.getElem?_eq_getElem h2, show a.tmps[t] = undef from e, undef]
      · cases h
    · cases ht
  · cases h

theorem stepA_sound (hE : EnvOk P E) {ops : Array Oper} {o : Oper} {KA : AS → Prop} (H : Gam E.N X0 w0 s a w g who) (h : stepA E ops o s KA) (Q : Exit → Act → World → Prop) (K : Act → World → Prop)
    (hk : ∀ s' a' w' g' who', KA s' → Gam E.N X0 w0 s' a' w' g' who' → K a' w') :
    if Region.wanted o (yielded ops a.tmps) then o.wp P a w K Q else K (a.put o.dst undef) w := by
  unfold stepA at h
  split at h
  · rename_i hg
    rw [if_pos (by simp [Region.wanted, hg])]
    exact act_sound hE H o h.1 Q K fun a' w' g' who' H' => hk _ _ _ _ _ h.2 H'
  · rename_i j want hg
    split at h
    · rename_i t b hb
      obtain ⟨hy, hget⟩ := boolAt_yielded H hb
      by_cases hbw : b = want
      · subst hbw
        rw [if_pos (by simp [Region.wanted, hg, hy])]
        have hh := h.1 rfl
        rw [AS.setv_eq hget] at hh
        exact act_sound hE H o hh.1 Q K fun a' w' g' who' H'' => hk _ _ _ _ _ hh.2 H''
      · have hbn : b = !want := by cases b <;> cases want <;> simp_all
        subst hbn
        rw [if_neg (by simp [Region.wanted, hg, hy])]
        obtain ⟨hd, hK⟩ := h.2 rfl
        rw [AS.setv_eq hget] at hK
        exact hk _ _ _ _ _ hK (H.skip hd)
    · obtain ⟨hu, hd, hK⟩ := h
      rw [if_neg (by simp [Region.wanted, hg, und_yielded H hu])]
      exact hk _ _ _ _ _ hK (H.skip hd)

theorem awpOps_sound (hE : EnvOk P E) {ops : Array Oper} {KA : AS → Prop} {Q : Exit → Act → World → Prop} : ∀ (l : List Oper) {s : AS} {a : Act} {w : World} {g : Gh} {who : Nat → Option (Nat × Bool)}, Gam E.N X0 w0 s a w g who → awpOps E ops l s KA →
    (∀ s' a' w' g' who', KA s' → Gam E.N X0 w0 s' a' w' g' who' → Q .normal a' w') → wpList P ops Q l a w
  | [], _, _, _, _, _, H, h, hk => hk _ _ _ _ _ h H
  | _ :: l, _, _, _, _, _, H, h, hk =>
    wpList_step fun K hK => stepA_sound hE H h Q K fun _ _ _ _ _ hs H' => hK _ _ (awpOps_sound hE l H' hs hk)

end
end Go.Proofs.Ytdojdghhbjjoeaa

