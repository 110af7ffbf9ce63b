/- The abstract walk, fourth part: the values that operations make are as the abstract state says, on. No condition. -/
import Derived.Test.YtdojdghhbjjoeaaAc
namespace Go.Proofs.Ytdojdghhbjjoeaa
open Go.RowKit

section
variable {P : Program} {E : Env} {N : Nat} {X0 : Nat → Nat → Prop} {w0 : World} {s : AS} {a : Act} {w : World} {g : Gh} {who : Nat → Option (Nat × Bool)}

theorem Env.desc_some (hE : EnvOk P E) {t : Nat} {d : TypeDesc} (h : E.desc t = d) (hd : d ≠ .invalid) : ∃ ti, E.tt t = some ti ∧ ti.desc = d ∧ TIOk P t ti := by
  unfold Env.desc at h
  split at h
  · rename_i ti ht; exact ⟨ti, ht, h, hE.tt _ _ ht⟩
  · exact absurd h.symm hd

theorem keepI_val {k : IntKind} {n : Int} (h : (keepI k n).1) : (keepI k n).2 = .int k (k.wrap n) := by
  unfold keepI at h ⊢
  split
  · simp only at h
    rw [show IntKind.i64.wrap n = n from IntWalk.i64_in n ⟨h.1, h.2⟩]
  · rfl

theorem binII_run {op : BinOp} {k : IntKind} {t : Nat} {x y : Int} (hs : isShift op = false) (h : (binII op k x y).1) :
    ∃ v, (binOp op t (.int k x) (.int k y)).run P w = .ok v w ∧ (binII op k x y).2.G g w v := by
  cases op <;> simp only [isShift, Bool.true_eq_false] at hs <;> simp only [binII] at h ⊢
  case add => exact ⟨.int k (k.wrap (x + y)), by simp [binOp, Op.intArith], by rw [keepI_val h]; rfl⟩
  case sub => exact ⟨.int k (k.wrap (x - y)), by simp [binOp, Op.intArith], by rw [keepI_val h]; rfl⟩
  case mul => exact ⟨.int k (k.wrap (x * y)), by simp [binOp, Op.intArith], by rw [keepI_val h]; rfl⟩
  case quo => exact ⟨.int k (k.wrap (x.tdiv y)), by simp [binOp, Op.intDiv, h.1], by rw [keepI_val h.2]; rfl⟩
  case rem => exact ⟨_, by simp [binOp, Op.intDiv, show y ≠ 0 from h], rfl⟩
  case and => exact ⟨.int k (bitsI .and k x y), by unfold binOp; simp only [ne_eq, not_true, if_false]; rfl, rfl⟩
  case or => exact ⟨.int k (bitsI .or k x y), by unfold binOp; simp only [ne_eq, not_true, if_false]; rfl, rfl⟩
  case xor => exact ⟨.int k (bitsI .xor k x y), by unfold binOp; simp only [ne_eq, not_true, if_false]; rfl, rfl⟩
  case andNot => exact ⟨.int k (bitsI .andNot k x y), by unfold binOp; simp only [ne_eq, not_true, if_false]; rfl, rfl⟩
  case eql => exact ⟨.bool (decide (x = y)), by simp [binOp, Op.intCmp]; exact decide_eq_decide.2 Iff.rfl, rfl⟩
  case neq => exact ⟨.bool (!decide (x = y)), by simp [binOp, Op.intCmp, bne]; rfl, rfl⟩
  case lss => exact ⟨_, by simp [binOp, Op.intCmp], rfl⟩
  case leq => exact ⟨_, by simp [binOp, Op.intCmp], rfl⟩
  case gtr => exact ⟨_, by simp [binOp, Op.intCmp], rfl⟩
  case geq => exact ⟨_, by simp [binOp, Op.intCmp], rfl⟩
  all_goals exact h.elim

theorem shiftII_run {op : BinOp} {k k' : IntKind} {t : Nat} {x y : Int} (hs : isShift op = true) (h : (shiftII op k x y).1) :
    ∃ v, (binOp op t (.int k x) (.int k' y)).run P w = .ok v w ∧ (shiftII op k x y).2.G g w v := by
  cases op <;> simp only [isShift, Bool.false_eq_true] at hs <;> simp only [shiftII] at h ⊢
  case shl => exact ⟨_, by simp [binOp, Op.shift, show ¬ y < 0 by omega], rfl⟩
  case shr => exact ⟨_, by simp [binOp, Op.shift, show ¬ y < 0 by omega], rfl⟩

theorem binCV_run (hE : EnvOk P E) {op : BinOp} {t : Nat} {x y : CV} {u v : Value} (hx : x.G g w u) (hy : y.G g w v) (h : (binCV op (E.desc t) x y).1) :
    ∃ r, (binOp op t u v).run P w = .ok r w ∧ (binCV op (E.desc t) x y).2.G g w r := by
  unfold binCV at h ⊢
  split at h
  · rename_i k p k' q
    have e1 : u = .int k p := hx
    have e2 : v = .int k' q := hy
    subst e1 e2
    by_cases hs : isShift op = true
    · rw [if_pos hs] at h
      simp only [if_pos hs]
      exact shiftII_run hs h
    · rw [if_neg hs] at h
      simp only [if_neg hs]
      by_cases hk : k = k'
      · subst hk
        simp only [if_true] at h ⊢
        exact binII_run (by simpa using hs) h
      · rw [if_neg hk] at h; exact h.elim
  · rename_i p q
    have e1 : u = .bool p := hx
    have e2 : v = .bool q := hy
    subst e1 e2
    cases op <;> simp only at h ⊢
    case eql =>
      obtain ⟨ti, ht, hd, hti⟩ := Env.desc_some hE h (by simp)
      exact ⟨_, run_eql_bool _ t p q (by rw [hti.und, hd]), rfl⟩
    case neq =>
      obtain ⟨ti, ht, hd, hti⟩ := Env.desc_some hE h (by simp)
      exact ⟨_, run_neq_bool _ t p q (by rw [hti.und, hd]), rfl⟩
    all_goals exact h.elim
  · exact h.elim

theorem bin_sound (hE : EnvOk P E) (H : Gam N X0 w0 s a w g who) {o : Oper} {op : BinOp} {t u : Nat} {x y : Operand} (ho : o.op = .binOp op t x y u)
    (h : (binAV op (E.desc t) [s.ev x, s.ev y]).1) : Gives P a w o (fun v w' => (binAV op (E.desc t) [s.ev x, s.ev y]).2.G g w' v) := by
  have hx := H.ev x
  have hy := H.ev y
  generalize s.ev x = ax at *
  generalize s.ev y = ay at *
  unfold binAV at h ⊢
  split at h
  · rename_i cx cy hi
    cases hi
    obtain ⟨r, h1, h2⟩ := binCV_run hE (show cx.G g w (a.eval x) from hx) (show cy.G g w (a.eval y) from hy) h
    have hg : (eqGuard op t x y (a.eval x) (a.eval y)).run P w = .ok () w := by
      unfold binCV at h
      split at h
      · rename_i k p k' q
        have e1 : a.eval x = .int k p := hx
        have e2 : a.eval y = .int k' q := hy
        rw [e1, e2]
        cases op <;> simp [eqGuard]
      · rename_i p q
        have e1 : a.eval x = .bool p := hx
        have e2 : a.eval y = .bool q := hy
        rw [e1, e2]
        cases op <;> simp [eqGuard]
      · exact h.elim
    exact gives_value (v := r) (by simp [execOp, ho, hg, h1, Result.andThen]) h2
  · exact h.elim

theorem un_sound (H : Gam N X0 w0 s a w g who) {o : Oper} {op : UnOp} {t : Nat} {x : Operand} (ho : o.op = .unOp op t x)
    (h : (unAV op [s.ev x]).1) : Gives P a w o (fun v w' => (unAV op [s.ev x]).2.G g w' v) := by
  have hx := H.ev x
  generalize s.ev x = ax at *
  unfold unAV at h ⊢
  split at h
  · rename_i b hi
    cases hi
    have e1 : a.eval x = .bool b := hx
    cases op <;> simp only at h ⊢
    case not => exact gives_value (v := .bool (!b)) (by simp [execOp, ho, e1, Op.unary]) rfl
    all_goals exact h.elim
  · rename_i k n hi
    cases hi
    have e1 : a.eval x = .int k n := hx
    cases op <;> simp only at h ⊢
    case neg => exact gives_value (v := .int k (k.wrap (0 - n))) (by simp [execOp, ho, e1, Op.unary, Op.intArith]) (by rw [keepI_val h]; rfl)
    all_goals exact h.elim
  · exact h.elim

theorem conv_sound (hE : EnvOk P E) (H : Gam N X0 w0 s a w g who) {o : Oper} {t u : Nat} {x : Operand} (ho : o.op = .convert t u x)
    (h : (convAV (E.desc t) (E.desc u) [s.ev x]).1) : Gives P a w o (fun v w' => (convAV (E.desc t) (E.desc u) [s.ev x]).2.G g w' v) := by
  have hx := H.ev x
  generalize s.ev x = ax at *
  unfold convAV at h ⊢
  split at h
  · rename_i k n hi
    cases hi
    have e1 : a.eval x = .int k n := hx
    split at h
    · rename_i k' hk
      obtain ⟨t1, _, hd1, h1⟩ := Env.desc_some hE rfl h
      obtain ⟨t2, _, hd2, h2⟩ := Env.desc_some hE hk (by simp)
      have hu := run_underlying (w := w) h1.und
      have hv := run_underlying (w := w) h2.und
      rw [hd2] at hv
      refine gives_value (v := .int k' (k'.wrap n)) ?_ rfl
      simp only [execOp, ho, e1, convert]
      simp only [Sem.run_bind, hu, hv, Result.andThen]
      cases t1.desc <;> rfl
    · exact h.elim
  · exact h.elim

theorem fieldAddr_sound (hE : EnvOk P E) (H : Gam N X0 w0 s a w g who) {o : Oper} {t f : Nat} {x : Operand} (ho : o.op = .fieldAddr t x f)
    (h : (fieldAddrAV E (E.desc t) f [s.ev x]).1) : Gives P a w o (fun v w' => (fieldAddrAV E (E.desc t) f [s.ev x]).2.G g w' v) := by
  have hx := H.ev x
  generalize s.ev x = ax at *
  unfold fieldAddrAV at h ⊢
  split at h
  · rename_i p hi
    cases hi
    split at h
    · rename_i fields hd
      obtain ⟨t1, _, hd1, h1⟩ := Env.desc_some hE hd (by simp)
      have hu := run_underlying (w := w) h1.und
      rw [hd1] at hu
      split at h
      · rename_i fd hf
        split at h
        · rename_i id off
          have e1 : a.eval x = .pointer (some ⟨g.σ id, off, none⟩) := hx
          have hne : E.sz fd.type ≠ 0 := h
          unfold Env.sz at hne
          split at hne
          · rename_i tf htf
            have hs := (hE.tt _ _ htf).size w
            exact gives_value (v := .pointer (some ⟨g.σ id, off + fd.offset, none⟩)) (by simp [execOp, ho, e1, Instr.fieldAt, hu, hf, Instr.sureAddr, fieldPlace, hs, hne, Addr.add_lit, Result.andThen]) rfl
          · exact absurd rfl hne
        · rename_i cs
          obtain ⟨b, off, hp, hcs⟩ := (show ∃ b off, a.eval x = .pointer (some ⟨b, off, none⟩) ∧ cellsP g.X w b off cs from by simpa only [AV.G, A1.G, CV.G, CV.P] using hx)
          have hne : E.sz fd.type ≠ 0 := h.1
          unfold Env.sz at hne
          split at hne
          · rename_i tf htf
            have hs := (hE.tt _ _ htf).size w
            refine gives_value (v := .pointer (some ⟨b, off + fd.offset, none⟩)) (by simp [execOp, ho, hp, Instr.fieldAt, hu, hf, Instr.sureAddr, fieldPlace, hs, hne, Addr.add_lit, Result.andThen]) ?_
            simp only [AV.G, A1.G, CV.G, CV.P]
            exact ⟨b, off + fd.offset, rfl, cellsP_drop _ _ _ _ h.2 hcs⟩
          · exact absurd rfl hne
        · exact h.elim
      · exact h.elim
    · exact h.elim
  · exact h.elim

theorem part_run {ti : TI} {t : Nat} (ht : TIOk P t ti) {cs : List CV} {vs : List Value} (off : Nat) (h : All2 (fun c v => CV.G g w c v) cs vs) (hle : off + ti.size ≤ cs.length) :
    ∃ v, (part t vs.toArray off).run P w = .ok v w ∧ (ofCells ti.agg ((cs.drop off).take ti.size)).G g w v := by
  have h1 := (h.drop off).take ti.size
  have hl := h.len
  obtain ⟨ga, gb⟩ := ofCells_G (g := g) (w := w) (agg := ti.agg) h1
  cases hag : ti.agg with
  | true =>
    rw [hag] at ga
    refine ⟨.agg ((vs.drop off).take ti.size).toArray, ?_, ga rfl⟩
    simp only [part, Sem.run_bind, ht.agg, hag, ht.size, Result.andThen, if_true, Sem.run_pure]
    congr 2
    apply Array.ext'
    simp [List.extract_eq_take_drop]
  | false =>
    rw [hag] at gb
    have h1s := ht.one hag
    rw [h1s] at hle gb ⊢
    have hv : vs[off]? = some (vs[off]'(by omega)) := List.getElem?_eq_getElem (by omega)
    refine ⟨vs[off]'(by omega), ?_, gb rfl _ ?_⟩
    · simp [part, ht.agg, hag, Result.andThen, List.getElem?_eq_getElem (show off < vs.length by omega)]
    · rw [List.drop_eq_getElem_cons (by omega)]; rfl

theorem field_sound (hE : EnvOk P E) (H : Gam N X0 w0 s a w g who) {o : Oper} {t f : Nat} {x : Operand} (ho : o.op = .field t x f)
    (h : (fieldAV E (E.desc t) f [s.ev x]).1) : Gives P a w o (fun v w' => (fieldAV E (E.desc t) f [s.ev x]).2.G g w' v) := by
  have hx := H.ev x
  generalize s.ev x = ax at *
  unfold fieldAV at h ⊢
  split at h
  · rename_i cs hi
    cases hi
    split at h
    · rename_i fields hd
      obtain ⟨t1, _, hd1, h1⟩ := Env.desc_some hE hd (by simp)
      have hu := run_underlying (w := w) h1.und
      rw [hd1] at hu
      split at h
      · rename_i fd hf
        split at h
        · rename_i ti hti
          obtain ⟨vs, e1, hvs⟩ := (show ∃ vs : List Value, a.eval x = .agg vs.toArray ∧ All2 (fun c v => CV.G g w c v) cs vs from hx)
          obtain ⟨v, hr, hG⟩ := part_run (hE.tt _ _ hti) fd.offset hvs h
          exact gives_value (v := v) (by simp [execOp, ho, e1, Instr.field, hu, hf, asAgg, hr, Result.andThen]) hG
        · exact h.elim
      · exact h.elim
    · exact h.elim
  · exact h.elim

theorem ext_sound (H : Gam N X0 w0 s a w g who) {o : Oper} {i : Nat} {x : Operand} (ho : o.op = .extract x i)
    (h : (extAV i [s.ev x]).1) : Gives P a w o (fun v w' => (extAV i [s.ev x]).2.G g w' v) := by
  have hx := H.ev x
  generalize s.ev x = ax at *
  unfold extAV at h ⊢
  split at h
  · rename_i l hi
    cases hi
    split at h
    · rename_i e he
      obtain ⟨vs, e1, hvs⟩ := (show ∃ vs : List Value, a.eval x = .tuple vs.toArray ∧ All2 (fun c v => A1.G g w c v) l vs from hx)
      obtain ⟨v, hv, hG⟩ := hvs.get he
      exact gives_value (v := v) (by simp [execOp, ho, e1, Instr.extract, hv]) hG
    · exact h.elim
  · exact h.elim

theorem nil_sound (H : Gam N X0 w0 s a w g who) {o : Oper} {x : Operand} (ho : o.op = .nilCheck x)
    (h : (nilAV [s.ev x]).1) : Gives P a w o (fun v w' => (nilAV [s.ev x]).2.G g w' v) := by
  have hx := H.ev x
  generalize s.ev x = ax at *
  unfold nilAV at h ⊢
  split at h
  · rename_i id off hi
    cases hi
    have e1 : a.eval x = .pointer (some ⟨g.σ id, off, none⟩) := hx
    exact gives_value (v := .pointer (some ⟨g.σ id, off, none⟩)) (by simp [execOp, ho, e1]) rfl
  · rename_i cs hi
    cases hi
    have hx' := hx
    obtain ⟨b, off, hp, hcs⟩ := (show ∃ b off, a.eval x = .pointer (some ⟨b, off, none⟩) ∧ cellsP g.X w b off cs from by simpa only [AV.G, A1.G, CV.G, CV.P] using hx)
    exact gives_value (v := .pointer (some ⟨b, off, none⟩)) (by simp [execOp, ho, hp]) (by rw [← hp]; exact hx')
  · exact h.elim

theorem idx_sound (hE : EnvOk P E) (H : Gam N X0 w0 s a w g who) {o : Oper} {t : Nat} {x i : Operand} (ho : o.op = .indexAddr t x i)
    (h : (idxAV (E.desc t) E [s.ev x, s.ev i]).1) : Gives P a w o (fun v w' => (idxAV (E.desc t) E [s.ev x, s.ev i]).2.G g w' v) := by
  have hx := H.ev x
  have hi := H.ev i
  generalize s.ev x = ax at *
  generalize s.ev i = ai at *
  unfold idxAV at h ⊢
  split at h
  · rename_i cx k n hh
    cases hh
    have ei : a.eval i = .int k n := hi
    split at h
    · rename_i e hd
      obtain ⟨t1, _, hd1, h1⟩ := Env.desc_some hE hd (by simp)
      have hu := run_underlying (w := w) h1.und
      rw [hd1] at hu
      split at h
      · rename_i te ht
        have hsz := (hE.tt _ _ ht).size w
        split at h
        · rename_i own tt rows
          obtain ⟨hs, h0, hlt⟩ := h
          obtain ⟨ao, cap, hv, _, _, hc⟩ := (show ∃ (ao : Option Addr) (cap : Nat), a.eval x = .slice ao rows.length cap ∧ rows.length ≤ cap ∧ (ao = none → cap = 0) ∧ (0 < rows.length → ∃ b off, ao = some ⟨b, off, none⟩ ∧ rowsP g.X w b off tt rows) from by
            have := (show CV.G g w (.sl own tt rows) (a.eval x) from hx).1
            simpa only [CV.P] using this)
          obtain ⟨b, off, rfl, hr⟩ := hc (by omega)
          have hcell := rowsP_get n.toNat rows b off (by omega) hr
          refine gives_value (v := .pointer (some ⟨b, off + n.toNat * tt, none⟩)) ?_ ?_
          · simp [execOp, ho, hv, ei, Instr.indexAt, asIntOf, hu, hsz, hs, Result.andThen, h0, hlt, Addr.add_lit]
          · simp only [AV.G, A1.G, CV.G, CV.P]
            exact ⟨b, _, rfl, hcell⟩
        · rename_i own xs
          obtain ⟨hs, h0, hlt⟩ := h
          obtain ⟨ao, cap, hv, _, _, _, hc⟩ := (show CV.G g w (.lim own xs) (a.eval x) from hx).1
          obtain ⟨b, off, rfl, hr⟩ := hc (by omega)
          refine gives_value (v := .pointer (some ⟨b, off + n.toNat, none⟩)) ?_ ?_
          · simp [execOp, ho, hv, ei, Instr.indexAt, asIntOf, hu, hsz, hs, Result.andThen, h0, hlt, Addr.add_lit]
          · simp only [AV.G, A1.G, CV.G, CV.P, cellsP]
            exact ⟨b, _, rfl, ⟨_, hr n.toNat (by omega), rfl⟩, trivial⟩
        · rename_i id m
          obtain ⟨h0, hlt⟩ := h
          obtain ⟨ao, hv, hao⟩ := (show CV.G g w (.rf id m) (a.eval x) from hx)
          have ea : ao = some ⟨g.σ id, 0, none⟩ := by
            rcases hao with ⟨_, h2, _⟩ | h2
            · omega
            · exact h2
          subst ea
          refine gives_value (v := .pointer (some ⟨g.σ id, n.toNat * te.size, none⟩)) ?_ rfl
          simp [execOp, ho, hv, ei, Instr.indexAt, asIntOf, hu, hsz, Result.andThen, h0, hlt, Addr.add_lit]
        · exact h.elim
      · exact h.elim
    · exact h.elim
  · exact h.elim

end
end Go.Proofs.Ytdojdghhbjjoeaa
