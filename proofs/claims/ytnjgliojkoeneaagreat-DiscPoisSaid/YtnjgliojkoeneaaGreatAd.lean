/- The abstract walk, fourth part: the values that operations make are as the abstract state says, on. No condition. The abstract walk, fifth part: struct and slice literals, calls. No condition. The abstract walk, sixth part: an operation's whole effect; regions whose order is the text's; code. No condition. -/
import Derived.Test.YtnjgliojkoeneaaGreatAa
import Derived.Great.BuildSlice
namespace Go.Proofs.YtnjgliojkoeneaaGreat
open Go.RowKit
section
variable {P : Program} {E : Env} {N : Nat} {X0 : Nat → Nat → Prop} {w0 : World} {s : AS} {a : Act} {w : World} {g : Gh} {who : Nat → Option (Nat × Bool)}
theorem Env.desc_some (hE : EnvOk P E) {t : Nat} {d : TypeDesc} (h : E.desc t = d) (hd : d ≠ .invalid) : ∃ ti, E.tt t = some ti ∧ ti.desc = d ∧ TIOk P t ti := by
  unfold Env.desc at h
  split at h
  · rename_i ti ht; exact ⟨ti, ht, h, hE.tt _ _ ht⟩
  · exact absurd h.symm hd
theorem keepI_val {k : IntKind} {n : Int} (h : (keepI k n).1) : (keepI k n).2 = .int k (k.wrap n) := by
  unfold keepI at h ⊢
  split
  · simp only at h
    rw [show IntKind.i64.wrap n = n from IntWalk.i64_in n ⟨h.1, h.2⟩]
  · rfl
theorem binII_run {op : BinOp} {k : IntKind} {t : Nat} {x y : Int} (hs : isShift op = false) (h : (binII op k x y).1) :
    ∃ v, (binOp op t (.int k x) (.int k y)).run P w = .ok v w ∧ (binII op k x y).2.G g w v := by
  cases op <;> simp only [isShift, Bool.true_eq_false] at hs <;> simp only [binII] at h ⊢
  case add => exact ⟨.int k (k.wrap (x + y)), by simp [binOp, Op.intArith], by rw [keepI_val h]; rfl⟩
  case sub => exact ⟨.int k (k.wrap (x - y)), by simp [binOp, Op.intArith], by rw [keepI_val h]; rfl⟩
  case mul => exact ⟨.int k (k.wrap (x * y)), by simp [binOp, Op.intArith], by rw [keepI_val h]; rfl⟩
  case quo => exact ⟨.int k (k.wrap (x.tdiv y)), by simp [binOp, Op.intDiv, h.1], by rw [keepI_val h.2]; rfl⟩
  case rem => exact ⟨_, by simp [binOp, Op.intDiv, show y ≠ 0 from h], rfl⟩
  case and => exact ⟨.int k (bitsI .and k x y), by unfold binOp; simp only [ne_eq, not_true, if_false]; rfl, rfl⟩
  case or => exact ⟨.int k (bitsI .or k x y), by unfold binOp; simp only [ne_eq, not_true, if_false]; rfl, rfl⟩
  case xor => exact ⟨.int k (bitsI .xor k x y), by unfold binOp; simp only [ne_eq, not_true, if_false]; rfl, rfl⟩
  case andNot => exact ⟨.int k (bitsI .andNot k x y), by unfold binOp; simp only [ne_eq, not_true, if_false]; rfl, rfl⟩
  case eql => exact ⟨.bool (decide (x = y)), by simp [binOp, Op.intCmp]; exact decide_eq_decide.2 Iff.rfl, rfl⟩
  case neq => exact ⟨.bool (!decide (x = y)), by simp [binOp, Op.intCmp, bne]; rfl, rfl⟩
  case lss => exact ⟨_, by simp [binOp, Op.intCmp], rfl⟩
  case leq => exact ⟨_, by simp [binOp, Op.intCmp], rfl⟩
  case gtr => exact ⟨_, by simp [binOp, Op.intCmp], rfl⟩
  case geq => exact ⟨_, by simp [binOp, Op.intCmp], rfl⟩
  all_goals exact h.elim
theorem shiftII_run {op : BinOp} {k k' : IntKind} {t : Nat} {x y : Int} (hs : isShift op = true) (h : (shiftII op k x y).1) :
    ∃ v, (binOp op t (.int k x) (.int k' y)).run P w = .ok v w ∧ (shiftII op k x y).2.G g w v := by
  cases op <;> simp only [isShift, Bool.false_eq_true] at hs <;> simp only [shiftII] at h ⊢
  case shl => exact ⟨_, by simp [binOp, Op.shift, show ¬ y < 0 by omega], rfl⟩
  case shr => exact ⟨_, by simp [binOp, Op.shift, show ¬ y < 0 by omega], rfl⟩
theorem binCV_run (hE : EnvOk P E) {op : BinOp} {t : Nat} {x y : CV} {u v : Value} (hx : x.G g w u) (hy : y.G g w v) (h : (binCV op (E.desc t) x y).1) :
    ∃ r, (binOp op t u v).run P w = .ok r w ∧ (binCV op (E.desc t) x y).2.G g w r := by
  unfold binCV at h ⊢
  split at h
  · rename_i k p k' q
    have e1 : u = .int k p := hx
    have e2 : v = .int k' q := hy
    subst e1 e2
    by_cases hs : isShift op = true
    · rw [if_pos hs] at h
      simp only [if_pos hs]
      exact shiftII_run hs h
    · rw [if_neg hs] at h
      simp only [if_neg hs]
      by_cases hk : k = k'
      · subst hk
        simp only [if_true] at h ⊢
        exact binII_run (by simpa using hs) h
      · rw [if_neg hk] at h; exact h.elim
  · rename_i p q
    have e1 : u = .bool p := hx
    have e2 : v = .bool q := hy
    subst e1 e2
    cases op <;> simp only at h ⊢
    case eql =>
      obtain ⟨ti, ht, hd, hti⟩ := Env.desc_some hE h (by simp)
      exact ⟨_, run_eql_bool _ t p q (by rw [hti.und, hd]), rfl⟩
    case neq =>
      obtain ⟨ti, ht, hd, hti⟩ := Env.desc_some hE h (by simp)
      exact ⟨_, run_neq_bool _ t p q (by rw [hti.und, hd]), rfl⟩
    all_goals exact h.elim
  · exact h.elim
theorem wrap_sound (H : Gam N X0 w0 s a w g who) {o : Oper} {op : BinOp} {t u : Nat} {x y : Operand} (ho : o.op = .binOp op t x y u) (hb : ((binAV op (E.desc t) [s.ev x, s.ev y]).1 → Gives P a w o (fun v w' => (binAV op (E.desc t) [s.ev x, s.ev y]).2.G g w' v)))
    (h : (binW op (E.desc t) [s.ev x, s.ev y]).1) : Gives P a w o (fun v w' => (binW op (E.desc t) [s.ev x, s.ev y]).2.G g w' v) := by
  have hx := H.ev x
  have hy := H.ev y
  generalize s.ev x = ax at *
  generalize s.ev y = ay at *
  unfold binW at h ⊢
  split at h
  · rename_i k p k' q hi
    simp only [List.cons.injEq, and_true] at hi
    obtain ⟨rfl, rfl⟩ := hi
    have hk : k = k' := h
    subst hk
    have e1 : a.eval x = .int k p := hx
    have e2 : a.eval y = .int k q := hy
    refine gives_value (v := .int k (k.wrap (p - q))) ?_ rfl
    simp [execOp, ho, e1, e2, binOp, Op.intArith, eqGuard]
  · exact hb h
theorem bin_sound (hE : EnvOk P E) (H : Gam N X0 w0 s a w g who) {o : Oper} {op : BinOp} {t u : Nat} {x y : Operand} (ho : o.op = .binOp op t x y u)
    (h : (binAV op (E.desc t) [s.ev x, s.ev y]).1) : Gives P a w o (fun v w' => (binAV op (E.desc t) [s.ev x, s.ev y]).2.G g w' v) := by
  have hx := H.ev x
  have hy := H.ev y
  generalize s.ev x = ax at *
  generalize s.ev y = ay at *
  unfold binAV at h ⊢
  split at h
  · rename_i cx cy hi
    cases hi
    obtain ⟨r, h1, h2⟩ := binCV_run hE (show cx.G g w (a.eval x) from hx) (show cy.G g w (a.eval y) from hy) h
    have hg : (eqGuard op t x y (a.eval x) (a.eval y)).run P w = .ok () w := by
      unfold binCV at h
      split at h
      · rename_i k p k' q
        have e1 : a.eval x = .int k p := hx
        have e2 : a.eval y = .int k' q := hy
        rw [e1, e2]
        cases op <;> simp [eqGuard]
      · rename_i p q
        have e1 : a.eval x = .bool p := hx
        have e2 : a.eval y = .bool q := hy
        rw [e1, e2]
        cases op <;> simp [eqGuard]
      · exact h.elim
    exact gives_value (v := r) (by simp [execOp, ho, hg, h1, Result.andThen]) h2
  · exact h.elim
theorem un_sound (H : Gam N X0 w0 s a w g who) {o : Oper} {op : UnOp} {t : Nat} {x : Operand} (ho : o.op = .unOp op t x)
    (h : (unAV op [s.ev x]).1) : Gives P a w o (fun v w' => (unAV op [s.ev x]).2.G g w' v) := by
  have hx := H.ev x
  generalize s.ev x = ax at *
  unfold unAV at h ⊢
  split at h
  · rename_i b hi
    cases hi
    have e1 : a.eval x = .bool b := hx
    cases op <;> simp only at h ⊢
    case not => exact gives_value (v := .bool (!b)) (by simp [execOp, ho, e1, Op.unary]) rfl
    all_goals exact h.elim
  · rename_i k n hi
    cases hi
    have e1 : a.eval x = .int k n := hx
    cases op <;> simp only at h ⊢
    case neg => exact gives_value (v := .int k (k.wrap (0 - n))) (by simp [execOp, ho, e1, Op.unary, Op.intArith]) (by rw [keepI_val h]; rfl)
    all_goals exact h.elim
  · exact h.elim
theorem conv_sound (hE : EnvOk P E) (H : Gam N X0 w0 s a w g who) {o : Oper} {t u : Nat} {x : Operand} (ho : o.op = .convert t u x)
    (h : (convAV (E.desc t) (E.desc u) [s.ev x]).1) : Gives P a w o (fun v w' => (convAV (E.desc t) (E.desc u) [s.ev x]).2.G g w' v) := by
  have hx := H.ev x
  generalize s.ev x = ax at *
  unfold convAV at h ⊢
  split at h
  · rename_i k n hi
    cases hi
    have e1 : a.eval x = .int k n := hx
    split at h
    · rename_i k' hk
      obtain ⟨t1, _, hd1, h1⟩ := Env.desc_some hE rfl h
      obtain ⟨t2, _, hd2, h2⟩ := Env.desc_some hE hk (by simp)
      have hu := run_underlying (w := w) h1.und
      have hv := run_underlying (w := w) h2.und
      rw [hd2] at hv
      refine gives_value (v := .int k' (k'.wrap n)) ?_ rfl
      simp only [execOp, ho, e1, convert]
      simp only [Sem.run_bind, hu, hv, Result.andThen]
      cases t1.desc <;> rfl
    · exact h.elim
  · exact h.elim
theorem fieldAddr_sound (hE : EnvOk P E) (H : Gam N X0 w0 s a w g who) {o : Oper} {t f : Nat} {x : Operand} (ho : o.op = .fieldAddr t x f)
    (h : (fieldAddrAV E (E.desc t) f [s.ev x]).1) : Gives P a w o (fun v w' => (fieldAddrAV E (E.desc t) f [s.ev x]).2.G g w' v) := by
  have hx := H.ev x
  generalize s.ev x = ax at *
  unfold fieldAddrAV at h ⊢
  split at h
  · rename_i p hi
    cases hi
    split at h
    · rename_i fields hd
      obtain ⟨t1, _, hd1, h1⟩ := Env.desc_some hE hd (by simp)
      have hu := run_underlying (w := w) h1.und
      rw [hd1] at hu
      split at h
      · rename_i fd hf
        split at h
        · rename_i id off
          have e1 : a.eval x = .pointer (some ⟨g.σ id, off, none⟩) := hx
          have hne : E.sz fd.type ≠ 0 := h
          unfold Env.sz at hne
          split at hne
          · rename_i tf htf
            have hs := (hE.tt _ _ htf).size w
            exact gives_value (v := .pointer (some ⟨g.σ id, off + fd.offset, none⟩)) (by simp [execOp, ho, e1, Instr.fieldAt, hu, hf, Instr.sureAddr, fieldPlace, hs, hne, Addr.add_lit, Result.andThen]) rfl
          · exact absurd rfl hne
        · rename_i cs
          obtain ⟨b, off, hp, hcs⟩ := (show ∃ b off, a.eval x = .pointer (some ⟨b, off, none⟩) ∧ cellsP g.X w b off cs from by simpa only [AV.G, A1.G, CV.G, CV.P] using hx)
          have hne : E.sz fd.type ≠ 0 := h.1
          unfold Env.sz at hne
          split at hne
          · rename_i tf htf
            have hs := (hE.tt _ _ htf).size w
            refine gives_value (v := .pointer (some ⟨b, off + fd.offset, none⟩)) (by simp [execOp, ho, hp, Instr.fieldAt, hu, hf, Instr.sureAddr, fieldPlace, hs, hne, Addr.add_lit, Result.andThen]) ?_
            simp only [AV.G, A1.G, CV.G, CV.P]
            exact ⟨b, off + fd.offset, rfl, cellsP_drop _ _ _ _ h.2 hcs⟩
          · exact absurd rfl hne
        · rename_i id t' i
          have e1 : a.eval x = .pointer (some ⟨g.σ id, i * t', none⟩) := hx
          have hne : E.sz fd.type ≠ 0 := h
          unfold Env.sz at hne
          split at hne
          · rename_i tf htf
            have hs := (hE.tt _ _ htf).size w
            exact gives_value (v := .pointer (some ⟨g.σ id, i * t' + fd.offset, none⟩)) (by simp [execOp, ho, e1, Instr.fieldAt, hu, hf, Instr.sureAddr, fieldPlace, hs, hne, Addr.add_lit, Result.andThen]) (by show _ = Value.pointer (some ⟨g.σ id, (i * t' + fd.offset) * 1, none⟩); rw [Nat.mul_one])
          · exact absurd rfl hne
        · exact h.elim
      · exact h.elim
    · exact h.elim
  · exact h.elim
theorem part_run {ti : TI} {t : Nat} (ht : TIOk P t ti) {cs : List CV} {vs : List Value} (off : Nat) (h : All2 (fun c v => CV.G g w c v) cs vs) (hle : off + ti.size ≤ cs.length) :
    ∃ v, (part t vs.toArray off).run P w = .ok v w ∧ (ofCells ti.agg ((cs.drop off).take ti.size)).G g w v := by
  have h1 := (h.drop off).take ti.size
  have hl := h.len
  obtain ⟨ga, gb⟩ := ofCells_G (g := g) (w := w) (agg := ti.agg) h1
  cases hag : ti.agg with
  | true =>
    rw [hag] at ga
    refine ⟨.agg ((vs.drop off).take ti.size).toArray, ?_, ga rfl⟩
    simp only [part, Sem.run_bind, ht.agg, hag, ht.size, Result.andThen, if_true, Sem.run_pure]
    congr 2
    apply Array.ext'
    simp [List.extract_eq_take_drop]
  | false =>
    rw [hag] at gb
    have h1s := ht.one hag
    rw [h1s] at hle gb ⊢
    have hv : vs[off]? = some (vs[off]'(by omega)) := List.getElem?_eq_getElem (by omega)
    refine ⟨vs[off]'(by omega), ?_, gb rfl _ ?_⟩
    · simp [part, ht.agg, hag, Result.andThen, List.getElem?_eq_getElem (show off < vs.length by omega)]
    · rw [List.drop_eq_getElem_cons (by omega)]; rfl
theorem field_sound (hE : EnvOk P E) (H : Gam N X0 w0 s a w g who) {o : Oper} {t f : Nat} {x : Operand} (ho : o.op = .field t x f)
    (h : (fieldAV E (E.desc t) f [s.ev x]).1) : Gives P a w o (fun v w' => (fieldAV E (E.desc t) f [s.ev x]).2.G g w' v) := by
  have hx := H.ev x
  generalize s.ev x = ax at *
  unfold fieldAV at h ⊢
  split at h
  · rename_i cs hi
    cases hi
    split at h
    · rename_i fields hd
      obtain ⟨t1, _, hd1, h1⟩ := Env.desc_some hE hd (by simp)
      have hu := run_underlying (w := w) h1.und
      rw [hd1] at hu
      split at h
      · rename_i fd hf
        split at h
        · rename_i ti hti
          obtain ⟨vs, e1, hvs⟩ := (show ∃ vs : List Value, a.eval x = .agg vs.toArray ∧ All2 (fun c v => CV.G g w c v) cs vs from hx)
          obtain ⟨v, hr, hG⟩ := part_run (hE.tt _ _ hti) fd.offset hvs h
          exact gives_value (v := v) (by simp [execOp, ho, e1, Instr.field, hu, hf, asAgg, hr, Result.andThen]) hG
        · exact h.elim
      · exact h.elim
    · exact h.elim
  · exact h.elim
theorem ext_sound (H : Gam N X0 w0 s a w g who) {o : Oper} {i : Nat} {x : Operand} (ho : o.op = .extract x i)
    (h : (extAV i [s.ev x]).1) : Gives P a w o (fun v w' => (extAV i [s.ev x]).2.G g w' v) := by
  have hx := H.ev x
  generalize s.ev x = ax at *
  unfold extAV at h ⊢
  split at h
  · rename_i l hi
    cases hi
    split at h
    · rename_i e he
      obtain ⟨vs, e1, hvs⟩ := (show ∃ vs : List Value, a.eval x = .tuple vs.toArray ∧ All2 (fun c v => A1.G g w c v) l vs from hx)
      obtain ⟨v, hv, hG⟩ := hvs.get he
      exact gives_value (v := v) (by simp [execOp, ho, e1, Instr.extract, hv]) hG
    · exact h.elim
  · exact h.elim
theorem nil_sound (H : Gam N X0 w0 s a w g who) {o : Oper} {x : Operand} (ho : o.op = .nilCheck x)
    (h : (nilAV [s.ev x]).1) : Gives P a w o (fun v w' => (nilAV [s.ev x]).2.G g w' v) := by
  have hx := H.ev x
  generalize s.ev x = ax at *
  unfold nilAV at h ⊢
  split at h
  · rename_i id off hi
    cases hi
    have e1 : a.eval x = .pointer (some ⟨g.σ id, off, none⟩) := hx
    exact gives_value (v := .pointer (some ⟨g.σ id, off, none⟩)) (by simp [execOp, ho, e1]) rfl
  · rename_i cs hi
    cases hi
    have hx' := hx
    obtain ⟨b, off, hp, hcs⟩ := (show ∃ b off, a.eval x = .pointer (some ⟨b, off, none⟩) ∧ cellsP g.X w b off cs from by simpa only [AV.G, A1.G, CV.G, CV.P] using hx)
    exact gives_value (v := .pointer (some ⟨b, off, none⟩)) (by simp [execOp, ho, hp]) (by rw [← hp]; exact hx')
  · exact h.elim
theorem idx_sound (hE : EnvOk P E) (H : Gam N X0 w0 s a w g who) {o : Oper} {t : Nat} {x i : Operand} (ho : o.op = .indexAddr t x i)
    (h : (idxAV (E.desc t) E [s.ev x, s.ev i]).1) : Gives P a w o (fun v w' => (idxAV (E.desc t) E [s.ev x, s.ev i]).2.G g w' v) := by
  have hx := H.ev x
  have hi := H.ev i
  generalize s.ev x = ax at *
  generalize s.ev i = ai at *
  unfold idxAV at h ⊢
  split at h
  · rename_i cx k n hh
    cases hh
    have ei : a.eval i = .int k n := hi
    split at h
    · rename_i e hd
      obtain ⟨t1, _, hd1, h1⟩ := Env.desc_some hE hd (by simp)
      have hu := run_underlying (w := w) h1.und
      rw [hd1] at hu
      split at h
      · rename_i te ht
        have hsz := (hE.tt _ _ ht).size w
        split at h
        · rename_i own tt rows
          obtain ⟨hs, h0, hlt⟩ := h
          obtain ⟨ao, cap, hv, _, _, hc⟩ := (show ∃ (ao : Option Addr) (cap : Nat), a.eval x = .slice ao rows.length cap ∧ rows.length ≤ cap ∧ (ao = none → cap = 0) ∧ (0 < rows.length → ∃ b off, ao = some ⟨b, off, none⟩ ∧ rowsP g.X w b off tt rows) from by
            have := (show CV.G g w (.sl own tt rows) (a.eval x) from hx).1
            simpa only [CV.P] using this)
          obtain ⟨b, off, rfl, hr⟩ := hc (by omega)
          have hcell := rowsP_get n.toNat rows b off (by omega) hr
          refine gives_value (v := .pointer (some ⟨b, off + n.toNat * tt, none⟩)) ?_ ?_
          · simp [execOp, ho, hv, ei, Instr.indexAt, asIntOf, hu, hsz, hs, Result.andThen, h0, hlt, Addr.add_lit]
          · simp only [AV.G, A1.G, CV.G, CV.P]
            exact ⟨b, _, rfl, hcell⟩
        · rename_i own xs
          obtain ⟨hs, h0, hlt⟩ := h
          obtain ⟨ao, cap, hv, _, _, _, hc⟩ := (show CV.G g w (.lim own xs) (a.eval x) from hx).1
          obtain ⟨b, off, rfl, hr⟩ := hc (by omega)
          refine gives_value (v := .pointer (some ⟨b, off + n.toNat, none⟩)) ?_ ?_
          · simp [execOp, ho, hv, ei, Instr.indexAt, asIntOf, hu, hsz, hs, Result.andThen, h0, hlt, Addr.add_lit]
          · simp only [AV.G, A1.G, CV.G, CV.P, cellsP]
            exact ⟨b, _, rfl, ⟨_, hr n.toNat (by omega), rfl⟩, trivial⟩
        · rename_i id m
          obtain ⟨h0, hlt⟩ := h
          obtain ⟨ao, hv, hao⟩ := (show CV.G g w (.rf id m) (a.eval x) from hx)
          have ea : ao = some ⟨g.σ id, 0, none⟩ := by
            rcases hao with ⟨_, h2, _⟩ | h2
            · omega
            · exact h2
          subst ea
          refine gives_value (v := .pointer (some ⟨g.σ id, n.toNat * te.size, none⟩)) ?_ rfl
          simp [execOp, ho, hv, ei, Instr.indexAt, asIntOf, hu, hsz, Result.andThen, h0, hlt, Addr.add_lit]
        · exact h.elim
      · exact h.elim
    · exact h.elim
  · exact h.elim
theorem cellsP_at {X : Nat → Nat → Prop} {w : World} {b t : Nat} : ∀ (n : Nat) (rows : List (List CV)) (off : Nat), rowsP X w b off t rows → rowsP X w b off t (rows.take n)
  | 0, rows, off, _ => by rw [List.take_zero]; simp only [rowsP]
  | n + 1, [], off, _ => by simp only [List.take_nil, rowsP]
  | n + 1, r :: rs, off, h => by
    simp only [rowsP, List.take_succ_cons] at h ⊢
    exact ⟨h.1, h.2.1, cellsP_at n rs (off + t) h.2.2⟩
theorem rowsP_off {X : Nat → Nat → Prop} {w : World} {b t : Nat} : ∀ (n : Nat) (rows : List (List CV)) (off : Nat), rowsP X w b off t rows → rowsP X w b (off + n * t) t (rows.drop n)
  | 0, rows, off, h => by rw [Nat.zero_mul, Nat.add_zero, List.drop_zero]; exact h
  | n + 1, [], off, _ => by simp only [List.drop_nil, rowsP]
  | n + 1, r :: rs, off, h => by
    simp only [rowsP] at h
    have := rowsP_off n rs (off + t) h.2.2
    rwa [show off + t + n * t = off + (n + 1) * t by rw [Nat.succ_mul]; omega] at this
theorem slice_run {te t l h len cap size : Nat} {ao : Option Addr} {w : World} (hu : ∀ w, (underlying t).run P w = .ok (.slice te) w) (hs : ∀ w, (sizeOf te).run P w = .ok size w) {k k' : IntKind} (hl : l ≤ h) (hh : h ≤ len) (hc : len ≤ cap) :
    (Instr.slice t (.slice ao len cap) none (some (.int k' (h : Int))) none).run P w = .ok (.slice (if cap = 0 then ao else ao.map (·.add (0 * size))) (h - 0) (cap - 0)) w ∧
    (h = len → (Instr.slice t (.slice ao len cap) (some (.int k (l : Int))) none none).run P w = .ok (.slice (if cap = l then ao else ao.map (·.add (l * size))) (h - l) (cap - l)) w) ∧
    (Instr.slice t (.slice ao len cap) (some (.int k (l : Int))) (some (.int k' (h : Int))) none).run P w = .ok (.slice (if cap = l then ao else ao.map (·.add (l * size))) (h - l) (cap - l)) w := by
  have h1 : h ≤ cap := by omega
  refine ⟨?_, fun e => ?_, ?_⟩
  · simp [Instr.slice, hu, hs, Instr.sliceBounds, Instr.sliceBound, asIntOf, Result.andThen, h1]
  · subst e
    simp [Instr.slice, hu, hs, Instr.sliceBounds, Instr.sliceBound, asIntOf, Result.andThen, hl]
  · simp [Instr.slice, hu, hs, Instr.sliceBounds, Instr.sliceBound, asIntOf, Result.andThen, h1, hl]
theorem sliceCV_G {te : TI} {x : CV} {l h : Nat} {v : Value} (hx : x.G g w v) (hh : (sliceCV te x l h).1) : ∃ ao len cap, v = .slice ao len cap ∧ l ≤ h ∧ h ≤ len ∧ len ≤ cap ∧ rowLen x = (len : Nat) ∧ (sliceCV te x l h).2.G g w (.slice (if cap = l then ao else ao.map (·.add (l * te.size))) (h - l) (cap - l)) := by
  unfold sliceCV at hh ⊢
  split at hh
  · rename_i own t rows
    obtain ⟨hs, h0, hlt, hle⟩ := hh
    have hlt' : l ≤ h := by omega
    have hle' : h ≤ rows.length := by omega
    obtain ⟨ao, cap, hv, hc, hn, hb⟩ := (show ∃ (ao : Option Addr) (cap : Nat), v = .slice ao rows.length cap ∧ rows.length ≤ cap ∧ (ao = none → cap = 0) ∧ (0 < rows.length → ∃ b off, ao = some ⟨b, off, none⟩ ∧ rowsP g.X w b off t rows) from by
      have := (show CV.G g w (.sl own t rows) v from hx).1
      simpa only [CV.P] using this)
    refine ⟨ao, rows.length, cap, hv, hlt', hle', hc, rfl, ?_⟩
    have hlen : ((rows.take (h : Int).toNat).drop (l : Int).toNat).length = h - l := by simp; omega
    simp only [Int.toNat_natCast] at hlen ⊢
    refine ⟨?_, trivial⟩
    simp only [CV.P]
    refine ⟨_, cap - l, by rw [hlen], by rw [hlen]; omega, fun e => ?_, fun hp => ?_⟩
    · split at e
      · omega
      · cases ao with
        | none => have := hn rfl; omega
        | some a => cases e
    · rw [hlen] at hp
      obtain ⟨b, off, rfl, hr⟩ := hb (by omega)
      refine ⟨b, off + l * t, ?_, rowsP_off l _ off (cellsP_at h _ off hr)⟩
      rw [if_neg (by omega), hs]
      simp [Addr.add_lit]
  · rename_i own xs
    obtain ⟨hs, h0, hlt, hle⟩ := hh
    have hlt' : l ≤ h := by omega
    have hle' : h ≤ xs.length := by omega
    obtain ⟨ao, cap, hv, hc, hn, hx4, hb⟩ := (show CV.G g w (.lim own xs) v from hx).1
    refine ⟨ao, xs.length, cap, hv, hlt', hle', hc, rfl, ?_⟩
    have hlen : ((xs.take (h : Int).toNat).drop (l : Int).toNat).length = h - l := by simp; omega
    simp only [Int.toNat_natCast] at hlen ⊢
    refine ⟨⟨_, cap - l, by rw [hlen], by rw [hlen]; omega, fun e => ?_, fun x hx => hx4 x (List.mem_of_mem_take (List.mem_of_mem_drop hx)), fun hp => ?_⟩, trivial⟩
    · split at e
      · omega
      · cases ao with
        | none => have := hn rfl; omega
        | some a => cases e
    · rw [hlen] at hp
      obtain ⟨b, off, rfl, hr⟩ := hb (by omega)
      refine ⟨b, off + l, ?_, fun i hi => ?_⟩
      · rw [if_neg (by omega), hs, Nat.mul_one]
        simp [Addr.add_lit]
      · rw [hlen] at hi
        have := hr (l + i) (by omega)
        have e : ((xs.take h).drop l).getD i 0 = xs.getD (l + i) 0 := by
          rw [List.getD_eq_getElem?_getD, List.getD_eq_getElem?_getD, List.getElem?_drop, List.getElem?_take, if_pos (by omega)]
        rw [e, Nat.add_assoc]
        exact this
  · exact hh.elim
theorem slice_sound (hE : EnvOk P E) (H : Gam N X0 w0 s a w g who) {o : Oper} {t : Nat} {x : Operand} {lo hi : Option Operand} (ho : o.op = .slice t x lo hi none)
    (h : (sliceAV (E.desc t) E lo.isSome hi.isSome ((x :: (lo.toList ++ hi.toList)).map s.ev)).1) : Gives P a w o (fun v w' => (sliceAV (E.desc t) E lo.isSome hi.isSome ((x :: (lo.toList ++ hi.toList)).map s.ev)).2.G g w' v) := by
  have hx := H.ev x
  unfold sliceAV at h ⊢
  split at h
  · rename_i e hd
    obtain ⟨t1, _, hd1, h1⟩ := Env.desc_some hE hd (by simp)
    have hu : ∀ w, (underlying t).run P w = .ok (.slice e) w := fun w => by rw [run_underlying (w := w) h1.und, hd1]
    have hat : ∀ v lo hi mx, (Instr.sliceAt t v lo hi mx).run P w = (Instr.slice t v lo hi mx).run P w := fun v lo hi mx => by
      simp [Instr.sliceAt, hu, Result.andThen]
    split at h
    · rename_i te ht
      have hsz := (hE.tt _ _ ht).size
      have hnat : ∀ {x : CV} {l h : Int}, (sliceCV te x l h).1 → ∃ l' h' : Nat, l = l' ∧ h = h' := by
        intro x l h hh
        unfold sliceCV at hh
        split at hh
        · exact ⟨l.toNat, h.toNat, by omega, by omega⟩
        · exact ⟨l.toNat, h.toNat, by omega, by omega⟩
        · exact hh.elim
      cases lo with
      | none => cases hi with
        | none => exact h.elim
        | some y =>
          have hy := H.ev y
          simp only [Option.isSome, Option.toList, List.nil_append, List.map_cons, List.map_nil, cond_true, cond_false] at h ⊢
          generalize s.ev x = ax at *
          generalize s.ev y = ay at *
          unfold slHi at h ⊢
          split at h
          · rename_i cx k n hh
            cases hh
            have ey : a.eval y = .int k n := hy
            obtain ⟨l', h', e1, rfl⟩ := hnat h
            obtain ⟨ao, len, cap, hv, q1, q2, q3, _, q5⟩ := sliceCV_G (l := 0) (show cx.G g w (a.eval x) from hx) h
            refine gives_value (v := _) ?_ q5
            have hr := (slice_run (P := P) (w := w) (te := e) (t := t) (ao := ao) (k' := k) (k := .i64) hu hsz q1 q2 q3).1
            simp only [execOp, ho, hv, ey, Sem.run_bind, Option.map_none, Option.map_some]
            rw [hat, hr]
            rfl
          · exact h.elim
      | some z => cases hi with
        | none =>
          have hz := H.ev z
          simp only [Option.isSome, Option.toList, List.append_nil, List.map_cons, List.map_nil, cond_true, cond_false] at h ⊢
          generalize s.ev x = ax at *
          generalize s.ev z = az at *
          unfold slLo at h ⊢
          split at h
          · rename_i cx k n hh
            cases hh
            have ez : a.eval z = .int k n := hz
            obtain ⟨l', h', rfl, e1⟩ := hnat h
            simp only [e1] at h ⊢
            obtain ⟨ao, len, cap, hv, q1, q2, q3, q4, q5⟩ := sliceCV_G (show cx.G g w (a.eval x) from hx) h
            refine gives_value (v := _) ?_ q5
            have hr := (slice_run (P := P) (w := w) (te := e) (t := t) (ao := ao) (k := k) (k' := .i64) hu hsz q1 q2 q3).2.1 (by omega)
            simp only [execOp, ho, hv, ez, Sem.run_bind, Option.map_none, Option.map_some]
            rw [hat, hr]
            rfl
          · exact h.elim
        | some y =>
          have hz := H.ev z
          have hy := H.ev y
          simp only [Option.isSome, Option.toList, List.cons_append, List.nil_append, List.map_cons, List.map_nil, cond_true] at h ⊢
          generalize s.ev x = ax at *
          generalize s.ev y = ay at *
          generalize s.ev z = az at *
          unfold slLH at h ⊢
          split at h
          · rename_i cx k n k2 m hh
            cases hh
            have ez : a.eval z = .int k n := hz
            have ey : a.eval y = .int k2 m := hy
            obtain ⟨l', h', rfl, rfl⟩ := hnat h
            obtain ⟨ao, len, cap, hv, q1, q2, q3, _, q5⟩ := sliceCV_G (show cx.G g w (a.eval x) from hx) h
            refine gives_value (v := _) ?_ q5
            have hr := (slice_run (P := P) (w := w) (te := e) (t := t) (ao := ao) (k := k) (k' := k2) hu hsz q1 q2 q3).2.2
            simp only [execOp, ho, hv, ez, ey, Sem.run_bind, Option.map_some, Option.map_none]
            rw [hat, hr]
            rfl
          · exact h.elim
    · exact h.elim
  · exact h.elim
theorem capOf_P : ∀ (l : List AV) (vs : List Value) (cs : List CV), All2 (fun c v => AV.G g w c v) l vs → capOf l = some cs → valsP g.X w cs vs
  | [], vs, cs, h, hc => by
    cases h
    cases hc
    simp only [valsP]
  | .one (.cel c) :: r, vs, cs, h, hc => by
    cases h with
    | cons h0 hr =>
      rename_i u us
      unfold capOf at hc
      split at hc
      · rename_i cs' hcs
        cases hc
        simp only [valsP]
        exact ⟨u, us, rfl, CV.G.strip (show c.G g w u from h0), capOf_P r us cs' hr hcs⟩
      · cases hc
  | .one (.agg _) :: r, vs, cs, h, hc => by cases hc
  | .tup _ :: r, vs, cs, h, hc => by cases hc
  | .any :: r, vs, cs, h, hc => by cases hc
  | .und :: r, vs, cs, h, hc => by cases hc
theorem makeFunc_sound (H : Gam N X0 w0 s a w g who) {o : Oper} {fn : Fn} {first caps : Array Operand} (ho : o.op = .makeFunc fn first caps)
    (h : (makeFuncAV fn first (caps.toList.map s.ev)).1) : Gives P a w o (fun v w' => (makeFuncAV fn first (caps.toList.map s.ev)).2.G g w' v) := by
  have hins := H.ins caps.toList
  have hargs : caps.map a.eval = (caps.toList.map a.eval).toArray := by apply Array.ext'; simp
  unfold makeFuncAV at h ⊢
  split at h
  · rename_i f cs hc
    subst h
    refine gives_value (v := .func (.func f) #[] (caps.toList.map a.eval).toArray) ?_ ?_
    · simp [execOp, ho, Instr.makeFunc, hargs]
    · simp only [AV.G, A1.G, CV.G, CV.P]
      exact ⟨_, rfl, capOf_P _ _ _ hins hc⟩
  · exact h.elim
end
end Go.Proofs.YtnjgliojkoeneaaGreat
namespace Go.Proofs.YtnjgliojkoeneaaGreat
open Go.RowKit
section
variable {P : Program} {E : Env} {N : Nat} {X0 : Nat → Nat → Prop} {w0 : World} {s : AS} {a : Act} {w : World} {g : Gh} {who : Nat → Option (Nat × Bool)}
theorem All2.set {α β : Type} {R : α → β → Prop} {l : List α} {m : List β} (h : All2 R l m) {x : α} {y : β} (hr : R x y) (i : Nat) : All2 R (l.set i x) (m.set i y) := by
  induction h generalizing i with
  | nil => exact .nil
  | cons h t ih => cases i with
    | zero => exact .cons hr t
    | succ i => exact .cons h (ih i)
theorem lay_all {R : CV → Value → Prop} {ns : List CV} {vs : List Value} (h : All2 R ns vs) : ∀ (cs : List CV) (l : List Value) (k off : Nat), All2 R cs l →
    ∃ l', (vs.zipIdx k).foldl (fun cs x => cs.setIfInBounds (off + x.2) x.1) l.toArray = List.toArray l' ∧ All2 R (lay cs (off + k) ns) l' := by
  induction h with
  | nil => intro cs l k off h; exact ⟨l, rfl, h⟩
  | cons h _ ih =>
    intro cs l k off hc
    simp only [List.zipIdx_cons, List.foldl_cons, lay, List.setIfInBounds_toArray]
    exact ih _ _ (k + 1) off (hc.set h _)
theorem A1.G.cells {x : A1} {v : Value} (h : x.G g w v) : ∃ vs : List Value, v.cells = vs.toArray ∧ All2 (fun c v => CV.G g w c v) x.cells vs := by
  cases x with
  | cel c =>
    have hf := CV.G.flat (show c.G g w v from h)
    refine ⟨[v], ?_, .cons h .nil⟩
    cases v <;> first | rfl | exact hf.elim
  | agg l =>
    obtain ⟨vs, rfl, hl⟩ := h
    exact ⟨vs, rfl, hl⟩
theorem fill_sound (place : Nat → Option (Nat × Nat)) : ∀ (parts : List (Nat × AV)) (pvs : List (Nat × Value)), All2 (fun p v => p.1 = v.1 ∧ AV.G g w p.2 v.2) parts pvs → ∀ (cs cs' : List CV) (l : List Value),
    All2 (fun c v => CV.G g w c v) cs l → fillCV place cs parts = some cs' → ∃ l', Instr.fill place l.toArray pvs = some (List.toArray l') ∧ All2 (fun c v => CV.G g w c v) cs' l' := by
  intro parts pvs h
  induction h with
  | nil => intro cs cs' l hc hf; simp only [fillCV, Option.some.injEq] at hf; subst hf; exact ⟨l, rfl, hc⟩
  | @cons p q _ _ hpq _ ih =>
    intro cs cs' l hc hf
    obtain ⟨i, x⟩ := p
    obtain ⟨j, v⟩ := q
    obtain ⟨e, hG⟩ := hpq
    simp only at e hG
    subst e
    cases x with
    | one x =>
      simp only [fillCV] at hf
      split at hf
      · cases hf
      · rename_i off size hp
        split at hf
        · rename_i hle
          obtain ⟨vs, hv, hvs⟩ := A1.G.cells (show x.G g w v from hG)
          obtain ⟨l1, e1, h1⟩ := lay_all hvs cs l 0 off hc
          obtain ⟨l', e2, h2⟩ := ih _ cs' l1 h1 hf
          refine ⟨l', ?_, h2⟩
          simp only [Instr.fill, hp, hv]
          rw [if_neg]
          · rw [← e2, ← e1]
            congr 1
            simp
          · have := hvs.len; have := hc.len; simp; omega
        · cases hf
    | tup _ => simp [fillCV] at hf
    | any => simp [fillCV] at hf
    | und => simp [fillCV] at hf
theorem run_mapM_fields (hE : EnvOk P E) : ∀ (fs : List Field), (fs.all fun f => (E.tt f.type).isSome) = true →
    (fs.mapM fun f => Functor.map (Prod.mk f.offset) (sizeOf f.type)).run P w = .ok (fs.map fun f => (f.offset, E.sz f.type)) w
  | [], _ => by simp
  | f :: fs, h => by
    simp only [List.all_cons, Bool.and_eq_true] at h
    obtain ⟨ti, ht⟩ := Option.isSome_iff_exists.1 h.1
    have hs := (hE.tt _ _ ht).size w
    have := run_mapM_fields hE fs h.2
    simp [List.mapM_cons, hs, this, Env.sz, ht]
theorem build_sound (hE : EnvOk P E) (H : Gam N X0 w0 s a w g who) {o : Oper} {t : Nat} {ps : Array (Nat × Operand)} (ho : o.op = .build t ps)
    (h : (buildAV E (E.tt t) (ps.toList.map (·.1)) ((ps.toList.map (·.2)).map s.ev)).1) : Gives P a w o (fun v w' => (buildAV E (E.tt t) (ps.toList.map (·.1)) ((ps.toList.map (·.2)).map s.ev)).2.G g w' v) := by
  unfold buildAV at h ⊢
  split at h
  · rename_i ti ht
    have hti := hE.tt _ _ ht
    split at h
    · rename_i fields hd
      split at h
      · rename_i cs hf
        have hu := run_underlying (w := w) hti.und
        rw [hd] at hu
        have hall : (fields.toList.all fun f => (E.tt f.type).isSome) = true := by simpa using h
        have hm := run_mapM_fields (P := P) (w := w) hE fields.toList hall
        have hz : ∃ zs : List Value, ti.zero.cells = zs.toArray ∧ All2 (fun c v => CV.G g w c v) ti.z1.cells zs := by
          have hz1 := hti.z1 g.X w
          have hst : ti.z1.strip = ti.z1 := hti.z1s
          have := A1.P.toG (g := g) hz1
          rw [hst] at this
          exact A1.G.cells this
        obtain ⟨zs, hz1, hz2⟩ := hz
        have hparts : All2 (fun (p : Nat × AV) (v : Nat × Value) => p.1 = v.1 ∧ AV.G g w p.2 v.2) ((ps.toList.map (·.1)).zip ((ps.toList.map (·.2)).map s.ev)) (ps.toList.map fun x => (x.1, a.eval x.2)) := by
          generalize ps.toList = l
          induction l with
          | nil => exact .nil
          | cons x l ih => exact .cons ⟨rfl, H.ev x.2⟩ ih
        obtain ⟨l', e1, e2⟩ := fill_sound _ _ _ hparts _ _ _ hz2 hf
        refine gives_value (v := .agg l'.toArray) ?_ ⟨l', rfl, e2⟩
        have hplace : placeOf E fields = fun i => (fields.toList.map fun f => (f.offset, E.sz f.type))[i]? := by
          funext i
          simp only [placeOf, List.getElem?_map, Array.getElem?_toList]
          cases hfi : fields[i]? with
          | none => rfl
          | some f =>
            have := (Array.all_eq_true'.1 h) f (Array.mem_of_getElem? hfi)
            obtain ⟨tf, htf⟩ := Option.isSome_iff_exists.1 this
            simp [htf, Env.sz]
        rw [hplace] at e1
        simp only [List.getElem?_map] at e1
        simp [execOp, ho, Instr.build, hti.zero, hu, Result.andThen, Array.mapM_eq_mapM_toList, hm, hz1]
        simp only [Array.getElem?_toList] at e1
        simp [e1]
      · exact h.elim
    · exact h.elim
  · exact h.elim
theorem rowsOf_G : ∀ (l : List AV) (vs : List Value), All2 (fun c v => AV.G g w c v) l vs → ∀ rows, rowsOf l = some rows →
    All2 (fun (r : List CV) (v : Value) => ∃ us : List Value, v.cells = us.toArray ∧ All2 (fun c u => CV.P g.X w c u) r us) rows vs := by
  intro l vs h
  induction h with
  | nil => intro rows hr; simp only [rowsOf, Option.some.injEq] at hr; subst hr; exact .nil
  | @cons x v _ _ hx _ ih =>
    intro rows hr
    cases x with
    | one x =>
      simp only [rowsOf] at hr
      split at hr
      · rename_i rs hrs
        cases hr
        refine .cons ?_ (ih rs hrs)
        obtain ⟨us, h1, h2⟩ := A1.G.cells (show x.G g w v from hx)
        exact ⟨us, h1, All2.map_left.2 (h2.imp fun c u hc => hc.strip)⟩
      · cases hr
    | tup _ => simp [rowsOf] at hr
    | any => simp [rowsOf] at hr
    | und => simp [rowsOf] at hr
theorem cellsP_new {X : Nat → Nat → Prop} {w' : World} {b : Nat} (hb : b < w'.heap.size) (hX : ∀ o, ¬ X b o) : ∀ (cs : List CV) (us : List Value) (off : Nat), All2 (fun c u => CV.P X w' c u) cs us →
    (∀ j v, us[j]? = some v → w'.cell? ⟨b, off + j, none⟩ = some v) → cellsP X w' b off cs := by
  intro cs us off h
  induction h generalizing off with
  | nil => intro _; simp only [cellsP]
  | @cons c u cs us hc _ ih =>
    intro hj
    simp only [cellsP]
    refine ⟨⟨u, ⟨hb, hX _, by simpa using hj 0 u rfl⟩, hc⟩, ih (off + 1) fun j v hv => ?_⟩
    have := hj (j + 1) v (by simpa using hv)
    rw [show off + 1 + j = off + (j + 1) by omega]; exact this
theorem rowsP_new {X : Nat → Nat → Prop} {w' : World} {b t : Nat} (hb : b < w'.heap.size) (hX : ∀ o, ¬ X b o) : ∀ (rows : List (List CV)) (vs : List Value) (off : Nat),
    All2 (fun (r : List CV) (v : Value) => ∃ us : List Value, v.cells = us.toArray ∧ All2 (fun c u => CV.P X w' c u) r us) rows vs → allLen t rows →
    (∀ j v, (vs.flatMap fun v => v.cells.toList)[j]? = some v → w'.cell? ⟨b, off + j, none⟩ = some v) → rowsP X w' b off t rows := by
  intro rows vs off h
  induction h generalizing off with
  | nil => intro _ _; simp only [rowsP]
  | @cons r v rows vs hr _ ih =>
    intro hl hj
    obtain ⟨us, h1, h2⟩ := hr
    simp only [allLen] at hl
    simp only [List.flatMap_cons, h1] at hj
    have hlen : us.length = t := by rw [← h2.len]; exact hl.1
    simp only [rowsP]
    refine ⟨hl.1, cellsP_new hb hX r us off h2 fun j v hv => hj j v ?_, ih (off + t) hl.2 fun j v hv => ?_⟩
    · rw [List.getElem?_append_left (by have := (List.getElem?_eq_some_iff.1 hv).1; simpa using this)]; simpa using hv
    · rw [Nat.add_assoc]
      refine hj (t + j) v ?_
      rw [List.getElem?_append_right (by simp [hlen])]
      simpa [hlen] using hv
theorem u32sOf_vals {X : Nat → Nat → Prop} {w' : World} : ∀ (rows : List (List CV)) (vs : List Value), All2 (fun (r : List CV) (v : Value) => ∃ us : List Value, v.cells = us.toArray ∧ All2 (fun c u => CV.P X w' c u) r us) rows vs →
    ∀ xs, u32sOf rows = some xs → (vs.flatMap fun v => v.cells.toList) = xs.map (fun x => Value.int .u32 x) ∧ vs.length = xs.length := by
  intro rows vs h
  induction h with
  | nil => intro xs hx; simp only [u32sOf, Option.some.injEq] at hx; subst hx; exact ⟨rfl, rfl⟩
  | @cons r v rows vs hr _ ih =>
    intro xs hx
    unfold u32sOf at hx
    split at hx
    · simp_all
    · rename_i x r' heq
      cases heq
      split at hx
      · rename_i ys hys
        cases hx
        obtain ⟨us, h1, h2⟩ := hr
        obtain ⟨u, rfl, hu⟩ := h2.one
        have e : u = .int .u32 x := hu
        obtain ⟨i1, i2⟩ := ih ys hys
        exact ⟨by simp [h1, i1, e], by simp [i2]⟩
      · cases hx
    · cases hx
theorem allU32_lt : ∀ {xs : List Int}, allU32 xs → ∀ x ∈ xs, 0 ≤ x ∧ x < 4294967296
  | x :: xs, h, y, hy => by
    rcases List.mem_cons.1 hy with rfl | hy
    · exact h.1
    · exact allU32_lt h.2 y hy
theorem evo_below {X : Nat → Nat → Prop} {w' : World} (hb : Below w.heap.size w w') : Evo X w X w' :=
  ⟨hb.size, fun b o h hx => ⟨hb.cell (p := ⟨b, o, none⟩) h, hx⟩⟩
theorem below_alloc (o : Obj) : Below w.heap.size w (w.alloc o) := (Below.refl _ _).alloc (Nat.le_refl _) _
/-- a slice literal's run -/
theorem buildSlice_run (hE : EnvOk P E) {t e n : Nat} {te : TI} (hd : E.desc t = .slice e) (ht : E.tt e = some te) (vs : List Value) (hl : vs.length = n) (hpos : 0 < te.size) (hsm : n * te.size ≤ 16777216)
    (hv : ∀ v ∈ vs, v.cells.size = te.size) (parts : Array (Nat × Value)) (hp : parts.toList = (vs.zipIdx 0).map fun x => (x.2, x.1)) :
    (Instr.buildSlice t n parts).run P w = .ok (.slice (some ⟨w.heap.size, 0, none⟩) n n) (w.alloc (.cells (vs.flatMap fun v => v.cells.toList).toArray e)) := by
  obtain ⟨t1, _, hd1, h1⟩ := Env.desc_some hE hd (by simp)
  have hu := run_underlying (w := w) h1.und
  rw [hd1] at hu
  have hte := hE.tt _ _ ht
  have hs := hte.size
  have hz := hte.zero
  by_cases h0 : n = 0
  · subst h0
    have : vs = [] := List.length_eq_zero_iff.1 hl
    subst this
    have hp' : parts.toList = [] := by simpa using hp
    simp [Instr.buildSlice, hu, hs, Result.andThen, hp', Instr.fill, newRow]
    congr 2
    apply Array.ext <;> simp
  · have hne : ¬ n * te.size = 0 := by
      intro h; rcases Nat.mul_eq_zero.1 h with h | h <;> omega
    have hf := Go.Great.fill_whole hpos vs ((Array.range (n * te.size)).map (te.zero.cells[· % te.zero.cells.size]!)) hv (by simp [hl])
    simp [Instr.buildSlice, hu, hs, hz, Result.andThen, hp, newRow, hne, show ¬ n * te.size > 2 ^ 24 by omega]
    rw [show (fun x : Nat => te.zero.cells[x % te.zero.cells.size]!) = (te.zero.cells[· % te.zero.cells.size]!) from rfl]
    simp [hf]
theorem u32sOf_len : ∀ (rows : List (List CV)) (xs : List Int), u32sOf rows = some xs → allLen 1 rows
  | [], _, _ => trivial
  | r :: rows, xs, h => by
    unfold u32sOf at h
    split at h
    · simp_all
    · rename_i x r' heq
      cases heq
      split at h
      · rename_i ys hys; exact ⟨rfl, u32sOf_len rows ys hys⟩
      · cases h
    · cases h
theorem allLen_vals {X : Nat → Nat → Prop} {w' : World} {t : Nat} {rows : List (List CV)} {vs : List Value} (h : All2 (fun (r : List CV) (v : Value) => ∃ us : List Value, v.cells = us.toArray ∧ All2 (fun c u => CV.P X w' c u) r us) rows vs)
    (hl : allLen t rows) : ∀ v ∈ vs, v.cells.size = t := by
  induction h with
  | nil => intro v hv; cases hv
  | cons hr _ ih =>
    obtain ⟨us, h1, h2⟩ := hr
    intro v hv
    rcases List.mem_cons.1 hv with rfl | hv
    · rw [h1]; have := h2.len; have := hl.1; simp; omega
    · exact ih hl.2 v hv
theorem isRange_eq : ∀ (l : List Nat) (k : Nat), isRange k l = true → l = List.range' k l.length
  | [], _, _ => rfl
  | x :: l, k, h => by
    simp only [isRange, Bool.and_eq_true, beq_iff_eq] at h
    rw [List.length_cons, List.range'_succ, ← isRange_eq l (k + 1) h.2, h.1]
theorem range_of {l : List Nat} {n : Nat} (h : isRange 0 l = true ∧ l.length = n) : l = List.range n := by
  rw [List.range_eq_range', ← h.2]; exact isRange_eq l 0 h.1
theorem limG_new {X : Nat → Nat → Prop} {w' : World} {b n : Nat} (hb : b < w'.heap.size) (hX : ∀ o, ¬ X b o) {xs : List Int} (hn : n = xs.length) (hx : allU32 xs)
    (hc : ∀ j v, (xs.map fun x => Value.int .u32 x)[j]? = some v → w'.cell? ⟨b, 0 + j, none⟩ = some v) : limG X w' (.slice (some ⟨b, 0, none⟩) n n) (xs.map Int.toNat) := by
  subst hn
  refine ⟨some ⟨b, 0, none⟩, xs.length, by simp, by simp, by simp, ?_, fun hp => ⟨b, 0, rfl, fun i hi => ⟨hb, hX _, ?_⟩⟩⟩
  · intro x hx'
    obtain ⟨y, hy, rfl⟩ := List.mem_map.1 hx'
    have := allU32_lt hx y hy
    omega
  · have hi' : i < xs.length := by simpa using hi
    have := hc i (.int .u32 xs[i]) (by simp [hi'])
    rw [this]
    have h2 := allU32_lt hx xs[i] (List.getElem_mem hi')
    simp [List.getD_eq_getElem?_getD, hi']
    omega
theorem buildSlice_sound (hE : EnvOk P E) (H : Gam N X0 w0 s a w g who) {o : Oper} {t n : Nat} {ps : Array (Nat × Operand)} (ho : o.op = .buildSlice t n ps)
    (h : (buildSliceAV E (E.desc t) n (ps.toList.map (·.1)) ((ps.toList.map (·.2)).map s.ev)).1) :
    Gives P a w o (fun v w' => (buildSliceAV E (E.desc t) n (ps.toList.map (·.1)) ((ps.toList.map (·.2)).map s.ev)).2.G g w' v) := by
  have hins := H.ins (ps.toList.map (·.2))
  unfold buildSliceAV at h ⊢
  split at h
  · rename_i e hd
    split at h
    · rename_i te ht
      split at h
      · rename_i rows hrows
        have hR := rowsOf_G _ _ hins rows hrows
        have hnX : ∀ o, ¬ g.X w.heap.size o := fun o hx => absurd (H.lt _ _ hx) (by omega)
        have hparts : ∀ ixs : ps.toList.map (·.1) = List.range n, (ps.map fun x => (x.1, a.eval x.2)).toList = (((ps.toList.map (·.2)).map a.eval).zipIdx 0).map fun x => (x.2, x.1) := by
          intro hix
          have hlen : ps.toList.length = n := by have := congrArg List.length hix; simpa using this
          apply List.ext_getElem?
          intro i
          by_cases hi : i < ps.toList.length
          · have h1 : (ps.toList.map (·.1))[i]? = some i := by rw [hix]; exact List.getElem?_range (by omega)
            have hi' : i < ps.size := by simpa using hi
            simp only [List.getElem?_map, Array.getElem?_toList, Array.toList_map, List.getElem?_zipIdx, Array.getElem?_eq_getElem hi', Option.map_some, Option.some.injEq, Nat.zero_add] at h1 ⊢
            rw [h1]
          · have hi' : ¬ i < ps.size := by simpa using hi
            simp [hi']
        have hevo : ∀ ob, Evo g.X w g.X (w.alloc ob) := fun ob => evo_below (below_alloc ob)
        split at h
        · rename_i hu32
          split at h
          · rename_i xs hxs
            obtain ⟨hs, hix, hlen, hn, hall⟩ := h
            obtain ⟨f1, f2⟩ := u32sOf_vals rows _ hR xs hxs
            have hl' : ((ps.toList.map (·.2)).map a.eval).length = n := by rw [← hlen, ← hins.len]
            have hv : ∀ v ∈ (ps.toList.map (·.2)).map a.eval, v.cells.size = te.size := by
              rw [hs]; exact allLen_vals hR (u32sOf_len _ _ hxs)
            have hr := buildSlice_run hE hd ht _ hl' (by omega) (by rw [hs]; omega) hv (ps.map fun x => (x.1, a.eval x.2)) (hparts (range_of hix)) (w := w)
            intro K Q hk
            unfold Oper.wp
            have : (execOp a.eval o).run P w = .ok (.value (.slice (some ⟨w.heap.size, 0, none⟩) n n)) (w.alloc (.cells (((ps.toList.map (·.2)).map a.eval).flatMap fun v => v.cells.toList).toArray e)) := by
              simp only [execOp, ho]
              simp only [Sem.run_bind, hr, Result.andThen, Sem.run_pure]
            rw [this]
            rw [f1]
            refine hk _ _ (below_alloc _) ⟨limG_new (by simp) hnX (by omega) hall ?_, trivial⟩
            intro j v hj
            rw [Nat.zero_add]
            rw [World.cell?_alloc_new]
            simpa using hj
          · exact h.elim
        · rename_i hu32
          obtain ⟨hpos, hix, hlen, hn, hall⟩ := h
          have hl' : ((ps.toList.map (·.2)).map a.eval).length = n := by rw [← hlen, ← hins.len]
          have hv : ∀ v ∈ (ps.toList.map (·.2)).map a.eval, v.cells.size = te.size := allLen_vals hR hall
          have hr := buildSlice_run hE hd ht _ hl' (by omega) (by omega) hv (ps.map fun x => (x.1, a.eval x.2)) (hparts (range_of hix)) (w := w)
          intro K Q hk
          unfold Oper.wp
          have : (execOp a.eval o).run P w = .ok (.value (.slice (some ⟨w.heap.size, 0, none⟩) n n)) (w.alloc (.cells (((ps.toList.map (·.2)).map a.eval).flatMap fun v => v.cells.toList).toArray e)) := by
            simp only [execOp, ho]
            simp only [Sem.run_bind, hr, Result.andThen, Sem.run_pure]
          rw [this]
          refine hk _ _ (below_alloc _) ⟨?_, trivial⟩
          simp only [CV.P]
          have hrl : rows.length = n := by rw [hR.len, hl']
          refine ⟨some ⟨w.heap.size, 0, none⟩, n, by rw [hrl], by omega, by simp, fun _ => ⟨_, _, rfl, ?_⟩⟩
          refine rowsP_new (by simp) hnX rows _ 0 (hR.imp fun r v ⟨us, h1, h2⟩ => ⟨us, h1, h2.imp fun c u hc => hc.evo (hevo _) c⟩) hall ?_
          intro j v hj
          rw [Nat.zero_add]
          rw [World.cell?_alloc_new]
          simpa using hj
      · exact h.elim
    · exact h.elim
  · exact h.elim
theorem len_sound (hE : EnvOk P E) {ins : List AV} {vs : List Value} (hi : All2 (fun c v => AV.G g w c v) ins vs) {t ty : Nat} (ts : Array Nat) (ht : ts[0]? = some t) (hs : isSlice (E.desc t) = true) (h : (lenAV ins).1) :
    ∃ v, (Builtin.len_ ts ty vs.toArray).run P w = .ok v w ∧ (lenAV ins).2.G g w v := by
  have hd : ∃ e, E.desc t = .slice e := by
    cases hd : E.desc t <;> rw [hd] at hs <;> simp [isSlice] at hs
    exact ⟨_, rfl⟩
  obtain ⟨e, hd⟩ := hd
  obtain ⟨t1, _, hd1, h1⟩ := Env.desc_some hE hd (by simp)
  have hu := run_underlying (w := w) h1.und
  rw [hd1] at hu
  unfold lenAV at h ⊢
  split at h
  · obtain ⟨v, rfl, hv⟩ := hi.one
    have : v = .slice none 0 0 := hv
    subst this
    exact ⟨_, by simp [Builtin.len_, ht, hu, Result.andThen]; rfl, rfl⟩
  · rename_i own xs
    obtain ⟨v, rfl, hv⟩ := hi.one
    obtain ⟨ao, cap, rfl, _⟩ := (show CV.G g w (.lim own xs) v from hv).1
    exact ⟨_, by simp [Builtin.len_, ht, hu, Result.andThen]; rfl, rfl⟩
  · rename_i own t' rows
    obtain ⟨v, rfl, hv⟩ := hi.one
    have hv' := (show CV.G g w (.sl own t' rows) v from hv).1
    simp only [CV.P] at hv'
    obtain ⟨ao, cap, rfl, _⟩ := hv'
    exact ⟨_, by simp [Builtin.len_, ht, hu, Result.andThen]; rfl, rfl⟩
  · rename_i id n
    obtain ⟨v, rfl, hv⟩ := hi.one
    obtain ⟨ao, rfl, _⟩ := (show CV.G g w (.rf id n) v from hv)
    exact ⟨_, by simp [Builtin.len_, ht, hu, Result.andThen]; rfl, rfl⟩
  · exact h.elim
theorem all2_strip {ins : List AV} {vs : List Value} (h : All2 (fun c v => AV.G g w c v) ins vs) : All2 (fun c v => AV.P g.X w c v) (ins.map AV.strip) vs :=
  All2.map_left.2 (h.imp fun _ _ h => h.strip)
theorem AV.P.toG' {c : AV} {v : Value} (h : c.P g.X w v) (hs : c.strip = c) : c.G g w v := by
  have := h.toG (g := g)
  rw [hs] at this
  exact this
theorem rowIn_get {s : AS} : ∀ (ks : List (Nat × Nat)) (i : Nat) (c : RC), (∀ k ∈ ks, k.2 = 1) → rowIn ks (ks.map fun r => s.get r.1 r.2) i = some c → s.get i 1 = some (.row c)
  | [], i, c, _, h => by simp [rowIn] at h
  | k :: ks, i, c, hk, h => by
    have ih := rowIn_get (s := s) ks i c fun k hm => hk k (List.mem_cons_of_mem _ hm)
    have h1 := hk k (List.mem_cons_self ..)
    simp only [List.map_cons] at h
    cases hg : s.get k.1 k.2 with
    | none => rw [hg] at h; exact ih (by simpa only [rowIn] using h)
    | some r =>
      rw [hg] at h
      cases r with
      | row c' =>
        simp only [rowIn] at h
        cases hi : k.1 == i with
        | true =>
          rw [hi] at h
          simp only [cond_true, Option.some.injEq] at h
          subst h
          rw [beq_iff_eq] at hi
          rw [← hi, ← h1]
          exact hg
        | false =>
          rw [hi] at h
          exact ih h
      | av _ => exact ih (by simpa only [rowIn] using h)
      | cv _ => exact ih (by simpa only [rowIn] using h)
      | off => exact ih (by simpa only [rowIn] using h)
      | ext _ => exact ih (by simpa only [rowIn] using h)
theorem cvsRfK_one : ∀ (l : List CV), ∀ k ∈ cvsRfK l, k.2 = 1
  | [], k, h => by simp [cvsRfK] at h
  | c :: l, k, h => by
    simp only [cvsRfK, List.mem_append] at h
    rcases h with h | h
    · cases c <;> simp [CV.rfK] at h
      rw [h]
    · exact cvsRfK_one l k h
theorem avsRfK_one : ∀ (l : List AV), ∀ k ∈ avsRfK l, k.2 = 1
  | [], k, h => by simp [avsRfK] at h
  | a :: l, k, h => by
    simp only [avsRfK, List.mem_append] at h
    rcases h with h | h
    · cases a with
      | one x => cases x with
        | cel c => cases c <;> simp [AV.rfK, A1.rfK, CV.rfK] at h; rw [h]
        | agg l => exact cvsRfK_one l k h
      | _ => simp [AV.rfK] at h
    · exact avsRfK_one l k h
theorem CV.dull_P {X X' : Nat → Nat → Prop} {c : CV} {v : Value} (h : c.P X w v) : c.dull.P X' w v := by
  have hf := h.flat
  cases c <;> simp only [CV.dull, CV.P] at h ⊢ <;> first | exact h | exact hf
theorem A1.dull_P {X X' : Nat → Nat → Prop} {c : A1} {v : Value} (h : c.P X w v) : c.dull.P X' w v := by
  cases c with
  | cel c => exact CV.dull_P h
  | agg l =>
    obtain ⟨vs, hv, hl⟩ := h
    refine ⟨vs, hv, ?_⟩
    clear hv
    induction hl with
    | nil => exact .nil
    | cons h _ ih => exact .cons (CV.dull_P h) ih
theorem AV.dull_P {X X' : Nat → Nat → Prop} {c : AV} {v : Value} (h : c.P X w v) : c.dull.P X' w v := by
  cases c with
  | one c => exact A1.dull_P h
  | tup l =>
    obtain ⟨vs, hv, hl⟩ := h
    refine ⟨vs, hv, ?_⟩
    clear hv
    induction hl with
    | nil => exact .nil
    | cons h _ ih => exact .cons (A1.dull_P h) ih
  | any => trivial
  | und => trivial
theorem CV.dull_strip (c : CV) : c.dull.strip = c.dull := by cases c <;> rfl
theorem A1.dull_strip (c : A1) : c.dull.strip = c.dull := by
  cases c with
  | cel c => simp only [A1.dull, A1.strip, CV.dull_strip]
  | agg l => simp only [A1.dull, A1.strip, List.map_map]; congr 1; exact List.map_congr_left fun c _ => CV.dull_strip c
theorem AV.dull_strip (c : AV) : c.dull.strip = c.dull := by
  cases c with
  | one c => simp only [AV.dull, AV.strip, A1.dull_strip]
  | tup l => simp only [AV.dull, AV.strip, List.map_map]; congr 1; exact List.map_congr_left fun c _ => A1.dull_strip c
  | any => rfl
  | und => rfl
theorem rowsP_flat' {X : Nat → Nat → Prop} {w : World} {b t : Nat} : ∀ (rows : List (List CV)) (off : Nat), allLen t rows → (∀ j x, rows.flatten[j]? = some x → ∃ v, seenAt X w b (off + j) v ∧ x.P X w v) → rowsP X w b off t rows
  | [], off, _, _ => by simp only [rowsP]
  | r :: rs, off, hl, h => by
    simp only [rowsP]
    refine ⟨hl.1, ?_, rowsP_flat' rs (off + t) hl.2 fun j x hx => ?_⟩
    · have key : ∀ (l : List CV) (off : Nat), (∀ j x, l[j]? = some x → ∃ v, seenAt X w b (off + j) v ∧ x.P X w v) → cellsP X w b off l := by
        intro l
        induction l with
        | nil => intro off _; simp only [cellsP]
        | cons x l ih =>
          intro off h
          simp only [cellsP]
          exact ⟨by simpa using h 0 x rfl, ih (off + 1) fun j y hy => by have := h (j + 1) y (by simpa using hy); rwa [show off + (j + 1) = off + 1 + j by omega] at this⟩
      exact key r off fun j x hx => h j x (by rw [List.flatten_cons, List.getElem?_append_left (List.getElem?_eq_some_iff.1 hx).1]; exact hx)
    · have := h (t + j) x (by rw [List.flatten_cons, List.getElem?_append_right (by rw [hl.1]; omega), hl.1, Nat.add_sub_cancel_left]; exact hx)
      rwa [show off + (t + j) = off + t + j by omega] at this
/-- own memory, without the rows that are looked at -/
def lentX (g : Gh) (L : Nat → Option RC) (b o : Nat) : Prop := g.X b o ∧ ∀ i c, L i = some c → ¬ (0 < g.κ i ∧ b = g.σ i)
theorem CV.brw_P (H : Gam N X0 w0 s a w g who) {L : Nat → Option RC} (hL : ∀ i c, L i = some c → s.get i 1 = some (.row c)) {x : CV} {v : Value} (hok : x.brwOk L) (hx : x.G g w v) : (x.brw L).P (lentX g L) w v := by
  have hevo : Evo g.X w (lentX g L) w := ⟨Nat.le_refl _, fun b o _ hx => ⟨rfl, fun h => hx h.1⟩⟩
  have hkeep : x.strip.P (lentX g L) w v := CV.P.evo hevo _ hx.strip
  cases x <;> first | exact hkeep | skip
  case rf i n =>
    simp only [CV.brw]
    simp only [CV.brwOk] at hok
    cases hi : L i with
    | none => simp only [cvRow, CV.P]; exact CV.G.flat hx
    | some c =>
      rw [hi] at hok
      have hn : n = c.len := hok
      subst hn
      obtain ⟨_, cok, hle, hown, hcells⟩ := H.res _ _ _ (hL i c hi)
      obtain ⟨ao, rfl, hao⟩ := (show CV.G g w (.rf i c.len) v from hx)
      have hblk : 0 < c.len → ao = some ⟨g.σ i, 0, none⟩ ∧ 0 < g.κ i := fun hn => by
        rcases hao with ⟨_, h, _⟩ | h
        · omega
        · exact ⟨h, by omega⟩
      have hseen : ∀ j u, 0 < g.κ i → w.cell? ⟨g.σ i, j, none⟩ = some u → seenAt (lentX g L) w (g.σ i) (0 + j) u := fun j u hk hu => ⟨(hown hk).2.1, fun h => h.2 i c hi ⟨hk, rfl⟩, by rw [Nat.zero_add]; exact hu⟩
      have hcap : ao = none → g.κ i = 0 := fun h => by
        rcases hao with ⟨_, _, h'⟩ | h'
        · exact h'
        · rw [h] at h'; cases h'
      cases c with
      | u32 xs =>
        simp only [cvRow, CV.P]
        refine ⟨ao, g.κ i, rfl, hle, hcap, cok, fun hp => ?_⟩
        obtain ⟨h1, h2⟩ := hblk hp
        refine ⟨g.σ i, 0, h1, fun j hj => ?_⟩
        obtain ⟨u, hu, hP⟩ := hcells j (u32C xs[j]) (by simp [RC.flat, hj])
        have e : u = .int .u32 (xs[j] : Int) := hP
        subst e
        have : (xs.getD j 0 : Nat) = xs[j] := by rw [List.getD_eq_getElem?_getD, List.getElem?_eq_getElem hj]; rfl
        rw [this]
        exact hseen j _ h2 hu
      | gen t rows =>
        simp only [cvRow, CV.P]
        refine ⟨ao, g.κ i, rfl, hle, hcap, fun hp => ?_⟩
        obtain ⟨h1, h2⟩ := hblk hp
        refine ⟨g.σ i, 0, h1, rowsP_flat' _ 0 cok.2 fun j x hx => ?_⟩
        obtain ⟨u, hu, hP⟩ := hcells j x hx
        exact ⟨u, hseen j u h2 hu, CV.P.evo hevo x hP⟩
theorem cvsBrw_get {L : Nat → Option RC} : ∀ {l : List CV}, cvsBrw L l → ∀ x ∈ l, x.brwOk L
  | y :: l, h, x, hx => by
    rcases List.mem_cons.1 hx with rfl | hx
    · exact h.1
    · exact cvsBrw_get h.2 x hx
theorem AV.brw_P (H : Gam N X0 w0 s a w g who) {L : Nat → Option RC} (hL : ∀ i c, L i = some c → s.get i 1 = some (.row c)) {x : AV} {v : Value} (hok : x.brwOk L) (hx : x.G g w v) : (x.brw L).P (lentX g L) w v := by
  have hevo : Evo g.X w (lentX g L) w := ⟨Nat.le_refl _, fun b o _ hx => ⟨rfl, fun h => hx h.1⟩⟩
  have hP1 : ∀ (c : A1) (v : Value), c.P g.X w v → c.P (lentX g L) w v := by
    intro c v h
    cases c with
    | cel c => exact CV.P.evo hevo c h
    | agg l =>
      obtain ⟨vs, hv, hl⟩ := h
      exact ⟨vs, hv, hl.imp fun c v hc => hc.evo hevo c⟩
  cases x with
  | one x => cases x with
    | cel c => exact CV.brw_P H hL hok hx
    | agg l =>
      obtain ⟨vs, hv, hl⟩ := hx
      refine ⟨vs, hv, ?_⟩
      have hg := cvsBrw_get (show cvsBrw L l from hok)
      clear hv hok
      induction hl with
      | nil => exact .nil
      | cons h _ ih => exact .cons (CV.brw_P H hL (hg _ (by simp)) h) (ih fun x hx => hg x (by simp [hx]))
  | tup l =>
    obtain ⟨vs, hv, hl⟩ := hx
    refine ⟨vs, hv, ?_⟩
    clear hv hok
    induction hl with
    | nil => exact .nil
    | cons h _ ih => exact .cons (hP1 _ _ h.strip) ih
  | any => trivial
  | und => exact hx
theorem avsBrw_P (H : Gam N X0 w0 s a w g who) {L : Nat → Option RC} (hL : ∀ i c, L i = some c → s.get i 1 = some (.row c)) {ins : List AV} {vs : List Value} (hok : avsBrw L ins) (h : All2 (fun c v => AV.G g w c v) ins vs) : All2 (fun c v => AV.P (lentX g L) w c v) (ins.map (AV.brw L)) vs := by
  induction h with
  | nil => exact .nil
  | cons h _ ih => exact .cons (AV.brw_P H hL hok.1 h) (ih hok.2)
theorem AV.P.evo' {X X' : Nat → Nat → Prop} {w w' : World} (e : Evo X w X' w') {x : AV} {v : Value} (h : x.P X w v) : x.P X' w' v := by
  have h1 : ∀ (c : A1) (v : Value), c.P X w v → c.P X' w' v := by
    intro c v h
    cases c with
    | cel c => exact CV.P.evo e c h
    | agg l =>
      obtain ⟨vs, hv, hl⟩ := h
      exact ⟨vs, hv, hl.imp fun c v hc => hc.evo e c⟩
  cases x with
  | one c => exact h1 c _ h
  | tup l =>
    obtain ⟨vs, hv, hl⟩ := h
    exact ⟨vs, hv, hl.imp fun c v hc => h1 c v hc⟩
  | any => trivial
  | und => exact h
theorem all2_append {α β : Type} {R : α → β → Prop} {l l' : List α} {m m' : List β} (h : All2 R l m) (k : All2 R l' m') : All2 R (l ++ l') (m ++ m') := by
  induction h with
  | nil => exact k
  | cons h _ ih => exact .cons h ih
theorem valsP_all2 {X : Nat → Nat → Prop} {w : World} : ∀ (cs : List CV) (us : List Value), valsP X w cs us → All2 (fun a v => AV.P X w a v) (cs.map AV.cel) us
  | [], us, h => by
    simp only [valsP] at h
    subst h
    exact .nil
  | c :: cs, us, h => by
    simp only [valsP] at h
    obtain ⟨u, us, rfl, h1, h2⟩ := h
    exact .cons h1 (valsP_all2 cs us h2)
theorem call_sound (hE : EnvOk P E) (H : Gam N X0 w0 s a w g who) {o : Oper} {c : Call} (ho : o.op = .call c) {fs : List (Option RV)} (hfs : fs = (needsOf E (.call c) (c.args.toList.map s.ev)).map fun r => s.get r.1 r.2)
    (h : (callAV E c (c.args.toList.map s.ev) fs).1) : Gives P a w o (fun v w' => (callAV E c (c.args.toList.map s.ev) fs).2.G g w' v) := by
  have hins := H.ins c.args.toList
  have hargs : c.args.map a.eval = (c.args.toList.map a.eval).toArray := by apply Array.ext'; simp
  generalize c.args.toList.map s.ev = ins at *
  generalize c.args.toList.map a.eval = vals at *
  unfold callAV at h ⊢
  split at h
  · rename_i f hcal
    have hrun : (∀ (args : Array Value) (w : World), (callFunc f args).run P w = .ok (.enter f args) w) → (execOp a.eval o).run P w = .ok (.enter f vals.toArray) w := fun hcall => by
      simp only [execOp, ho, resolve, hcal, hargs, Act.eval, Deferred.ofValue, Sem.run_bind, Sem.run_pure, Result.andThen, invoke]
      simp [hcall]
    obtain ⟨hlt, hchg, h⟩ := h
    unfold valCall at h ⊢
    split at h
    · split at h
      · rename_i d hd
        have hS := hE.fn _ _ hlt hd
        have hc := hS.runs _ g.X w _ h H.lt (all2_strip hins)
        intro K Q hk
        unfold Oper.wp
        rw [hrun hS.call, Oper.upon_enter]
        refine hc.mono fun e w' hh => ?_
        obtain ⟨v, rfl, hP, hb⟩ := hh
        exact hk v w' hb (AV.P.toG' hP (hS.flat _ h))
      · exact h.elim
    · rename_i hbw
      cases he : (avsRfK ins).isEmpty with
      | true =>
        simp only [he, cond_true] at h ⊢
        split at h
        · rename_i d hd
          have hS := hE.fn _ _ hlt hd
          have hc := hS.runs _ g.X w _ h H.lt (all2_strip hins)
          intro K Q hk
          unfold Oper.wp
          rw [hrun hS.call, Oper.upon_enter]
          refine hc.mono fun e w' hh => ?_
          obtain ⟨v, rfl, hP, hb⟩ := hh
          exact hk v w' hb (AV.P.toG' hP (hS.flat _ h))
        · exact h.elim
      | false =>
      simp only [he, cond_false] at h ⊢
      have hks : fs = (avsRfK ins).map fun r => s.get r.1 r.2 := by
        rw [hfs]
        obtain ⟨callee, args, ts⟩ := c
        simp only at hcal
        subst hcal
        simp only [needsOf, hchg, hbw, cond_true, cond_false]
      have hL : ∀ i c, rowIn (avsRfK ins) fs i = some c → s.get i 1 = some (.row c) := fun i c hi => rowIn_get _ i c (avsRfK_one ins) (by rw [← hks]; exact hi)
      have hXlt : ∀ b o, lentX g (rowIn (avsRfK ins) fs) b o → b < w.heap.size := fun b o hx => H.lt b o hx.1
      unfold brwCall at h ⊢
      split at h
      · rename_i dn hd
        (try simp only at h ⊢)
        have hS := hE.fnN _ _ hlt hd
        have hc := hS.runs _ (lentX g (rowIn (avsRfK ins) fs)) w _ h.2 hXlt (avsBrw_P H hL h.1 hins)
        intro K Q hk
        unfold Oper.wp
        rw [hrun hS.call, Oper.upon_enter]
        refine hc.mono fun e w' hh => ?_
        obtain ⟨v, rfl, hP, hb⟩ := hh
        refine hk v w' hb (AV.P.toG' (AV.P.evo' (X := fun b o => lentX g (rowIn (avsRfK ins) fs) b o ∨ b < w.heap.size) ⟨Nat.le_refl _, fun b o _ hx => ⟨rfl, fun hg => hx (.inr (H.lt b o hg))⟩⟩ hP) (hS.flat _ h.2))
      · rename_i hd
        (try simp only at h ⊢)
        split at h
        · rename_i d hd2
          have hS := hE.fn _ _ hlt hd2
          have hc := hS.runs _ (lentX g (rowIn (avsRfK ins) fs)) w _ h.2 hXlt (avsBrw_P H hL h.1 hins)
          intro K Q hk
          unfold Oper.wp
          rw [hrun hS.call, Oper.upon_enter]
          refine hc.mono fun e w' hh => ?_
          obtain ⟨v, rfl, hP, hb⟩ := hh
          exact hk v w' hb (AV.P.toG' (AV.dull_P hP) (AV.dull_strip _))
        · exact h.elim
  · rename_i t hcal
    split at h
    · rename_i f
      split at h
      · rename_i d hd
        obtain ⟨hlt, h⟩ := h
        have hS := hE.fn _ _ hlt hd
        have hc := hS.runs _ g.X w _ h H.lt (all2_strip hins)
        have ht : s.get t 0 = some (.av (.one (.cel (.fn f)))) := by
          obtain ⟨callee, args, ts⟩ := c
          simp only at hcal
          subst hcal
          simp only [needsOf, List.map_cons, List.map_nil, List.cons.injEq, and_true] at hfs
          exact hfs.symm
        have hv : a.tmps.getD t undef = .func (.func f) #[] #[] := (H.res _ _ _ ht).2.2
        have hr : (execOp a.eval o).run P w = .ok (.enter f vals.toArray) w := by
          simp only [execOp, ho, resolve, hcal, hargs, Act.eval, hv, Deferred.ofValue, Sem.run_bind, Sem.run_pure, Result.andThen, invoke]
          simp [hS.call]
        intro K Q hk
        unfold Oper.wp
        rw [hr, Oper.upon_enter]
        refine hc.mono fun e w' hh => ?_
        obtain ⟨v, rfl, hP, hb⟩ := hh
        exact hk v w' hb (AV.P.toG' hP (hS.flat _ h))
      · exact h.elim
    · rename_i f cs
      split at h
      · rename_i d hd
        obtain ⟨hlt, h⟩ := h
        have hS := hE.fn _ _ hlt hd
        have ht : s.get t 0 = some (.av (.one (.cel (.clo f cs)))) := by
          obtain ⟨callee, args, ts⟩ := c
          simp only at hcal
          subst hcal
          simp only [needsOf, List.map_cons, List.map_nil, List.cons.injEq, and_true] at hfs
          exact hfs.symm
        obtain ⟨us, hv, hus⟩ := (show ∃ us : List Value, a.tmps.getD t undef = .func (.func f) #[] us.toArray ∧ valsP g.X w cs us from by
          have := (H.res _ _ _ ht).2.2
          simpa only [AV.G, A1.G, CV.G, CV.P] using this)
        have hc := hS.runs _ g.X w _ h H.lt (all2_append (all2_strip hins) (valsP_all2 cs us hus))
        have hr : (execOp a.eval o).run P w = .ok (.enter f (vals ++ us).toArray) w := by
          simp only [execOp, ho, resolve, hcal, hargs, Act.eval, hv, Deferred.ofValue, Sem.run_bind, Sem.run_pure, Result.andThen, invoke]
          simp [hS.call]
        intro K Q hk
        unfold Oper.wp
        rw [hr, Oper.upon_enter]
        refine hc.mono fun e w' hh => ?_
        obtain ⟨v, rfl, hP, hb⟩ := hh
        exact hk v w' hb (AV.P.toG' hP (hS.flat _ h))
      · exact h.elim
    · exact h.elim
  · rename_i hcal
    split at h
    · rename_i t ht
      obtain ⟨v, hr, hG⟩ := len_sound (P := P) hE hins (ty := o.type) c.argTypes ht h.1 h.2
      refine gives_value (v := v) ?_ hG
      simp only [execOp, ho, resolve, hcal, hargs, Sem.run_bind, Sem.run_pure, Result.andThen, invoke, builtin]
      simp [hr]
    · exact h.elim
  · rename_i hcal
    split at h
    · rename_i k x k' y
      obtain ⟨u, v, rfl, hu, hv⟩ := hins.two
      have e1 : u = .int k x := hu
      have e2 : v = .int k' y := hv
      subst e1 e2
      refine gives_value (v := .int k (max x y)) ?_ rfl
      simp only [execOp, ho, resolve, hcal, hargs, Sem.run_bind, Sem.run_pure, Result.andThen, invoke, builtin]
      simp [run_max_int2, Int.max_def]
      omega
    · exact h.elim
  · rename_i hcal
    split at h
    · rename_i k x k' y
      obtain ⟨u, v, rfl, hu, hv⟩ := hins.two
      have e1 : u = .int k x := hu
      have e2 : v = .int k' y := hv
      subst e1 e2
      refine gives_value (v := .int k (min x y)) ?_ rfl
      simp only [execOp, ho, resolve, hcal, hargs, Sem.run_bind, Sem.run_pure, Result.andThen, invoke, builtin]
      simp [run_min_int2, Int.min_def]
      omega
    · exact h.elim
  · exact h.elim
theorem pickOp_sound (H : Gam N X0 w0 s a w g who) {o : Oper} {x y z : Operand} (ho : o.op = .pick x y z)
    (h : (pickOp [s.ev x, s.ev y, s.ev z]).1) : Gives P a w o (fun v w' => (pickOp [s.ev x, s.ev y, s.ev z]).2.G g w' v) := by
  have hx := H.ev x
  have hy := H.ev y
  have hz := H.ev z
  generalize s.ev x = ax at *
  generalize s.ev y = ay at *
  generalize s.ev z = az at *
  unfold pickOp at h ⊢
  split at h
  · rename_i b p q hi
    cases hi
    have e1 : a.eval x = .bool b := hx
    exact gives_value (v := if b then a.eval y else a.eval z) (by simp [execOp, ho, e1, asBool]) (pick_G hy hz)
  · exact h.elim
theorem id_sound (H : Gam N X0 w0 s a w g who) {o : Oper} {x : Operand} (ho : o.op = .move x ∨ o.op = .assign x)
    : Gives P a w o (fun v w' => (idAV [s.ev x]).2.G g w' v) := by
  refine gives_value (v := a.eval x) ?_ (H.ev x)
  rcases ho with ho | ho <;> simp [execOp, ho]
/-- whatever an operation's answer is asked to be, it is -/
theorem val_sound (hE : EnvOk P E) (H : Gam N X0 w0 s a w g who) (o : Oper)
    (h : (valOf E o.op ((insOf o.op).map s.ev) ((needsOf E o.op ((insOf o.op).map s.ev)).map fun r => s.get r.1 r.2)).1) (Q0 : Exit → Act → World → Prop) (K : Act → World → Prop)
    (hk : ∀ v w', Below w.heap.size w w' → (valOf E o.op ((insOf o.op).map s.ev) ((needsOf E o.op ((insOf o.op).map s.ev)).map fun r => s.get r.1 r.2)).2.G g w' v → K (a.put o.dst v) w') : o.wp P a w K Q0 := by
  cases ho : o.op <;> rw [ho] at h hk <;> simp only [valOf, insOf, List.map_cons, List.map_nil] at h hk <;> first | exact h.elim | skip
  case move x => exact id_sound H (.inl ho) K Q0 hk
  case assign x => exact id_sound H (.inr ho) K Q0 hk
  case pick x y z => exact pickOp_sound H ho h K Q0 hk
  case build t ps => exact build_sound hE H ho h K Q0 hk
  case buildSlice t n ps => exact buildSlice_sound hE H ho h K Q0 hk
  case load t x => exact load_sound hE H ho (by rw [ho]; exact h) K Q0 (by rw [ho]; exact hk)
  case nilCheck x => exact nil_sound H ho h K Q0 hk
  case binOp op t x y u =>
    cases hw : wrpB E with
    | false => rw [hw] at h hk; exact bin_sound hE H ho h K Q0 hk
    | true => rw [hw] at h hk; exact wrap_sound H ho (fun h => bin_sound hE H ho h) h K Q0 hk
  case unOp op t x => exact un_sound H ho h K Q0 hk
  case convert t u x => exact conv_sound hE H ho h K Q0 hk
  case fieldAddr t x f => exact fieldAddr_sound hE H ho h K Q0 hk
  case field t x f => exact field_sound hE H ho h K Q0 hk
  case indexAddr t x i => exact idx_sound hE H ho h K Q0 hk
  case extract x i => exact ext_sound H ho h K Q0 hk
  case call c => exact call_sound hE H ho rfl h K Q0 hk
  case slice t x lo hi mx =>
    cases mx with
    | some _ => exact h.elim
    | none => exact slice_sound hE H ho h K Q0 hk
  case makeFunc fn first caps => exact makeFunc_sound H ho h K Q0 hk
end
end Go.Proofs.YtnjgliojkoeneaaGreat
namespace Go.Proofs.YtnjgliojkoeneaaGreat
open Go.RowKit
section
variable {P : Program} {E : Env} {N : Nat} {X0 : Nat → Nat → Prop} {w0 : World} {s : AS} {a : Act} {w : World} {g : Gh} {who : Nat → Option (Nat × Bool)}
theorem row_in {B : Nat} {n k : Nat} {c : RC} (h : RV.H B g who a w n k (.row c)) {j : Nat} {x : CV} (hx : c.flat[j]? = some x) : 0 < g.κ n ∧ j < g.κ n * c.t := by
  obtain ⟨_, hok, hle, _, _⟩ := h
  have hj := (List.getElem?_eq_some_iff.1 hx).1
  rw [RC.flat_len hok] at hj
  have h2 : c.len * c.t ≤ g.κ n * c.t := Nat.mul_le_mul_right _ hle
  refine ⟨?_, by omega⟩
  rcases Nat.eq_zero_or_pos (g.κ n) with h0 | h0
  · rw [h0] at h2; omega
  · exact h0
/-- a row stays as it is -/
theorem row_keep {B : Nat} {a' : Act} {w' : World} {g' : Gh} {who' : Nat → Option (Nat × Bool)} {n k : Nat} {c : RC} (h : RV.H B g who a w n k (.row c)) (e : Evo g.X w g'.X w') (hσ : g'.σ n = g.σ n) (hκ : g'.κ n = g.κ n)
    (hk : 0 < g.κ n → who' (g.σ n) = some (n, true) ∧ ∀ j, j < g.κ n * c.t → g'.X (g.σ n) j ∧ w'.frozen? ⟨g.σ n, j, none⟩ = w.frozen? ⟨g.σ n, j, none⟩ ∧ w'.cell? ⟨g.σ n, j, none⟩ = w.cell? ⟨g.σ n, j, none⟩) : RV.H B g' who' a' w' n k (.row c) := by
  have hin := fun {j : Nat} {x : CV} (hx : c.flat[j]? = some x) => row_in h hx
  obtain ⟨h1, h2, h3, h4, h5⟩ := h
  simp only [RV.H, hσ, hκ]
  refine ⟨h1, h2, h3, fun hp => ?_, fun j x hx => ?_⟩
  · obtain ⟨k1, k2, k3, k4⟩ := h4 hp
    obtain ⟨l1, l2⟩ := hk hp
    exact ⟨k1, Nat.lt_of_lt_of_le k2 e.1, l1, fun j hj => ⟨(l2 j hj).1, by rw [(l2 j hj).2.1]; exact (k4 j hj).2.1, by rw [(l2 j hj).2.2]; exact (k4 j hj).2.2⟩⟩
  · obtain ⟨hp, hj⟩ := hin hx
    obtain ⟨v, hv, hP⟩ := h5 j x hx
    exact ⟨v, by rw [((hk hp).2 j hj).2.2]; exact hv, CV.P.evo e x hP⟩
theorem step_below {X : Nat → Nat → Prop} {who : Nat → Option (Nat × Bool)} {w w' : World} (hb : Below w.heap.size w w') : Step X who w X who w' := ⟨hb.size, fun _ h => .inl h, fun k hk _ => hb.block k hk, fun _ _ _ h => h⟩
theorem setCells_block {k b : Nat} (h : k ≠ b) : ∀ (us : List Value) (o : Nat) (w : World), (w.setCells b o us).heap[k]? = w.heap[k]?
  | [], _, _ => rfl
  | u :: us, o, w => by
    rw [World.setCells, setCells_block h us]
    simp only [World.setCell]
    rw [Array.getElem?_modify, if_neg (fun e => h e.symm)]
/-- what a resource says stays so in a world that has only grown -/
theorem RV.H.below {B : Nat} {a' : Act} {w' : World} {n k : Nat} {rv : RV} (h : rv.H B g who a w n k) (hb : Below w.heap.size w w') (hs : k = 0 → a'.tmps.size = a.tmps.size ∧ a'.tmps.getD n undef = a.tmps.getD n undef) :
    rv.H B g who a' w' n k := by
  cases rv with
  | av v =>
    obtain ⟨h1, h2, h3⟩ := h
    obtain ⟨e1, e2⟩ := hs h1
    exact ⟨h1, by rw [e1]; exact h2, by rw [e2]; exact h3.evo (evo_below hb) fun _ _ => ⟨rfl, rfl⟩⟩
  | cv c =>
    obtain ⟨h1, h2, h3, h4, h5, h6, v, h7, h8⟩ := h
    exact ⟨h1, h2, Nat.lt_of_lt_of_le h3 hb.size, h4, h5, by rw [hb.frozen (p := ⟨g.σ n, k - 1, none⟩) h3]; exact h6, v, by rw [hb.cell (p := ⟨g.σ n, k - 1, none⟩) h3]; exact h7, h8.evo (evo_below hb) fun _ _ => ⟨rfl, rfl⟩⟩
  | row c =>
    have hrow := h
    obtain ⟨_, _, _, h4, _⟩ := h
    refine row_keep hrow (evo_below hb) rfl rfl fun hp => ?_
    obtain ⟨k1, k2, k3, k4⟩ := h4 hp
    exact ⟨k3, fun j hj => ⟨(k4 j hj).1, hb.frozen (p := ⟨g.σ n, j, none⟩) k2, hb.cell (p := ⟨g.σ n, j, none⟩) k2⟩⟩
  | off => trivial
  | ext p => exact ⟨h.1, h.2.2 _ _ _ _ _ _ _ _ h.2.1 (step_below hb), h.2.2⟩
theorem put_slot {d n : Nat} {v : Value} (hn : n ≠ d) : (a.put (some d) v).tmps.size = a.tmps.size ∧ (a.put (some d) v).tmps.getD n undef = a.tmps.getD n undef := by
  constructor
  · simp [Act.put]
  · simp only [Act.put, Array.getD_eq_getD_getElem?]
    rw [Array.getElem?_setIfInBounds_ne (by omega)]
theorem put_self {d : Nat} {v : Value} (h : d < a.tmps.size) : (a.put (some d) v).tmps.getD d undef = v := by
  simp [Act.put, Array.getD_eq_getD_getElem?, h]
theorem Gam.put (H : Gam N X0 w0 s a w g who) {d : Nat} (hd : d < N) {w' : World} (hb : Below w.heap.size w w') {v : Value} {rv : RV} (hG : ∀ av, rv = .av av → av.G g w' v) (hrv : (∃ av, rv = .av av) ∨ rv = .off) :
    Gam N X0 w0 ((d, 0, rv) :: s) (a.put (some d) v) w' g who := by
  refine ⟨H.defers, by have := H.size; simp [Act.put]; exact this, bthen H.below hb, H.sub, H.sup, fun b o h => Nat.lt_of_lt_of_le (H.lt b o h) hb.size, H.whole, ?_⟩
  intro n k r hr
  by_cases hnk : d = n ∧ 0 = k
  · obtain ⟨rfl, rfl⟩ := hnk
    rw [AS.get_cons_self] at hr
    cases hr
    have hsz : d < a.tmps.size := by rw [H.size]; exact hd
    rcases hrv with ⟨av, rfl⟩ | rfl
    · exact ⟨rfl, by simpa [Act.put] using hsz, by rw [put_self hsz]; exact hG av rfl⟩
    · trivial
  · rw [AS.get_cons_ne _ _ hnk] at hr
    exact (H.res n k r hr).below hb fun hk => put_slot (by rintro rfl; exact hnk ⟨rfl, hk.symm⟩)
theorem Gam.grow (H : Gam N X0 w0 s a w g who) {w' : World} (hb : Below w.heap.size w w') : Gam N X0 w0 s a w' g who :=
  ⟨H.defers, H.size, bthen H.below hb, H.sub, H.sup, fun b o h => Nat.lt_of_lt_of_le (H.lt b o h) hb.size, H.whole, fun n k r hr => (H.res n k r hr).below hb fun _ => ⟨rfl, rfl⟩⟩
theorem get_mkCells (id : Nat) : ∀ (cs : List CV) (k0 n k : Nat) (s : AS), (mkCells id k0 cs ++ s).get n k = if n = id ∧ k0 ≤ k ∧ k < k0 + cs.length then (cs[k - k0]?).map RV.cv else s.get n k
  | [], k0, n, k, s => by simp only [mkCells, List.nil_append, List.length_nil, Nat.add_zero]; rw [if_neg (by omega)]
  | c :: cs, k0, n, k, s => by
    simp only [mkCells, List.cons_append]
    by_cases h : id = n ∧ k0 = k
    · obtain ⟨rfl, rfl⟩ := h
      rw [AS.get_cons_self, if_pos ⟨rfl, Nat.le_refl _, by simp⟩]
      simp
    · rw [AS.get_cons_ne _ _ h, get_mkCells id cs (k0 + 1) n k s]
      by_cases h2 : n = id ∧ k0 + 1 ≤ k ∧ k < k0 + 1 + cs.length
      · rw [if_pos h2, if_pos ⟨h2.1, by omega, by simp; omega⟩]
        obtain ⟨j, hj⟩ : ∃ j, k - k0 = j + 1 := ⟨k - k0 - 1, by omega⟩
        rw [hj, show k - (k0 + 1) = j by omega]
        simp
      · rw [if_neg h2, if_neg]
        simp only [List.length_cons]
        rintro ⟨h3, h4, h5⟩
        exact h2 ⟨h3, by omega, by omega⟩
def upd {α : Type} (f : Nat → α) (d : Nat) (x : α) : Nat → α := fun n => if n = d then x else f n
theorem upd_self {α : Type} (f : Nat → α) (d : Nat) (x : α) : upd f d x d = x := if_pos rfl
theorem upd_ne {α : Type} (f : Nat → α) {d n : Nat} (x : α) (h : n ≠ d) : upd f d x n = f n := if_neg h
theorem step_new {who : Nat → Option (Nat × Bool)} {w w' : World} {b : Nat} {y : Option (Nat × Bool)} {X X' : Nat → Nat → Prop} (hX : ∀ k o, X k o → X' k o) (hb : Below w.heap.size w w') (hle : w.heap.size ≤ b) : Step X who w X' (upd who b y) w' :=
  ⟨hb.size, fun k h => by
    by_cases e : k = b
    · exact .inr (by omega)
    · rw [upd_ne _ _ e] at h; exact .inl h, fun k hk _ => hb.block k hk, fun k o _ h => hX k o h⟩
theorem AS.get_mem : ∀ {s : AS} {n k : Nat} {r : RV}, s.get n k = some r → (n, k, r) ∈ s
  | [], _, _, _, h => by simp [AS.get] at h
  | (n', k', v) :: s, n, k, r, h => by
    by_cases hnk : n' = n ∧ k' = k
    · obtain ⟨rfl, rfl⟩ := hnk
      rw [AS.get_cons_self] at h
      cases h
      simp
    · rw [AS.get_cons_ne _ _ hnk] at h
      exact List.mem_cons_of_mem _ (AS.get_mem h)
theorem AS.fresh_get {d n k : Nat} {r : RV} (hf : s.fresh d = true) (h : s.get n k = some r) : r.men d = false ∧ (n = d → k = 0) := by
  have := List.all_eq_true.1 hf _ (AS.get_mem h)
  simp only [Bool.and_eq_true, Bool.not_eq_true', Bool.or_eq_true, bne_iff_ne, beq_iff_eq] at this
  exact ⟨this.1, fun e => this.2.resolve_left (fun h => h e)⟩
theorem CV.strip_men {c : CV} (h : c.strip = c) (id : Nat) : c.men id = false := by
  cases c <;> simp [CV.strip] at h <;> first | rfl | skip
  case lim own xs => subst h; rfl
  case sl own t rows => subst h; rfl
/-- a new block of the activation's own -/
theorem Gam.alloc (H : Gam N X0 w0 s a w g who) {d : Nat} (hd : d < N) (hf : s.fresh d = true) {cs : List CV} {us : List Value} (hcs : All2 (fun c u => CV.G g w c u) cs us) (hm : ∀ c ∈ cs, c.men d = false) (t : Nat) :
    Gam N X0 w0 ((d, 0, .av (.cel (.ptr d 0))) :: mkCells d 1 cs ++ s) (a.put (some d) (.pointer (some ⟨w.heap.size, 0, none⟩))) (w.alloc (.cells us.toArray t))
      ⟨upd g.σ d w.heap.size, g.κ, fun b o => g.X b o ∨ b = w.heap.size⟩ (upd who w.heap.size (some (d, false))) := by
  have hb : Below w.heap.size w (w.alloc (.cells us.toArray t)) := below_alloc _
  have hevo : Evo g.X w (fun b o => g.X b o ∨ b = w.heap.size) (w.alloc (.cells us.toArray t)) := ⟨by simp, fun b o h hx => ⟨hb.cell (p := ⟨b, o, none⟩) h, by rintro (h' | h'); exact hx h'; omega⟩⟩
  have hle : w0.heap.size ≤ w.heap.size := H.below.size
  refine ⟨H.defers, by have := H.size; simp [Act.put]; exact this, bthen H.below hb, fun b o h => ⟨.inl (H.sub b o h).1, (H.sub b o h).2⟩, ?_, ?_, (fun b x hx => by
    by_cases e : b = w.heap.size
    · subst e; rw [upd_self] at hx; cases hx
    · rw [upd_ne _ _ e] at hx
      rcases H.whole b x hx with h | h
      · exact .inl fun o => .inl (h o)
      · exact .inr fun o hx => hx.elim (h o) e), ?_⟩
  · rintro b o (h | h)
    · exact H.sup b o h
    · right; omega
  · rintro b o (h | h)
    · have := H.lt b o h; simp; omega
    · simp; omega
  · intro n k r hr
    rw [List.cons_append] at hr
    by_cases hnk : d = n ∧ 0 = k
    · obtain ⟨rfl, rfl⟩ := hnk
      rw [AS.get_cons_self] at hr
      cases hr
      have hsz : d < a.tmps.size := by rw [H.size]; exact hd
      exact ⟨rfl, by simpa [Act.put] using hsz, by rw [put_self hsz]; show _ = _; simp [upd_self]⟩
    · rw [AS.get_cons_ne _ _ hnk, get_mkCells] at hr
      split at hr
      · rename_i hc
        obtain ⟨rfl, h1, h2⟩ := hc
        obtain ⟨c, hc, rfl⟩ := Option.map_eq_some_iff.1 hr
        obtain ⟨u, hu, hG⟩ := hcs.get hc
        refine ⟨by omega, by simp only [upd_self]; omega, by simp [upd_self], by simp [upd_self], .inr (by simp [upd_self]), by simp [upd_self], u, ?_, ?_⟩
        · simp only [upd_self, World.cell?_alloc_new]; simpa using hu
        · exact hG.evo hevo fun id hid => ⟨upd_ne _ _ (by rintro rfl; rw [hm c (List.mem_of_getElem? hc)] at hid; cases hid), rfl⟩
      · rename_i hc
        obtain ⟨f1, f2⟩ := AS.fresh_get hf hr
        have hres := H.res n k r hr
        cases r with
        | av v =>
          obtain ⟨h1, h2, h3⟩ := hres
          have hne : n ≠ d := by rintro rfl; exact hnk ⟨rfl, h1.symm⟩
          obtain ⟨e1, e2⟩ := put_slot (a := a) (v := .pointer (some ⟨w.heap.size, 0, none⟩)) hne
          exact ⟨h1, by rw [e1]; exact h2, by rw [e2]; exact h3.evo hevo fun id hid => ⟨upd_ne _ _ (by rintro rfl; simp only [RV.men] at f1; rw [f1] at hid; cases hid), rfl⟩⟩
        | cv c =>
          obtain ⟨h1, h2, h3, h4, h5, h6, v, h7, h8⟩ := hres
          have hne : n ≠ d := fun e => by have := f2 e; omega
          have hlt : g.σ n ≠ w.heap.size := by omega
          simp only [RV.H, upd_ne _ _ hne]
          exact ⟨h1, h2, Nat.lt_of_lt_of_le h3 hb.size, by rw [upd_ne _ _ hlt]; exact h4, .inl h5, by rw [hb.frozen (p := ⟨g.σ n, k - 1, none⟩) h3]; exact h6, v, by rw [hb.cell (p := ⟨g.σ n, k - 1, none⟩) h3]; exact h7,
            h8.evo hevo fun id hid => ⟨upd_ne _ _ (by rintro rfl; simp only [RV.men] at f1; rw [f1] at hid; cases hid), rfl⟩⟩
        | row c =>
          have hrow := hres
          obtain ⟨h1, _, _, h4, _⟩ := hres
          have hne : n ≠ d := fun e => by have := f2 e; omega
          refine row_keep hrow hevo (upd_ne _ _ hne) rfl fun hp => ?_
          obtain ⟨k1, k2, k3, k4⟩ := h4 hp
          have hlt : g.σ n ≠ w.heap.size := by omega
          exact ⟨by rw [upd_ne _ _ hlt]; exact k3, fun j hj => ⟨.inl (k4 j hj).1, hb.frozen (p := ⟨g.σ n, j, none⟩) k2, hb.cell (p := ⟨g.σ n, j, none⟩) k2⟩⟩
        | off => trivial
        | ext p =>
          have hne : n ≠ d := fun e => by have := f2 e; have := hres.1; omega
          simp only [RV.H, upd_ne _ _ hne]
          exact ⟨hres.1, hres.2.2 _ _ _ _ _ _ _ _ hres.2.1 (step_new (fun _ _ h => .inl h) hb (Nat.le_refl _)), hres.2.2⟩
theorem cvs_all : ∀ (n id k0 : Nat) (cs : List CV), cvs ((keysFrom id k0 n).map fun r => s.get r.1 r.2) = some cs → ∀ j, j < n → ∃ c, s.get id (k0 + j) = some (.cv c)
  | 0, _, _, _, _, j, hj => by omega
  | n + 1, id, k0, cs, h, j, hj => by
    simp only [keysFrom, List.map_cons] at h
    cases hg : s.get id k0 with
    | none => rw [hg] at h; simp [cvs] at h
    | some rv =>
      rw [hg] at h
      cases rv with
      | cv c =>
        simp only [cvs] at h
        split at h
        · rename_i cs' hcs
          cases j with
          | zero => exact ⟨c, hg⟩
          | succ j => rw [show k0 + (j + 1) = k0 + 1 + j by omega]; exact cvs_all n id (k0 + 1) cs' hcs j (by omega)
        · cases h
      | _ => simp [cvs] at h
theorem Gam.store (H : Gam N X0 w0 s a w g who) {id off : Nat} {cs : List CV} {us : List Value} (hcs : All2 (fun c u => CV.G g w c u) cs us) (hall : ∀ j, j < cs.length → ∃ c, s.get id (off + 1 + j) = some (.cv c)) :
    Gam N X0 w0 (mkCells id (off + 1) cs ++ s) a (w.setCells (g.σ id) off us) g who := by
  have hl := hcs.len
  have hown : ∀ j, j < cs.length → w0.heap.size ≤ g.σ id ∧ g.σ id < w.heap.size ∧ who (g.σ id) = some (id, false) ∧ g.X (g.σ id) (off + j) ∧ w.frozen? ⟨g.σ id, off + j, none⟩ = false ∧ (w.cell? ⟨g.σ id, off + j, none⟩).isSome = true := by
    intro j hj
    obtain ⟨c, hc⟩ := hall j hj
    obtain ⟨h1, h2, h3, h4, h5, h6, v, h7, h8⟩ := H.res _ _ _ hc
    rw [show off + 1 + j - 1 = off + j by omega] at *
    exact ⟨h2, h3, h4, h5, h6, by rw [h7]; rfl⟩
  have hsize : (w.setCells (g.σ id) off us).heap.size = w.heap.size := by
    have : ∀ (us : List Value) (o : Nat) (w : World), (w.setCells (g.σ id) o us).heap.size = w.heap.size := by
      intro us
      induction us with
      | nil => intro o w; rfl
      | cons u us ih => intro o w; rw [World.setCells, ih]; simp [World.setCell]
    exact this us off w
  have hout : ∀ (b o : Nat), ¬ (b = g.σ id ∧ off ≤ o ∧ o < off + us.length) → (w.setCells (g.σ id) off us).cell? ⟨b, o, none⟩ = w.cell? ⟨b, o, none⟩ := by
    intro b o h
    refine World.cell?_setCells_out _ _ _ _ _ fun e _ => ?_
    have e' : b = g.σ id := e
    show o < off ∨ off + us.length ≤ o
    rcases Nat.lt_or_ge o off with h1 | h1
    · exact .inl h1
    · right
      rcases Nat.lt_or_ge o (off + us.length) with h2 | h2
      · exact absurd ⟨e', h1, h2⟩ h
      · exact h2
  have hevo : Evo g.X w g.X (w.setCells (g.σ id) off us) := by
    refine ⟨by rw [hsize]; exact Nat.le_refl _, fun b o h hx => ⟨hout b o ?_, hx⟩⟩
    rintro ⟨rfl, h1, h2⟩
    have := (hown (o - off) (by omega)).2.2.2.1
    rw [show off + (o - off) = o by omega] at this
    exact hx this
  have hb0 : Below w0.heap.size w (w.setCells (g.σ id) off us) := by
    rcases us with _ | ⟨u, us⟩
    · exact Below.refl _ _
    · have hge := (hown 0 (by simp at hl; omega)).1
      have : ∀ (vs : List Value) (o : Nat) (v : World), Below w0.heap.size v (v.setCells (g.σ id) o vs) := by
        intro vs
        induction vs with
        | nil => intro o v; exact Below.refl _ _
        | cons x vs ih => intro o v; rw [World.setCells]; exact ((Below.refl _ _).setCell hge _).trans (ih _ _)
      exact this _ _ _
  refine ⟨H.defers, H.size, H.below.trans hb0, H.sub, H.sup, fun b o h => by rw [hsize]; exact H.lt b o h, H.whole, ?_⟩
  intro n k r hr
  rw [get_mkCells] at hr
  split at hr
  · rename_i hc
    obtain ⟨rfl, h1, h2⟩ := hc
    obtain ⟨c, hc, rfl⟩ := Option.map_eq_some_iff.1 hr
    obtain ⟨u, hu, hG⟩ := hcs.get hc
    obtain ⟨o1, o2, o3, o4, o5, o6⟩ := hown (k - (off + 1)) (by omega)
    have hk : off + (k - (off + 1)) = k - 1 := by omega
    rw [hk] at o4 o5
    refine ⟨by omega, o1, by rw [hsize]; exact o2, o3, o4, by rw [World.frozen?_setCells]; exact o5, u, ?_, hG.evo hevo fun _ _ => ⟨rfl, rfl⟩⟩
    have hj : k - (off + 1) < us.length := by omega
    have := World.cell?_setCells_in (g.σ n) us off w (fun j hj' => (hown j (by omega)).2.2.2.2.2) (k - (off + 1)) hj
    rw [hk] at this
    rw [this]
    rw [List.getElem?_eq_getElem hj] at hu
    exact hu
  · rename_i hc
    have hres := H.res n k r hr
    cases r with
    | av v =>
      obtain ⟨h1, h2, h3⟩ := hres
      exact ⟨h1, h2, h3.evo hevo fun _ _ => ⟨rfl, rfl⟩⟩
    | cv c =>
      obtain ⟨h1, h2, h3, h4, h5, h6, v, h7, h8⟩ := hres
      refine ⟨h1, h2, by rw [hsize]; exact h3, h4, h5, by rw [World.frozen?_setCells]; exact h6, v, ?_, h8.evo hevo fun _ _ => ⟨rfl, rfl⟩⟩
      rw [hout _ _ ?_]
      · exact h7
      · rintro ⟨e, e1, e2⟩
        have hj := hown 0 (by omega)
        have : some (n, false) = some (id, false) := by rw [← h4, e]; exact hj.2.2.1
        cases this
        exact hc ⟨rfl, by omega, by omega⟩
    | row c =>
      have hrow := hres
      obtain ⟨h1, _, _, h4, _⟩ := hres
      refine row_keep hrow hevo rfl rfl fun hp => ?_
      obtain ⟨k1, k2, k3, k4⟩ := h4 hp
      refine ⟨k3, fun j hj => ⟨(k4 j hj).1, by rw [World.frozen?_setCells], hout _ _ ?_⟩⟩
      rintro ⟨e, e1, e2⟩
      have hj := hown 0 (by omega)
      have : some (n, true) = some (id, false) := by rw [← k3, e]; exact hj.2.2.1
      cases this
    | off => trivial
    | ext p =>
      refine ⟨hres.1, hres.2.2 _ _ _ _ _ _ _ _ hres.2.1 ⟨by rw [hsize]; exact Nat.le_refl _, fun _ h => .inl h, fun k hk hn => ?_, fun _ _ _ h => h⟩, hres.2.2⟩
      rcases us with _ | ⟨u, us⟩
      · rfl
      · refine setCells_block (fun e => ?_) _ _ _
        have hj := hown 0 (by simp at hl; omega)
        rw [← e, hn] at hj
        cases hj.2.2.1
end
end Go.Proofs.YtnjgliojkoeneaaGreat
