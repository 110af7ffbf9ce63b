/- The abstract walk, fifth part: struct and slice literals, calls. No condition. -/
import Derived.Test.YtdojdghhbjjoeaaAd
import Derived.Great.BuildSlice
namespace Go.Proofs.Ytdojdghhbjjoeaa
open Go.RowKit

section
variable {P : Program} {E : Env} {N : Nat} {X0 : Nat → Nat → Prop} {w0 : World} {s : AS} {a : Act} {w : World} {g : Gh} {who : Nat → Option (Nat × Bool)}

theorem All2.set {α β : Type} {R : α → β → Prop} {l : List α} {m : List β} (h : All2 R l m) {x : α} {y : β} (hr : R x y) (i : Nat) : All2 R (l.set i x) (m.set i y) := by
  induction h generalizing i with
  | nil => exact .nil
  | cons h t ih => cases i with
    | zero => exact .cons hr t
    | succ i => exact .cons h (ih i)

theorem lay_all {R : CV → Value → Prop} {ns : List CV} {vs : List Value} (h : All2 R ns vs) : ∀ (cs : List CV) (l : List Value) (k off : Nat), All2 R cs l →
    ∃ l', (vs.zipIdx k).foldl (fun cs x => cs.setIfInBounds (off + x.2) x.1) l.toArray = List.toArray l' ∧ All2 R (lay cs (off + k) ns) l' := by
  induction h with
  | nil => intro cs l k off h; exact ⟨l, rfl, h⟩
  | cons h _ ih =>
    intro cs l k off hc
    simp only [List.zipIdx_cons, List.foldl_cons, lay, List.setIfInBounds_toArray]
    exact ih _ _ (k + 1) off (hc.set h _)

theorem A1.G.cells {x : A1} {v : Value} (h : x.G g w v) : ∃ vs : List Value, v.cells = vs.toArray ∧ All2 (fun c v => CV.G g w c v) x.cells vs := by
  cases x with
  | cel c =>
    have hf := CV.G.flat (show c.G g w v from h)
    refine ⟨[v], ?_, .cons h .nil⟩
    cases v <;> first | rfl | exact hf.elim
  | agg l =>
    obtain ⟨vs, rfl, hl⟩ := h
    exact ⟨vs, rfl, hl⟩

theorem fill_sound (place : Nat → Option (Nat × Nat)) : ∀ (parts : List (Nat × AV)) (pvs : List (Nat × Value)), All2 (fun p v => p.1 = v.1 ∧ AV.G g w p.2 v.2) parts pvs → ∀ (cs cs' : List CV) (l : List Value),
    All2 (fun c v => CV.G g w c v) cs l → fillCV place cs parts = some cs' → ∃ l', Instr.fill place l.toArray pvs = some (List.toArray l') ∧ All2 (fun c v => CV.G g w c v) cs' l' := by
  intro parts pvs h
  induction h with
  | nil => intro cs cs' l hc hf; simp only [fillCV, Option.some.injEq] at hf; subst hf; exact ⟨l, rfl, hc⟩
  | @cons p q _ _ hpq _ ih =>
    intro cs cs' l hc hf
    obtain ⟨i, x⟩ := p
    obtain ⟨j, v⟩ := q
    obtain ⟨e, hG⟩ := hpq
    simp only at e hG
    subst e
    cases x with
    | one x =>
      simp only [fillCV] at hf
      split at hf
      · cases hf
      · rename_i off size hp
        split at hf
        · rename_i hle
          obtain ⟨vs, hv, hvs⟩ := A1.G.cells (show x.G g w v from hG)
          obtain ⟨l1, e1, h1⟩ := lay_all hvs cs l 0 off hc
          obtain ⟨l', e2, h2⟩ := ih _ cs' l1 h1 hf
          refine ⟨l', ?_, h2⟩
          simp only [Instr.fill, hp, hv]
          rw [if_neg]
          · rw [← e2, ← e1]
            congr 1
            simp
          · have := hvs.len; have := hc.len; simp; omega
        · cases hf
    | tup _ => simp [fillCV] at hf
    | any => simp [fillCV] at hf
    | und => simp [fillCV] at hf

theorem run_mapM_fields (hE : EnvOk P E) : ∀ (fs : List Field), (fs.all fun f => (E.tt f.type).isSome) = true →
    (fs.mapM fun f => Functor.map (Prod.mk f.offset) (sizeOf f.type)).run P w = .ok (fs.map fun f => (f.offset, E.sz f.type)) w
  | [], _ => by simp
  | f :: fs, h => by
    simp only [List.all_cons, Bool.and_eq_true] at h
    obtain ⟨ti, ht⟩ := Option.isSome_iff_exists.1 h.1
    have hs := (hE.tt _ _ ht).size w
    have := run_mapM_fields hE fs h.2
    simp [List.mapM_cons, hs, this, Env.sz, ht]

theorem build_sound (hE : EnvOk P E) (H : Gam N X0 w0 s a w g who) {o : Oper} {t : Nat} {ps : Array (Nat × Operand)} (ho : o.op = .build t ps)
    (h : (buildAV E (E.tt t) (ps.toList.map (·.1)) ((ps.toList.map (·.2)).map s.ev)).1) : Gives P a w o (fun v w' => (buildAV E (E.tt t) (ps.toList.map (·.1)) ((ps.toList.map (·.2)).map s.ev)).2.G g w' v) := by
  unfold buildAV at h ⊢
  split at h
  · rename_i ti ht
    have hti := hE.tt _ _ ht
    split at h
    · rename_i fields hd
      split at h
      · rename_i cs hf
        have hu := run_underlying (w := w) hti.und
        rw [hd] at hu
        have hall : (fields.toList.all fun f => (E.tt f.type).isSome) = true := by simpa using h
        have hm := run_mapM_fields (P := P) (w := w) hE fields.toList hall
        have hz : ∃ zs : List Value, ti.zero.cells = zs.toArray ∧ All2 (fun c v => CV.G g w c v) ti.z1.cells zs := by
          have hz1 := hti.z1 g.X w
          have hst : ti.z1.strip = ti.z1 := hti.z1s
          have := A1.P.toG (g := g) hz1
          rw [hst] at this
          exact A1.G.cells this
        obtain ⟨zs, hz1, hz2⟩ := hz
        have hparts : All2 (fun (p : Nat × AV) (v : Nat × Value) => p.1 = v.1 ∧ AV.G g w p.2 v.2) ((ps.toList.map (·.1)).zip ((ps.toList.map (·.2)).map s.ev)) (ps.toList.map fun x => (x.1, a.eval x.2)) := by
          generalize ps.toList = l
          induction l with
          | nil => exact .nil
          | cons x l ih => exact .cons ⟨rfl, H.ev x.2⟩ ih
        obtain ⟨l', e1, e2⟩ := fill_sound _ _ _ hparts _ _ _ hz2 hf
        refine gives_value (v := .agg l'.toArray) ?_ ⟨l', rfl, e2⟩
        have hplace : placeOf E fields = fun i => (fields.toList.map fun f => (f.offset, E.sz f.type))[i]? := by
          funext i
          simp only [placeOf, List.getElem?_map, Array.getElem?_toList]
          cases hfi : fields[i]? with
          | none => rfl
          | some f =>
            have := (Array.all_eq_true'.1 h) f (Array.mem_of_getElem? hfi)
            obtain ⟨tf, htf⟩ := Option.isSome_iff_exists.1 this
            simp [htf, Env.sz]
        rw [hplace] at e1
        simp only [List.getElem?_map] at e1
        simp [execOp, ho, Instr.build, hti.zero, hu, Result.andThen, Array.mapM_eq_mapM_toList, hm, hz1]
        simp only [Array.getElem?_toList] at e1
        simp [e1]
      · exact h.elim
    · exact h.elim
  · exact h.elim

theorem rowsOf_G : ∀ (l : List AV) (vs : List Value), All2 (fun c v => AV.G g w c v) l vs → ∀ rows, rowsOf l = some rows →
    All2 (fun (r : List CV) (v : Value) => ∃ us : List Value, v.cells = us.toArray ∧ All2 (fun c u => CV.P g.X w c u) r us) rows vs := by
  intro l vs h
  induction h with
  | nil => intro rows hr; simp only [rowsOf, Option.some.injEq] at hr; subst hr; exact .nil
  | @cons x v _ _ hx _ ih =>
    intro rows hr
    cases x with
    | one x =>
      simp only [rowsOf] at hr
      split at hr
      · rename_i rs hrs
        cases hr
        refine .cons ?_ (ih rs hrs)
        obtain ⟨us, h1, h2⟩ := A1.G.cells (show x.G g w v from hx)
        exact ⟨us, h1, All2.map_left.2 (h2.imp fun c u hc => hc.strip)⟩
      · cases hr
    | tup _ => simp [rowsOf] at hr
    | any => simp [rowsOf] at hr
    | und => simp [rowsOf] at hr

theorem cellsP_new {X : Nat → Nat → Prop} {w' : World} {b : Nat} (hb : b < w'.heap.size) (hX : ∀ o, ¬ X b o) : ∀ (cs : List CV) (us : List Value) (off : Nat), All2 (fun c u => CV.P X w' c u) cs us →
    (∀ j v, us[j]? = some v → w'.cell? ⟨b, off + j, none⟩ = some v) → cellsP X w' b off cs := by
  intro cs us off h
  induction h generalizing off with
  | nil => intro _; simp only [cellsP]
  | @cons c u cs us hc _ ih =>
    intro hj
    simp only [cellsP]
    refine ⟨⟨u, ⟨hb, hX _, by simpa using hj 0 u rfl⟩, hc⟩, ih (off + 1) fun j v hv => ?_⟩
    have := hj (j + 1) v (by simpa using hv)
    rw [show off + 1 + j = off + (j + 1) by omega]; exact this

theorem rowsP_new {X : Nat → Nat → Prop} {w' : World} {b t : Nat} (hb : b < w'.heap.size) (hX : ∀ o, ¬ X b o) : ∀ (rows : List (List CV)) (vs : List Value) (off : Nat),
    All2 (fun (r : List CV) (v : Value) => ∃ us : List Value, v.cells = us.toArray ∧ All2 (fun c u => CV.P X w' c u) r us) rows vs → allLen t rows →
    (∀ j v, (vs.flatMap fun v => v.cells.toList)[j]? = some v → w'.cell? ⟨b, off + j, none⟩ = some v) → rowsP X w' b off t rows := by
  intro rows vs off h
  induction h generalizing off with
  | nil => intro _ _; simp only [rowsP]
  | @cons r v rows vs hr _ ih =>
    intro hl hj
    obtain ⟨us, h1, h2⟩ := hr
    simp only [allLen] at hl
    simp only [List.flatMap_cons, h1] at hj
    have hlen : us.length = t := by rw [← h2.len]; exact hl.1
    simp only [rowsP]
    refine ⟨hl.1, cellsP_new hb hX r us off h2 fun j v hv => hj j v ?_, ih (off + t) hl.2 fun j v hv => ?_⟩
    · rw [List.getElem?_append_left (by have := (List.getElem?_eq_some_iff.1 hv).1; simpa using this)]; simpa using hv
    · rw [Nat.add_assoc]
      refine hj (t + j) v ?_
      rw [List.getElem?_append_right (by simp [hlen])]
      simpa [hlen] using hv

theorem u32sOf_vals {X : Nat → Nat → Prop} {w' : World} : ∀ (rows : List (List CV)) (vs : List Value), All2 (fun (r : List CV) (v : Value) => ∃ us : List Value, v.cells = us.toArray ∧ All2 (fun c u => CV.P X w' c u) r us) rows vs →
    ∀ xs, u32sOf rows = some xs → (vs.flatMap fun v => v.cells.toList) = xs.map (fun x => Value.int .u32 x) ∧ vs.length = xs.length := by
  intro rows vs h
  induction h with
  | nil => intro xs hx; simp only [u32sOf, Option.some.injEq] at hx; subst hx; exact ⟨rfl, rfl⟩
  | @cons r v rows vs hr _ ih =>
    intro xs hx
    unfold u32sOf at hx
    split at hx
    · simp_all
    · rename_i x r' heq
      cases heq
      split at hx
      · rename_i ys hys
        cases hx
        obtain ⟨us, h1, h2⟩ := hr
        obtain ⟨u, rfl, hu⟩ := h2.one
        have e : u = .int .u32 x := hu
        obtain ⟨i1, i2⟩ := ih ys hys
        exact ⟨by simp [h1, i1, e], by simp [i2]⟩
      · cases hx
    · cases hx

theorem allU32_lt : ∀ {xs : List Int}, allU32 xs → ∀ x ∈ xs, 0 ≤ x ∧ x < 4294967296
  | x :: xs, h, y, hy => by
    rcases List.mem_cons.1 hy with rfl | hy
    · exact h.1
    · exact allU32_lt h.2 y hy

theorem evo_below {X : Nat → Nat → Prop} {w' : World} (hb : Below w.heap.size w w') : Evo X w X w' :=
  ⟨hb.size, fun b o h hx => ⟨hb.cell (p := ⟨b, o, none⟩) h, hx⟩⟩

theorem below_alloc (o : Obj) : Below w.heap.size w (w.alloc o) := (Below.refl _ _).alloc (Nat.le_refl _) _

/-- a slice literal's run -/
theorem buildSlice_run (hE : EnvOk P E) {t e n : Nat} {te : TI} (hd : E.desc t = .slice e) (ht : E.tt e = some te) (vs : List Value) (hl : vs.length = n) (hpos : 0 < te.size) (hsm : n * te.size ≤ 16777216)
    (hv : ∀ v ∈ vs, v.cells.size = te.size) (parts : Array (Nat × Value)) (hp : parts.toList = (vs.zipIdx 0).map fun x => (x.2, x.1)) :
    (Instr.buildSlice t n parts).run P w = .ok (.slice (some ⟨w.heap.size, 0, none⟩) n n) (w.alloc (.cells (vs.flatMap fun v => v.cells.toList).toArray e)) := by
  obtain ⟨t1, _, hd1, h1⟩ := Env.desc_some hE hd (by simp)
  have hu := run_underlying (w := w) h1.und
  rw [hd1] at hu
  have hte := hE.tt _ _ ht
  have hs := hte.size
  have hz := hte.zero
  by_cases h0 : n = 0
  · subst h0
    have : vs = [] := List.length_eq_zero_iff.1 hl
    subst this
    have hp' : parts.toList = [] := by simpa using hp
    simp [Instr.buildSlice, hu, hs, Result.andThen, hp', Instr.fill, newRow]
    congr 2
    apply Array.ext <;> simp
  · have hne : ¬ n * te.size = 0 := by
      intro h; rcases Nat.mul_eq_zero.1 h with h | h <;> omega
    have hf := Go.Great.fill_whole hpos vs ((Array.range (n * te.size)).map (te.zero.cells[· % te.zero.cells.size]!)) hv (by simp [hl])
    simp [Instr.buildSlice, hu, hs, hz, Result.andThen, hp, newRow, hne, show ¬ n * te.size > 2 ^ 24 by omega]
    rw [show (fun x : Nat => te.zero.cells[x % te.zero.cells.size]!) = (te.zero.cells[· % te.zero.cells.size]!) from rfl]
    simp [hf]


theorem Gam.evals (H : Gam N X0 w0 s a w g who) (l : List Operand) : All2 (fun c v => AV.G g w c v) (l.map s.ev) (l.map a.eval) := H.ins l

theorem u32sOf_len : ∀ (rows : List (List CV)) (xs : List Int), u32sOf rows = some xs → allLen 1 rows
  | [], _, _ => trivial
  | r :: rows, xs, h => by
    unfold u32sOf at h
    split at h
    · simp_all
    · rename_i x r' heq
      cases heq
      split at h
      · rename_i ys hys; exact ⟨rfl, u32sOf_len rows ys hys⟩
      · cases h
    · cases h

theorem allLen_vals {X : Nat → Nat → Prop} {w' : World} {t : Nat} {rows : List (List CV)} {vs : List Value} (h : All2 (fun (r : List CV) (v : Value) => ∃ us : List Value, v.cells = us.toArray ∧ All2 (fun c u => CV.P X w' c u) r us) rows vs)
    (hl : allLen t rows) : ∀ v ∈ vs, v.cells.size = t := by
  induction h with
  | nil => intro v hv; cases hv
  | cons hr _ ih =>
    obtain ⟨us, h1, h2⟩ := hr
    intro v hv
    rcases List.mem_cons.1 hv with rfl | hv
    · rw [h1]; have := h2.len; have := hl.1; simp; omega
    · exact ih hl.2 v hv

theorem isRange_eq : ∀ (l : List Nat) (k : Nat), isRange k l = true → l = List.range' k l.length
  | [], _, _ => rfl
  | x :: l, k, h => by
    simp only [isRange, Bool.and_eq_true, beq_iff_eq] at h
    rw [List.length_cons, List.range'_succ, ← isRange_eq l (k + 1) h.2, h.1]

theorem range_of {l : List Nat} {n : Nat} (h : isRange 0 l = true ∧ l.length = n) : l = List.range n := by
  rw [List.range_eq_range', ← h.2]; exact isRange_eq l 0 h.1

theorem limG_new {X : Nat → Nat → Prop} {w' : World} {b n : Nat} (hb : b < w'.heap.size) (hX : ∀ o, ¬ X b o) {xs : List Int} (hn : n = xs.length) (hx : allU32 xs)
    (hc : ∀ j v, (xs.map fun x => Value.int .u32 x)[j]? = some v → w'.cell? ⟨b, 0 + j, none⟩ = some v) : limG X w' (.slice (some ⟨b, 0, none⟩) n n) (xs.map Int.toNat) := by
  subst hn
  refine ⟨some ⟨b, 0, none⟩, xs.length, by simp, by simp, by simp, ?_, fun hp => ⟨b, 0, rfl, fun i hi => ⟨hb, hX _, ?_⟩⟩⟩
  · intro x hx'
    obtain ⟨y, hy, rfl⟩ := List.mem_map.1 hx'
    have := allU32_lt hx y hy
    omega
  · have hi' : i < xs.length := by simpa using hi
    have := hc i (.int .u32 xs[i]) (by simp [hi'])
    rw [this]
    have h2 := allU32_lt hx xs[i] (List.getElem_mem hi')
    simp [List.getD_eq_getElem?_getD, hi']
    omega

theorem buildSlice_sound (hE : EnvOk P E) (H : Gam N X0 w0 s a w g who) {o : Oper} {t n : Nat} {ps : Array (Nat × Operand)} (ho : o.op = .buildSlice t n ps)
    (h : (buildSliceAV E (E.desc t) n (ps.toList.map (·.1)) ((ps.toList.map (·.2)).map s.ev)).1) :
    Gives P a w o (fun v w' => (buildSliceAV E (E.desc t) n (ps.toList.map (·.1)) ((ps.toList.map (·.2)).map s.ev)).2.G g w' v) := by
  have hins := H.ins (ps.toList.map (·.2))
  unfold buildSliceAV at h ⊢
  split at h
  · rename_i e hd
    split at h
    · rename_i te ht
      split at h
      · rename_i rows hrows
        have hR := rowsOf_G _ _ hins rows hrows
        have hnX : ∀ o, ¬ g.X w.heap.size o := fun o hx => absurd (H.lt _ _ hx) (by omega)
        have hparts : ∀ ixs : ps.toList.map (·.1) = List.range n, (ps.map fun x => (x.1, a.eval x.2)).toList = (((ps.toList.map (·.2)).map a.eval).zipIdx 0).map fun x => (x.2, x.1) := by
          intro hix
          have hlen : ps.toList.length = n := by have := congrArg List.length hix; simpa using this
          apply List.ext_getElem?
          intro i
          by_cases hi : i < ps.toList.length
          · have h1 : (ps.toList.map (·.1))[i]? = some i := by rw [hix]; exact List.getElem?_range (by omega)
            have hi' : i < ps.size := by simpa using hi
            simp only [List.getElem?_map, Array.getElem?_toList, Array.toList_map, List.getElem?_zipIdx, Array.getElem?_eq_getElem hi', Option.map_some, Option.some.injEq, Nat.zero_add] at h1 ⊢
            rw [h1]
          · have hi' : ¬ i < ps.size := by simpa using hi
            simp [hi']
        have hevo : ∀ ob, Evo g.X w g.X (w.alloc ob) := fun ob => evo_below (below_alloc ob)
        split at h
        · rename_i hu32
          split at h
          · rename_i xs hxs
            obtain ⟨hs, hix, hlen, hn, hall⟩ := h
            obtain ⟨f1, f2⟩ := u32sOf_vals rows _ hR xs hxs
            have hl' : ((ps.toList.map (·.2)).map a.eval).length = n := by rw [← hlen, ← hins.len]
            have hv : ∀ v ∈ (ps.toList.map (·.2)).map a.eval, v.cells.size = te.size := by
              rw [hs]; exact allLen_vals hR (u32sOf_len _ _ hxs)
            have hr := buildSlice_run hE hd ht _ hl' (by omega) (by rw [hs]; omega) hv (ps.map fun x => (x.1, a.eval x.2)) (hparts (range_of hix)) (w := w)
            intro K Q hk
            unfold Oper.wp
            have : (execOp a.eval o).run P w = .ok (.value (.slice (some ⟨w.heap.size, 0, none⟩) n n)) (w.alloc (.cells (((ps.toList.map (·.2)).map a.eval).flatMap fun v => v.cells.toList).toArray e)) := by
              simp only [execOp, ho]
              simp only [Sem.run_bind, hr, Result.andThen, Sem.run_pure]
            rw [this]
            rw [f1]
            refine hk _ _ (below_alloc _) ⟨limG_new (by simp) hnX (by omega) hall ?_, trivial⟩
            intro j v hj
            rw [Nat.zero_add]
            rw [World.cell?_alloc_new]
            simpa using hj
          · exact h.elim
        · rename_i hu32
          obtain ⟨hpos, hix, hlen, hn, hall⟩ := h
          have hl' : ((ps.toList.map (·.2)).map a.eval).length = n := by rw [← hlen, ← hins.len]
          have hv : ∀ v ∈ (ps.toList.map (·.2)).map a.eval, v.cells.size = te.size := allLen_vals hR hall
          have hr := buildSlice_run hE hd ht _ hl' (by omega) (by omega) hv (ps.map fun x => (x.1, a.eval x.2)) (hparts (range_of hix)) (w := w)
          intro K Q hk
          unfold Oper.wp
          have : (execOp a.eval o).run P w = .ok (.value (.slice (some ⟨w.heap.size, 0, none⟩) n n)) (w.alloc (.cells (((ps.toList.map (·.2)).map a.eval).flatMap fun v => v.cells.toList).toArray e)) := by
            simp only [execOp, ho]
            simp only [Sem.run_bind, hr, Result.andThen, Sem.run_pure]
          rw [this]
          refine hk _ _ (below_alloc _) ⟨?_, trivial⟩
          simp only [CV.P]
          have hrl : rows.length = n := by rw [hR.len, hl']
          refine ⟨some ⟨w.heap.size, 0, none⟩, n, by rw [hrl], by omega, by simp, fun _ => ⟨_, _, rfl, ?_⟩⟩
          refine rowsP_new (by simp) hnX rows _ 0 (hR.imp fun r v ⟨us, h1, h2⟩ => ⟨us, h1, h2.imp fun c u hc => hc.evo (hevo _) c⟩) hall ?_
          intro j v hj
          rw [Nat.zero_add]
          rw [World.cell?_alloc_new]
          simpa using hj
      · exact h.elim
    · exact h.elim
  · exact h.elim


theorem len_sound (hE : EnvOk P E) {ins : List AV} {vs : List Value} (hi : All2 (fun c v => AV.G g w c v) ins vs) {t ty : Nat} (ts : Array Nat) (ht : ts[0]? = some t) (hs : isSlice (E.desc t) = true) (h : (lenAV ins).1) :
    ∃ v, (Builtin.len_ ts ty vs.toArray).run P w = .ok v w ∧ (lenAV ins).2.G g w v := by
  have hd : ∃ e, E.desc t = .slice e := by
    cases hd : E.desc t <;> rw [hd] at hs <;> simp [isSlice] at hs
    exact ⟨_, rfl⟩
  obtain ⟨e, hd⟩ := hd
  obtain ⟨t1, _, hd1, h1⟩ := Env.desc_some hE hd (by simp)
  have hu := run_underlying (w := w) h1.und
  rw [hd1] at hu
  unfold lenAV at h ⊢
  split at h
  · obtain ⟨v, rfl, hv⟩ := hi.one
    have : v = .slice none 0 0 := hv
    subst this
    exact ⟨_, by simp [Builtin.len_, ht, hu, Result.andThen]; rfl, rfl⟩
  · rename_i own xs
    obtain ⟨v, rfl, hv⟩ := hi.one
    obtain ⟨ao, cap, rfl, _⟩ := (show CV.G g w (.lim own xs) v from hv).1
    exact ⟨_, by simp [Builtin.len_, ht, hu, Result.andThen]; rfl, rfl⟩
  · rename_i own t' rows
    obtain ⟨v, rfl, hv⟩ := hi.one
    have hv' := (show CV.G g w (.sl own t' rows) v from hv).1
    simp only [CV.P] at hv'
    obtain ⟨ao, cap, rfl, _⟩ := hv'
    exact ⟨_, by simp [Builtin.len_, ht, hu, Result.andThen]; rfl, rfl⟩
  · rename_i id n
    obtain ⟨v, rfl, hv⟩ := hi.one
    obtain ⟨ao, rfl, _⟩ := (show CV.G g w (.rf id n) v from hv)
    exact ⟨_, by simp [Builtin.len_, ht, hu, Result.andThen]; rfl, rfl⟩
  · exact h.elim

theorem all2_strip {ins : List AV} {vs : List Value} (h : All2 (fun c v => AV.G g w c v) ins vs) : All2 (fun c v => AV.P g.X w c v) (ins.map AV.strip) vs :=
  All2.map_left.2 (h.imp fun _ _ h => h.strip)

theorem AV.P.toG' {c : AV} {v : Value} (h : c.P g.X w v) (hs : c.strip = c) : c.G g w v := by
  have := h.toG (g := g)
  rw [hs] at this
  exact this

theorem call_sound (hE : EnvOk P E) (H : Gam N X0 w0 s a w g who) {o : Oper} {c : Call} (ho : o.op = .call c)
    (h : (callAV E c (c.args.toList.map s.ev)).1) : Gives P a w o (fun v w' => (callAV E c (c.args.toList.map s.ev)).2.G g w' v) := by
  have hins := H.ins c.args.toList
  have hargs : c.args.map a.eval = (c.args.toList.map a.eval).toArray := by apply Array.ext'; simp
  generalize c.args.toList.map s.ev = ins at *
  generalize c.args.toList.map a.eval = vals at *
  unfold callAV at h ⊢
  split at h
  · rename_i f hcal
    split at h
    · rename_i d hd
      have hS := hE.fn _ _ hd
      have hc := hS.runs _ g.X w _ h H.lt (all2_strip hins)
      have hr : (execOp a.eval o).run P w = .ok (.enter f vals.toArray) w := by
        simp only [execOp, ho, resolve, hcal, hargs, Act.eval, Deferred.ofValue, Sem.run_bind, Sem.run_pure, Result.andThen, invoke]
        simp [hS.call]
      intro K Q hk
      unfold Oper.wp
      rw [hr, Oper.upon_enter]
      refine hc.mono fun e w' hh => ?_
      obtain ⟨v, rfl, hP, hb⟩ := hh
      exact hk v w' hb (AV.P.toG' hP (hS.flat _ h))
    · exact h.elim
  · rename_i hcal
    split at h
    · rename_i t ht
      obtain ⟨v, hr, hG⟩ := len_sound (P := P) hE hins (ty := o.type) c.argTypes ht h.1 h.2
      refine gives_value (v := v) ?_ hG
      simp only [execOp, ho, resolve, hcal, hargs, Sem.run_bind, Sem.run_pure, Result.andThen, invoke, builtin]
      simp [hr]
    · exact h.elim
  · rename_i hcal
    split at h
    · rename_i k x k' y
      obtain ⟨u, v, rfl, hu, hv⟩ := hins.two
      have e1 : u = .int k x := hu
      have e2 : v = .int k' y := hv
      subst e1 e2
      refine gives_value (v := .int k (max x y)) ?_ rfl
      simp only [execOp, ho, resolve, hcal, hargs, Sem.run_bind, Sem.run_pure, Result.andThen, invoke, builtin]
      simp [run_max_int2, Int.max_def]
      omega
    · exact h.elim
  · rename_i hcal
    split at h
    · rename_i k x k' y
      obtain ⟨u, v, rfl, hu, hv⟩ := hins.two
      have e1 : u = .int k x := hu
      have e2 : v = .int k' y := hv
      subst e1 e2
      refine gives_value (v := .int k (min x y)) ?_ rfl
      simp only [execOp, ho, resolve, hcal, hargs, Sem.run_bind, Sem.run_pure, Result.andThen, invoke, builtin]
      simp [run_min_int2, Int.min_def]
      omega
    · exact h.elim
  · exact h.elim

theorem pickOp_sound (H : Gam N X0 w0 s a w g who) {o : Oper} {x y z : Operand} (ho : o.op = .pick x y z)
    (h : (pickOp [s.ev x, s.ev y, s.ev z]).1) : Gives P a w o (fun v w' => (pickOp [s.ev x, s.ev y, s.ev z]).2.G g w' v) := by
  have hx := H.ev x
  have hy := H.ev y
  have hz := H.ev z
  generalize s.ev x = ax at *
  generalize s.ev y = ay at *
  generalize s.ev z = az at *
  unfold pickOp at h ⊢
  split at h
  · rename_i b p q hi
    cases hi
    have e1 : a.eval x = .bool b := hx
    exact gives_value (v := if b then a.eval y else a.eval z) (by simp [execOp, ho, e1, asBool]) (pick_G hy hz)
  · exact h.elim

theorem id_sound (H : Gam N X0 w0 s a w g who) {o : Oper} {x : Operand} (ho : o.op = .move x ∨ o.op = .assign x)
    : Gives P a w o (fun v w' => (idAV [s.ev x]).2.G g w' v) := by
  refine gives_value (v := a.eval x) ?_ (H.ev x)
  rcases ho with ho | ho <;> simp [execOp, ho]

/-- whatever an operation's answer is asked to be, it is -/
theorem val_sound (hE : EnvOk P E) (H : Gam N X0 w0 s a w g who) (o : Oper)
    (h : (valOf E o.op ((insOf o.op).map s.ev) ((needsOf E o.op ((insOf o.op).map s.ev)).map fun r => s.get r.1 r.2)).1) (Q0 : Exit → Act → World → Prop) (K : Act → World → Prop)
    (hk : ∀ v w', Below w.heap.size w w' → (valOf E o.op ((insOf o.op).map s.ev) ((needsOf E o.op ((insOf o.op).map s.ev)).map fun r => s.get r.1 r.2)).2.G g w' v → K (a.put o.dst v) w') : o.wp P a w K Q0 := by
  cases ho : o.op <;> rw [ho] at h hk <;> simp only [valOf, insOf, List.map_cons, List.map_nil] at h hk <;> first | exact h.elim | skip
  case move x => exact id_sound H (.inl ho) K Q0 hk
  case assign x => exact id_sound H (.inr ho) K Q0 hk
  case pick x y z => exact pickOp_sound H ho h K Q0 hk
  case build t ps => exact build_sound hE H ho h K Q0 hk
  case buildSlice t n ps => exact buildSlice_sound hE H ho h K Q0 hk
  case load t x => exact load_sound hE H ho (by rw [ho]; exact h) K Q0 (by rw [ho]; exact hk)
  case nilCheck x => exact nil_sound H ho h K Q0 hk
  case binOp op t x y u => exact bin_sound hE H ho h K Q0 hk
  case unOp op t x => exact un_sound H ho h K Q0 hk
  case convert t u x => exact conv_sound hE H ho h K Q0 hk
  case fieldAddr t x f => exact fieldAddr_sound hE H ho h K Q0 hk
  case field t x f => exact field_sound hE H ho h K Q0 hk
  case indexAddr t x i => exact idx_sound hE H ho h K Q0 hk
  case extract x i => exact ext_sound H ho h K Q0 hk
  case call c => exact call_sound hE H ho h K Q0 hk

end
end Go.Proofs.Ytdojdghhbjjoeaa
