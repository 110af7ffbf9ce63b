/- The abstract walk: make, append, an empty literal, stores into one's own rows. No condition. -/
import Derived.Test.YtdojdghhbjjoeaaAr
namespace Go.Proofs.Ytdojdghhbjjoeaa
open Go.RowKit

section
variable {P : Program} {E : Env} {N : Nat} {X0 : Nat → Nat → Prop} {w0 : World} {s : AS} {a : Act} {w : World} {g : Gh} {who : Nat → Option (Nat × Bool)}

theorem map_self {α : Type} {f : α → α} : ∀ {l : List α}, l.map f = l → ∀ x ∈ l, f x = x
  | y :: l, h, x, hx => by
    simp only [List.map_cons, List.cons.injEq] at h
    rcases List.mem_cons.1 hx with rfl | hx
    · exact h.1
    · exact map_self h.2 x hx

theorem notAgg_one {v : Value} (h : notAgg v) : v.oneCell' = true := by
  cases v <;> first | rfl | exact h.elim

theorem all2_mem_right {α β : Type} {R : α → β → Prop} {l : List α} {m : List β} (h : All2 R l m) : ∀ b ∈ m, ∃ a ∈ l, R a b := by
  induction h with
  | nil => intro b hb; cases hb
  | cons h _ ih =>
    intro b hb
    rcases List.mem_cons.1 hb with rfl | hb
    · exact ⟨_, by simp, h⟩
    · obtain ⟨a, ha, hr⟩ := ih b hb; exact ⟨a, by simp [ha], hr⟩

theorem id' {p : Prop} (h : p) : p := h

theorem All2.append {α β : Type} {R : α → β → Prop} {l l2 : List α} {m m2 : List β} (h : All2 R l m) (k : All2 R l2 m2) : All2 R (l ++ l2) (m ++ m2) := by
  induction h with
  | nil => exact k
  | cons h _ ih => exact .cons h ih

theorem rep_flat {α : Type} (l : List α) : ∀ (n j : Nat), j < n * l.length → (List.replicate n l).flatten[j]? = l[j % l.length]?
  | 0, j, h => by omega
  | n + 1, j, h => by
    rw [List.replicate_succ, List.flatten_cons]
    rcases Nat.lt_or_ge j l.length with hj | hj
    · rw [List.getElem?_append_left hj, Nat.mod_eq_of_lt hj]
    · rw [List.getElem?_append_right hj, rep_flat l n (j - l.length) (by rw [Nat.succ_mul] at h; omega), ← Nat.mod_eq_sub_mod hj]

theorem allLen_rep {t : Nat} {l : List CV} (h : l.length = t) : ∀ n, allLen t (List.replicate n l)
  | 0 => trivial
  | n + 1 => ⟨h, allLen_rep h n⟩

/-- the cells of a type's zero -/
theorem zero_cells {t : Nat} {te : TI} (h : TIOk P t te) (X : Nat → Nat → Prop) (w : World) : ∃ zs : List Value, te.zero.cells = zs.toArray ∧ All2 (fun c v => CV.P X w c v) te.z1.cells zs := by
  have hz := h.z1 X w
  have hs := h.z1s
  have hz1 := A1.P.toG (g := ⟨fun _ => 0, fun _ => 0, X⟩) hz
  rw [hs] at hz1
  obtain ⟨zs, h1, h2⟩ := A1.G.cells hz1
  refine ⟨zs, h1, forall2_imp h2 fun c hc v hG => ?_⟩
  have hst : c.strip = c := by
    cases hz : te.z1 with
    | cel x => rw [hz] at hc hs; simp only [A1.cells, List.mem_singleton] at hc; subst hc; simp only [A1.strip, A1.cel.injEq] at hs; exact hs
    | agg l => rw [hz] at hc hs; simp only [A1.cells] at hc; simp only [A1.strip, A1.agg.injEq] at hs; exact map_self hs c hc
  have := hG.strip
  rwa [hst] at this

theorem zeroRC_ok {t : Nat} {te : TI} (h : TIOk P t te) {n : Nat} (hz : (zeroRC te n).1) : (zeroRC te n).2.ok ∧ (zeroRC te n).2.len = n ∧ (zeroRC te n).2.t = te.size ∧ 0 < te.size ∧ te.zero.cells.size = te.size ∧
    ∀ (X : Nat → Nat → Prop) (w : World) j x, (zeroRC te n).2.flat[j]? = some x → ∃ v, (te.zero.cells)[j % te.size]? = some v ∧ x.P X w v := by
  unfold zeroRC at hz ⊢
  split at hz
  · split at hz
    · rename_i hz1
      have hs : te.size = 1 := hz
      have hc := fun X w => zero_cells h X w
      simp only [hz1, A1.cells] at hc
      refine ⟨fun x hx => ?_, by simp [RC.len], by simp [RC.t, hs], by omega, ?_, ?_⟩
      · simp only [List.mem_replicate] at hx; omega
      · obtain ⟨zs, h1, h2⟩ := hc (fun _ _ => False) default
        obtain ⟨y, rfl, _⟩ := h2.one
        rw [h1, hs]; rfl
      · intro X w j x hx
        obtain ⟨zs, h1, h2⟩ := hc X w
        obtain ⟨y, rfl, hy⟩ := h2.one
        simp only [RC.flat, List.map_replicate, List.getElem?_replicate] at hx
        split at hx
        · cases hx
          refine ⟨y, by rw [h1, hs, Nat.mod_one]; rfl, ?_⟩
          exact hy
        · cases hx
    · exact hz.elim
  · obtain ⟨h0, hl⟩ := hz
    have hc := fun X w => zero_cells h X w
    refine ⟨⟨h0, allLen_rep hl n⟩, by simp [RC.len], rfl, h0, ?_, ?_⟩
    · obtain ⟨zs, h1, h2⟩ := hc (fun _ _ => False) default
      rw [h1, ← hl, h2.len]; simp
    · intro X w j x hx
      obtain ⟨zs, h1, h2⟩ := hc X w
      have hj := (List.getElem?_eq_some_iff.1 hx).1
      have hfl := allLen_flatten _ (allLen_rep hl n)
      simp only [RC.flat] at hx hj
      rw [hfl, List.length_replicate, ← hl] at hj
      rw [rep_flat _ _ _ hj] at hx
      obtain ⟨v, hv, hP⟩ := h2.get hx
      rw [hl] at hv
      exact ⟨v, by rw [h1]; simpa using hv, hP⟩

theorem made_get {z : Array Value} {n j : Nat} {v : Value} (hj : j < n) (hv : z[j % z.size]? = some v) : (madeCells z n)[j]? = some v := by
  simp only [madeCells, Array.getElem?_map]
  rw [Array.getElem?_range, if_pos hj]
  simp only [Option.map_some, Option.some.injEq]
  rw [getElem!_def, hv]

theorem make_sound (hE : EnvOk P E) (H : Gam E.N X0 w0 s a w g who) {o : Oper} {t d : Nat} {l c : Operand} (ho : o.op = .makeSlice t l c) (hd : o.dst = some d) (h : (makeAV E t d s.fresh [s.ev l, s.ev c]).1) {K : Act → World → Prop} {Q : Exit → Act → World → Prop}
    (hk : ∀ a' w' g' who', Gam E.N X0 w0 ((makeAV E t d s.fresh [s.ev l, s.ev c]).2 ++ s) a' w' g' who' → K a' w') : o.wp P a w K Q := by
  have hl := H.ev l
  have hc := H.ev c
  generalize s.ev l = al at *
  generalize s.ev c = ac at *
  unfold makeAV at h hk
  split at h
  · rename_i k n k' m heq
    cases heq
    have el : a.eval l = .int k n := hl
    have ec : a.eval c = .int k' m := hc
    split at h
    · rename_i e hdsc
      split at h
      · rename_i te hte
        obtain ⟨h1, h2, rfl, h4, h5, h6⟩ := h
        simp only [hdsc, hte] at hk
        obtain ⟨t1, _, hd1, ht1⟩ := Env.desc_some hE hdsc (by simp)
        have hu := ht1.und
        rw [hd1] at hu
        have hti := hE.tt _ _ hte
        obtain ⟨i, hi, hz, hsz, hby⟩ := hti.info
        obtain ⟨z1, z2, z3, z4, z5, z6⟩ := zeroRC_ok hti h6
        have hbytes : (i.bytes : Int) * m ≤ 281474976710656 := by
          have e1 : (i.bytes : Int) * m ≤ 128 * m := Int.mul_le_mul_of_nonneg_right (by omega) h4
          omega
        have hr := run_make (P := P) w t e i te.zero hu hi hz k k' m m h4 (Int.le_refl _) hbytes (by omega)
        have hr2 : (execOp a.eval o).run P w = .ok (.value (.slice (some ⟨w.heap.size, 0, none⟩) m.toNat m.toNat)) (w.alloc (.cells (madeCells te.zero.cells (m.toNat * i.size)) e)) := by
          simp [execOp, ho, el, ec, hr, Result.andThen]
        unfold Oper.wp
        rw [hr2, Oper.upon_value, hd]
        have := H.newRow (c := (zeroRC te m.toNat).2) (cap := m.toNat) (b := w.heap.size) (w' := w.alloc (.cells (madeCells te.zero.cells (m.toNat * i.size)) e)) h1 h2 z1 (below_alloc _) (Nat.le_refl _) (by simp) (by omega)
          (fun j hj => ⟨by simp, by rw [World.cell?_alloc_new]; rw [z3, ← hsz] at hj; simp [size_madeCells, hj]⟩) (fun j x hx => by
            have hj := (List.getElem?_eq_some_iff.1 hx).1
            rw [RC.flat_len z1, z2, z3] at hj
            obtain ⟨v, hv, hP⟩ := z6 g.X w j x hx
            exact ⟨v, by rw [World.cell?_alloc_new]; exact made_get (by rw [hsz]; exact hj) (by rw [z5]; exact hv), hP⟩)
        rw [z2] at this
        exact hk _ _ _ _ this
      · exact h.elim
    · exact h.elim
  · exact h.elim

theorem empty_sound (hE : EnvOk P E) (H : Gam E.N X0 w0 s a w g who) {o : Oper} {t d : Nat} {ps : Array (Nat × Operand)} (ho : o.op = .buildSlice t 0 ps) (hd : o.dst = some d) (hps : ps = #[]) (h : (emptyAV E t d s.fresh).1) {K : Act → World → Prop} {Q : Exit → Act → World → Prop}
    (hk : ∀ a' w' g' who', Gam E.N X0 w0 ((emptyAV E t d s.fresh).2 ++ s) a' w' g' who' → K a' w') : o.wp P a w K Q := by
  subst hps
  unfold emptyAV at h hk
  split at h
  · rename_i e hdsc
    split at h
    · rename_i te hte
      simp only [hdsc, hte] at hk
      obtain ⟨h1, h2, h3⟩ := h
      have hti := hE.tt _ _ hte
      obtain ⟨z1, z2, z3, z4, z5, z6⟩ := zeroRC_ok hti h3
      have hr := buildSlice_run (w := w) (n := 0) hE hdsc hte [] rfl z4 (by omega) (by simp) #[] rfl
      have hr2 : (execOp a.eval o).run P w = .ok (.value (.slice (some ⟨w.heap.size, 0, none⟩) 0 0)) (w.alloc (.cells #[] e)) := by
        simp [execOp, ho, hr, Result.andThen]
      unfold Oper.wp
      rw [hr2, Oper.upon_value, hd]
      have := H.newRow (c := (zeroRC te 0).2) (cap := 0) (b := w.heap.size) (w' := w.alloc (.cells #[] e)) h1 h2 z1 (below_alloc _) (Nat.le_refl _) (by simp) (by omega)
        (fun j hj => by omega) (fun j x hx => by
          have hj := (List.getElem?_eq_some_iff.1 hx).1
          rw [RC.flat_len z1, z2] at hj
          omega)
      rw [z2] at this
      exact hk _ _ _ _ this
    · exact h.elim
  · exact h.elim

/-- what is put behind a row yields its cells -/
theorem tail_src {c : RC} {x : CV} {v : Value} (hok : c.ok) (hx : x.G g w v) (ha : (c.app x).1) {tx e' : Nat} (hk : P.underlying tx = some (.slice e')) :
    ∃ (m : Nat) (news : List Value) (nc : List CV), Src P c.t tx v m news w ∧ (c.app x).2.ok ∧ (c.app x).2.t = c.t ∧ (c.app x).2.len = c.len + m ∧ (c.app x).2.flat = c.flat ++ nc ∧ All2 (fun c u => CV.P g.X w c u) nc news ∧ news.length = m * c.t ∧ (m = 0 ∨ c.len + m ≤ 1099511627776) := by
  have hnil : x = .nil → ∃ (m : Nat) (news : List Value) (nc : List CV), Src P c.t tx v m news w ∧ (c.app x).2.ok ∧ (c.app x).2.t = c.t ∧ (c.app x).2.len = c.len + m ∧ (c.app x).2.flat = c.flat ++ nc ∧ All2 (fun c u => CV.P g.X w c u) nc news ∧ news.length = m * c.t ∧ (m = 0 ∨ c.len + m ≤ 1099511627776) := by
    rintro rfl
    have e : v = .slice none 0 0 := hx
    subst e
    refine ⟨0, [], [], Src.ofNil w hk 0, ?_, ?_, ?_, ?_, .nil, by simp, .inl rfl⟩ <;> cases c <;> first | exact hok | rfl | simp [RC.app]
  cases c with
  | u32 xs =>
    cases x <;> first | exact ha.elim | exact hnil rfl | skip
    case lim own ys =>
      have hx := (show CV.G g w (.lim own ys) v from hx).1
      obtain ⟨ao, cap, rfl, h2, h3, h4, h5⟩ := hx
      have hall : All2 (fun c u => CV.P g.X w c u) (ys.map u32C) (ys.map fun (y : Nat) => Value.int .u32 (y : Int)) := by
        clear h5 h4 h3 h2 hnil ha hx
        induction ys with
        | nil => exact .nil
        | cons y ys ih => exact .cons rfl ih
      refine ⟨ys.length, ys.map fun (y : Nat) => Value.int .u32 (y : Int), ys.map u32C, ?_, ?_, rfl, ?_, ?_, hall, by simp [RC.t], .inr ha⟩
      · rcases Nat.eq_zero_or_pos ys.length with h0 | h0
        · rw [List.length_eq_zero_iff.1 h0]
          cases ao with
          | none => exact Src.ofNil w hk cap
          | some b => exact Src.ofSlice w hk b 0 cap [] (by simp) (by simp) (by simp)
        · obtain ⟨b, off, rfl, hc⟩ := h5 h0
          refine Src.ofSlice w hk ⟨b, off, none⟩ ys.length cap _ (by simp [RC.t]) (fun j u hu => ?_) (fun u hu => ?_)
          · rw [List.getElem?_map, Option.map_eq_some_iff] at hu
            obtain ⟨y, hy, rfl⟩ := hu
            have hj := (List.getElem?_eq_some_iff.1 hy).1
            have := (hc j hj).2.2
            rw [List.getD_eq_getElem?_getD, hy] at this
            rw [Addr.add_lit]; exact this
          · obtain ⟨y, _, rfl⟩ := List.mem_map.1 hu; rfl
      · intro y hy
        rcases List.mem_append.1 hy with hy | hy
        · exact hok y hy
        · exact h4 y hy
      · simp [RC.app, RC.len]
      · simp [RC.app, RC.flat]
  | gen t rows =>
    cases x <;> first | exact ha.elim | exact hnil rfl | skip
    case sl own t' rs =>
      obtain ⟨rfl, hb⟩ := ha
      have hx := (show CV.G g w (.sl own t' rs) v from hx).1
      simp only [CV.P] at hx
      obtain ⟨ao, cap, rfl, h2, h3, h5⟩ := hx
      rcases Nat.eq_zero_or_pos rs.length with h0 | h0
      · have := List.length_eq_zero_iff.1 h0
        subst this
        refine ⟨0, [], [], ?_, ?_, rfl, ?_, ?_, .nil, by simp, .inl rfl⟩
        · cases ao with
          | none => exact Src.ofNil w hk cap
          | some b => exact Src.ofSlice w hk b 0 cap [] (by simp) (by simp) (by simp)
        · simpa [RC.app, RC.ok] using hok
        · simp [RC.app, RC.len]
        · simp [RC.app, RC.flat]
      · obtain ⟨b, off, rfl, hc⟩ := h5 h0
        have key : ∀ (rs : List (List CV)) (off : Nat), rowsP g.X w b off t' rs → allLen t' rs ∧ cellsP g.X w b off rs.flatten := by
          intro rs
          induction rs with
          | nil => intro off _; exact ⟨trivial, by simp only [List.flatten_nil, cellsP]⟩
          | cons r rs ih =>
            intro off h
            simp only [rowsP] at h
            obtain ⟨i1, i2⟩ := ih _ h.2.2
            refine ⟨⟨h.1, i1⟩, ?_⟩
            rw [List.flatten_cons]
            have happ : ∀ (l m : List CV) (off : Nat), cellsP g.X w b off l → cellsP g.X w b (off + l.length) m → cellsP g.X w b off (l ++ m) := by
              intro l
              induction l with
              | nil => intro m off _ h; exact h
              | cons x l ihl =>
                intro m off h k
                simp only [cellsP] at h
                simp only [List.cons_append, cellsP]
                exact ⟨h.1, ihl m (off + 1) h.2 (by rw [List.length_cons] at k; rw [show off + 1 + l.length = off + (l.length + 1) by omega]; exact k)⟩
            exact happ r _ off h.2.1 (by rw [h.1]; exact i2)
        obtain ⟨k1, k2⟩ := key rs off hc
        obtain ⟨vs, l1, l2⟩ := cellsP_list _ b off k2
        have hlen : vs.length = rs.length * t' := by rw [← l1.len, allLen_flatten rs k1]
        refine ⟨rs.length, vs, rs.flatten, Src.ofSlice w hk ⟨b, off, none⟩ rs.length cap vs hlen (fun j u hu => by rw [Addr.add_lit]; exact l2 j u hu) (fun u hu => ?_), ⟨hok.1, ?_⟩, rfl, ?_, ?_, l1, hlen, .inr hb⟩
        · obtain ⟨c, _, hP⟩ := all2_mem_right l1 u hu
          exact notAgg_one hP.flat
        · have : ∀ (l m : List (List CV)), allLen t' l → allLen t' m → allLen t' (l ++ m) := by
            intro l
            induction l with
            | nil => intro m _ h; exact h
            | cons x l ih => intro m h k; exact ⟨h.1, ih m h.2 k⟩
          exact this _ _ hok.2 k1
        · simp [RC.app, RC.len]
        · simp [RC.app, RC.flat]

theorem appTy_eq {ts : List Nat} {te : TI} (h : appTy E ts = some te) : ∃ t e, ts = [t, t] ∧ E.desc t = .slice e ∧ E.tt e = some te := by
  unfold appTy at h
  split at h
  · rename_i t t'
    split at h
    · rename_i he
      rw [beq_iff_eq] at he
      subst he
      split at h
      · rename_i e hd; exact ⟨t, e, rfl, hd, h⟩
      · cases h
    · cases h
  · cases h

/-- append: where there is room, behind what is there; else a new row -/
theorem app_run (hE : EnvOk P E) (H : Gam E.N X0 w0 s a w g who) {d : Nat} (hd : d < E.N) (hf : s.fresh d = true) {te : TI} {t e ty : Nat} (hdsc : E.desc t = .slice e) (hte : E.tt e = some te) {c : RC} (hok : c.ok) (ht : te.size = c.t) (hz : (zeroRC te 0).1) {x : CV} {xv : Value}
    {base : Option Addr} {cap : Nat} (hle : c.len ≤ cap) (hb0 : base = none → cap = 0) (holds : ∀ b, base = some b → ∃ olds : List Value, (∀ j u, olds[j]? = some u → w.cell? (b.add j) = some u) ∧ All2 (fun c u => CV.P g.X w c u) c.flat olds) {m : Nat} {news : List Value} (hs : Src P c.t t xv m news w) (hlen' : (c.app x).2.len = c.len + m) (hbig : m = 0 ∨ c.len + m ≤ 1099511627776)
    {nc : List CV} (hok' : (c.app x).2.ok) (ht' : (c.app x).2.t = c.t) (hfl : (c.app x).2.flat = c.flat ++ nc) (hnc : All2 (fun c u => CV.P g.X w c u) nc news) (hg : cap < c.len + m) :
    ∃ w' cap', (Builtin.append_ #[t, t] ty #[.slice base c.len cap, xv]).run P w = .ok (.slice (some ⟨w.heap.size, 0, none⟩) (c.app x).2.len cap') w' ∧
      Gam E.N X0 w0 (rowAS d (c.app x).2.len (c.app x).2 ++ s) (a.put (some d) (.slice (some ⟨w.heap.size, 0, none⟩) (c.app x).2.len cap')) w' ⟨upd g.σ d w.heap.size, upd g.κ d cap', fun b o => g.X b o ∨ b = w.heap.size⟩ (upd who w.heap.size (some (d, true))) := by
  obtain ⟨t1, _, hd1, ht1⟩ := Env.desc_some hE hdsc (by simp)
  have hu := ht1.und
  rw [hd1] at hu
  have hti := hE.tt _ _ hte
  obtain ⟨i, hi, hzi, hsz, hby⟩ := hti.info
  obtain ⟨z1, z2, z3, z4, z5, z6⟩ := zeroRC_ok hti hz
  have hm : c.len + m ≤ 1099511627776 := by omega
  have hbytes : (c.len + m) * i.bytes ≤ 140737488355328 := by
    have := Nat.mul_le_mul hm hby
    omega
  have his : i.size = c.t := by omega
  have hfl0 := RC.flat_len hok
  have hnl : news.length = m * c.t := hs.newsLen
  have hold : ∃ olds : List Value, (Builtin.firstCells i.size c.len (.slice base c.len cap)).run P w.drew = .ok olds.toArray w.drew ∧ All2 (fun c u => CV.P g.X w c u) c.flat olds := by
    cases base with
    | none =>
      have h0 := hb0 rfl
      have hc0 : c.len = 0 := by omega
      have hnil : c.flat = [] := List.length_eq_zero_iff.1 (by rw [hfl0, hc0]; omega)
      rw [hnil]
      exact ⟨[], run_firstCells_none _ _ _ _ _, .nil⟩
    | some b =>
      obtain ⟨olds, h1, h2⟩ := holds b rfl
      exact ⟨olds, run_firstCells_some w.drew i.size c.len b c.len cap olds (by rw [← h2.len, hfl0, his]) (by simpa using h1), h2⟩
  obtain ⟨olds, ho1, ho2⟩ := hold
  have hr := run_append_grow_src (P := P) w t t ty e i te.zero hu hi hzi base c.len cap olds ho1 xv m news (by rw [his]; exact hs) hg (by omega) (growslice_fits hg hbytes)
  rw [hlen']
  refine ⟨_, grownCap w (c.len + m) cap e, hr, ?_⟩
  have hge := grownCap_ge w (c.len + m) cap e
  have hol : olds.length = c.len * c.t := by rw [← ho2.len, hfl0]
  have hsize : ((olds ++ news).toArray ++ Builtin.zeroCells te.zero.cells (grownCap w (c.len + m) cap e - (c.len + m))).size = grownCap w (c.len + m) cap e * c.t := by
    simp only [Array.size_append, List.size_toArray, List.length_append, size_zeroCells, z5, hol, hnl, ht]
    rw [← Nat.add_mul, ← Nat.add_mul]
    congr 1
    omega
  have hb : Below w.heap.size w (w.drew.alloc (.cells ((olds ++ news).toArray ++ Builtin.zeroCells te.zero.cells (grownCap w (c.len + m) cap e - (c.len + m))) e)) := (Below.refl _ w).drew.alloc (Nat.le_refl _) _
  have hcell : ∀ j, (w.drew.alloc (.cells ((olds ++ news).toArray ++ Builtin.zeroCells te.zero.cells (grownCap w (c.len + m) cap e - (c.len + m))) e)).cell? ⟨w.heap.size, j, none⟩ = ((olds ++ news).toArray ++ Builtin.zeroCells te.zero.cells (grownCap w (c.len + m) cap e - (c.len + m)))[j]? := fun j => World.cell?_alloc_new w.drew _ _ j
  have := H.newRow (c := (c.app x).2) (cap := grownCap w (c.len + m) cap e) (b := w.heap.size) hd hf hok' hb (Nat.le_refl _) (by simp) (by omega)
    (fun j hj => ⟨World.frozen?_alloc_new w.drew _ _ _, by rw [hcell]; rw [ht', ← hsize] at hj; rw [Array.getElem?_eq_getElem hj]; rfl⟩) (fun j y hy => by
      rw [hfl] at hy
      obtain ⟨v, hv, hP⟩ := (ho2.append hnc).get hy
      refine ⟨v, ?_, hP⟩
      have hj := (List.getElem?_eq_some_iff.1 hv).1
      rw [hcell, Array.getElem?_append_left (by simpa using hj)]
      simpa using hv)
  rw [hlen'] at this
  exact this

theorem app_sound (hE : EnvOk P E) (H : Gam E.N X0 w0 s a w g who) {o : Oper} {d : Nat} {args : Array Operand} {ts : Array Nat} (ho : o.op = .call ⟨.builtin .append, args, ts⟩) (hd : o.dst = some d)
    (h : (appAV E ts.toList d s.fresh (args.toList.map s.ev) ((needsOf E o.op (args.toList.map s.ev)).map fun r => s.get r.1 r.2)).1) {K : Act → World → Prop} {Q : Exit → Act → World → Prop}
    (hk : ∀ a' w' g' who', Gam E.N X0 w0 ((appAV E ts.toList d s.fresh (args.toList.map s.ev) ((needsOf E o.op (args.toList.map s.ev)).map fun r => s.get r.1 r.2)).2 ++ s) a' w' g' who' → K a' w') : o.wp P a w K Q := by
  have hins := H.ins args.toList
  have hargs : args.map a.eval = (args.toList.map a.eval).toArray := by apply Array.ext'; simp
  rw [ho] at h hk
  have hex : ∀ {v : Value} {w' : World}, (Builtin.append_ ts o.type (args.toList.map a.eval).toArray).run P w = .ok v w' → (execOp a.eval o).run P w = .ok (.value v) w' := by
    intro v w' hr
    simp only [execOp, ho, resolve, hargs, Sem.run_bind, Sem.run_pure, Result.andThen, invoke, builtin]
    simp [hr]
  generalize args.toList.map s.ev = ins at *
  generalize args.toList.map a.eval = vals at *
  unfold appAV at h hk
  split at h
  · rename_i te hte0
    obtain ⟨t, e, hts, hdsc, hte⟩ := appTy_eq hte0
    have hts' : ts = #[t, t] := by apply Array.ext'; simpa using hts
    subst hts'
    simp only [hte0] at hk
    obtain ⟨t1, _, hd1, ht1⟩ := Env.desc_some hE hdsc (by simp)
    have hu := ht1.und
    rw [hd1] at hu
    split at h
    · rename_i id n x
      obtain ⟨bv, xv, rfl, hb, hx⟩ := hins.two
      simp only [needsOf, List.map_cons, List.map_nil] at h hk
      split at h
      · rename_i c hc
        have hid : s.get id 1 = some (.row c) := by simpa using hc
        simp only [hid] at hk
        obtain ⟨h1, h2, h3, h4, h5, h6⟩ := h
        obtain ⟨ao, hbv, hao⟩ := (show CV.G g w (.rf id n) bv from hb)
        subst hbv h3
        obtain ⟨_, hok, hle, hown, hcells⟩ := H.res _ _ _ hid
        obtain ⟨m, news, nc, q1, q2, q3, q4, q5, q6, q7, q8⟩ := tail_src (P := P) (tx := t) (e' := e) hok (show x.G g w xv from hx) h6 hu
        have hti := hE.tt _ _ hte
        obtain ⟨i, hi, hzi, hsz, hby⟩ := hti.info
        by_cases hroom : c.len + m ≤ g.κ id
        · rcases Nat.eq_zero_or_pos (g.κ id) with h0 | h0
          · have hm0 : m = 0 := by omega
            have hc0 : c.len = 0 := by omega
            subst hm0
            have hnn : news = [] := List.length_eq_zero_iff.1 (by omega)
            subst hnn
            have hr : (Builtin.append_ #[t, t] o.type #[.slice ao c.len (g.κ id), xv]).run P w = .ok (.slice ao 0 0) w := by
              rw [hc0, h0]
              cases ao with
              | none => simp [Builtin.append_, run_underlying hu, sizeOf, typeInfo, hi, q1.len, Result.andThen, show i.size = c.t by omega, q1.cells]
              | some b =>
                have := run_append_room_src (P := P) w t t o.type e i hu hi b.block b.off 0 0 xv 0 [] (by rw [show i.size = c.t by omega]; exact q1) (Nat.le_refl _) (by simp) (by simp)
                rcases hao with ⟨hno, _⟩ | hao
                · cases hno
                · cases hao; exact this
            unfold Oper.wp
            rw [hex hr, Oper.upon_value, hd]
            have e0 : (c.app x).2.len = 0 := by omega
            rw [e0] at hk
            exact hk _ _ _ _ ((H.rowNone (so := g.σ id) h1 h2 q2 e0 (hao.imp (fun h => h.1) id')).off id 1)
          · have ea : ao = some ⟨g.σ id, 0, none⟩ := by
              rcases hao with ⟨_, _, h⟩ | h
              · omega
              · exact h
            subst ea
            have hin : c.len * c.t + news.length ≤ g.κ id * c.t := by rw [q7, ← Nat.add_mul]; exact Nat.mul_le_mul_right _ hroom
            obtain ⟨k1, k2, k3, k4⟩ := hown h0
            have hr := run_append_room_src (P := P) w t t o.type e i hu hi (g.σ id) 0 c.len (g.κ id) xv m news (by rw [show i.size = c.t by omega]; exact q1) hroom
              (by rw [show i.size = c.t by omega]; intro j hj; rw [Nat.zero_add]; exact (k4 _ (by omega)).2.2) (by rw [show i.size = c.t by omega]; intro j hj; rw [Nat.zero_add]; exact (k4 _ (by omega)).2.1)
            rw [show i.size = c.t by omega, Nat.zero_add, ← q4] at hr
            unfold Oper.wp
            rw [hex hr, Oper.upon_value, hd]
            exact hk _ _ _ _ (H.rowIn h1 h2 hid h0 q2 q3 (by omega) q5 q6 hin)
        · obtain ⟨w', cap', hr, HG⟩ := app_run (ty := o.type) hE H h1 h2 hdsc hte hok h4 h5 (x := x) (base := ao) (cap := g.κ id) hle (fun h => by
              rcases hao with ⟨_, _, h⟩ | h'
              · exact h
              · rw [h] at h'; cases h') (fun b hb => by
              subst hb
              rcases hao with ⟨h, _⟩ | h
              · cases h
              · cases h
                obtain ⟨vs, v1, v2⟩ := all2_of_get c.flat (fun j => w.cell? ⟨g.σ id, j, none⟩) hcells
                exact ⟨vs, fun j u hu => by rw [Addr.add_lit, Nat.zero_add]; exact v2 j u hu, v1⟩) q1 q4 q8 q2 q3 q5 q6 (by omega)
          unfold Oper.wp
          rw [hex hr, Oper.upon_value, hd]
          exact hk _ _ _ _ (HG.off id 1)
      · exact h.elim
    · rename_i x
      obtain ⟨bv, xv, rfl, hb, hx⟩ := hins.two
      have hbv : bv = .slice none 0 0 := hb
      subst hbv
      obtain ⟨h1, h2, h5, h6⟩ := h
      have hti := hE.tt _ _ hte
      obtain ⟨z1, z2, z3, z4, z5, z6⟩ := zeroRC_ok hti h5
      obtain ⟨i, hi, hzi, hsz, hby⟩ := hti.info
      generalize (zeroRC te 0).2 = c at *
      have hk : ∀ a' w' g' who', Gam E.N X0 w0 (rowAS d (c.app x).2.len (c.app x).2 ++ s) a' w' g' who' → K a' w' := hk
      obtain ⟨m, news, nc, q1, q2, q3, q4, q5, q6, q7, q8⟩ := tail_src (P := P) (tx := t) (e' := e) z1 (show x.G g w xv from hx) h6 hu
      rcases Nat.eq_zero_or_pos m with h0 | h0
      · subst h0
        have hnn : news = [] := List.length_eq_zero_iff.1 (by omega)
        subst hnn
        have hr : (Builtin.append_ #[t, t] o.type #[.slice none 0 0, xv]).run P w = .ok (.slice none 0 0) w := by
          simp [Builtin.append_, run_underlying hu, sizeOf, typeInfo, hi, q1.len, Result.andThen, show i.size = c.t by omega, q1.cells]
        unfold Oper.wp
        rw [hex hr, Oper.upon_value, hd]
        have e0 : (c.app x).2.len = 0 := by omega
        rw [e0] at hk
        exact hk _ _ _ _ (H.rowNone (so := 0) h1 h2 q2 e0 (.inl rfl))
      · obtain ⟨w', cap', hr, HG⟩ := app_run (ty := o.type) hE H h1 h2 hdsc hte z1 (by omega) h5 (x := x) (base := none) (cap := 0) (by omega) (fun _ => rfl) (fun b hb => by cases hb) q1 q4 q8 q2 q3 q5 q6 (by omega)
        rw [z2] at hr
        unfold Oper.wp
        rw [hex hr, Oper.upon_value, hd]
        exact hk _ _ _ _ HG
    · exact h.elim
  · exact h.elim

end
end Go.Proofs.Ytdojdghhbjjoeaa
