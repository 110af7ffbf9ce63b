/- The abstract walk, eighth part: regions that draw their order. No condition. -/
import Derived.Test.YtdojdghhbjjoeaaAg
import Derived.Orders
namespace Go.Proofs.Ytdojdghhbjjoeaa
open Go.RowKit

/-- what an operation of a region has read and laid -/
structure Tr where
  rd : List (Nat × Nat)
  wr : AS
  al : Option Nat

def slotOf : Operand → Option (Nat × Nat)
  | .tmp t => some (t, 0)
  | _ => none

def rdOf (E : Env) (o : Oper) (s : AS) : List (Nat × Nat) :=
  (insOf o.op).filterMap slotOf ++ needsOf E o.op ((insOf o.op).map s.ev)

def alOf (o : Oper) : Option Nat :=
  match o.op with
  | .alloc _ => o.dst
  | .box _ _ => o.dst
  | .makeSlice _ _ _ => o.dst
  | .buildSlice _ 0 _ => o.dst
  | .call ⟨.builtin .append, _, _⟩ => o.dst
  | _ => none

def slotKey : Option Nat → List (Nat × Nat)
  | some t => [(t, 0)]
  | none => []

/-- one operation of a region, its guard before it; what it has read and laid -/
def stepD (E : Env) (ops : Array Oper) (o : Oper) (s : AS) (K : AS → Tr → Prop) : Prop :=
  match o.guard with
  | none => (actOf E o s).1 ∧ K ((actOf E o s).2 ++ s) ⟨rdOf E o s, (actOf E o s).2, alOf o⟩
  | some (j, want) => match boolAt ops s j with
    | some (t, b) => (b = want → (actOf E o (s.setv t (.av (.cel (.bool want))))).1 ∧ K ((actOf E o (s.setv t (.av (.cel (.bool want))))).2 ++ (s.setv t (.av (.cel (.bool want))))) ⟨(t, 0) :: rdOf E o (s.setv t (.av (.cel (.bool want)))), (actOf E o (s.setv t (.av (.cel (.bool want))))).2, alOf o⟩) ∧
        (b = !want → dstOk E o ∧ K (skipOf o ++ (s.setv t (.av (.cel (.bool (!want)))))) ⟨[(t, 0)], skipOf o, none⟩)
    | none => undAt s (slotAt ops j) = true ∧ dstOk E o ∧ K (skipOf o ++ s) ⟨slotKey (slotAt ops j), skipOf o, none⟩

def awpD (E : Env) (ops : Array Oper) : List Oper → AS → List Tr → (AS → List Tr → Prop) → Prop
  | [], s, tr, K => K s tr.reverse
  | o :: r, s, tr, K => stepD E ops o s fun s' t => awpD E ops r s' (t :: tr) K

/-! the order's check -/

def edgeIn (i : Nat) : List Edge → Bool
  | [] => false
  | e :: l => (Region.binds .any e && Nat.beq e.on i) || edgeIn i l

/-- comes i before j, whatever is drawn? -/
def pathB (ops : List Oper) : Nat → Nat → Nat → Bool
  | 0, _, _ => false
  | f + 1, i, j => match ops[j]? with
    | some o => edgeIn i o.after.toList || o.after.toList.any fun e => Region.binds .any e && pathB ops f i e.on
    | none => false

/-- no operation waits for a later one -/
def okEdges : Nat → List Oper → Bool
  | _, [] => true
  | j, o :: l => (o.after.toList.all fun e => !Region.binds .any e || Nat.blt e.on j) && okEdges (j + 1) l

def keyEq (a b : Nat × Nat) : Bool := Nat.beq a.1 b.1 && Nat.beq a.2 b.2
def keyIn (k : Nat × Nat) : AS → Bool
  | [] => false
  | (n, j, _) :: s => keyEq k (n, j) || keyIn k s
def rdIn (s : AS) : List (Nat × Nat) → Bool
  | [] => false
  | k :: l => keyIn k s || rdIn s l
def wrIn (s : AS) : AS → Bool
  | [] => false
  | (n, j, _) :: l => keyIn (n, j) s || wrIn s l
def mentions (s : AS) (d : Nat) : Bool := s.any fun r => r.2.2.men d || (r.1 == d && r.2.1 != 0)
def alIn (s : AS) : Option Nat → Bool
  | some d => mentions s d
  | none => false

def okPair (ops : List Oper) (i j : Nat) (ti tj : Tr) : Bool :=
  (!(rdIn ti.wr tj.rd || wrIn ti.wr tj.wr || rdIn tj.wr ti.rd || alIn tj.wr ti.al) || pathB ops ops.length i j) && !alIn ti.wr tj.al

def okOne (ops : List Oper) (i : Nat) (ti : Tr) : Nat → List Tr → Bool
  | _, [] => true
  | j, tj :: l => okPair ops i j ti tj && okOne ops i ti (j + 1) l
def okAll (ops : List Oper) : Nat → List Tr → Bool
  | _, [] => true
  | i, t :: l => okOne ops i t (i + 1) l && okAll ops (i + 1) l

def okOrder (ops : List Oper) (tr : List Tr) : Bool := okEdges 0 ops && okAll ops 0 tr

/-- a region whose order is drawn -/
def awpDraw (E : Env) (ops : Array Oper) (s : AS) (K : AS → Prop) : Prop :=
  awpD E ops ops.toList s [] fun s' tr => okOrder ops.toList tr = true ∧ K s'

section
variable {P : Program} {E : Env} {X0 : Nat → Nat → Prop} {w0 : World} {s : AS} {a : Act} {w : World} {g : Gh} {who : Nat → Option (Nat × Bool)}

/-- the operation o, at the state s, lays W over it -/
def Goes (P : Program) (E : Env) (X0 : Nat → Nat → Prop) (w0 : World) (ops : Array Oper) (o : Oper) (s : AS) (W : AS) : Prop :=
  ∀ (a : Act) (w : World) (g : Gh) (who : Nat → Option (Nat × Bool)), Gam E.N X0 w0 s a w g who → ∀ (Q : Exit → Act → World → Prop) (K : Act → World → Prop),
    (∀ a' w' g' who', Gam E.N X0 w0 (W ++ s) a' w' g' who' → K a' w') → if Region.wanted o (yielded ops a.tmps) then o.wp P a w K Q else K (a.put o.dst undef) w

theorem ev_congr {s s' : AS} {x : Operand} (h : ∀ k, slotOf x = some k → s'.get k.1 k.2 = s.get k.1 k.2) : s'.ev x = s.ev x := by
  cases x with
  | tmp t => have := h (t, 0) rfl; simp only at this; simp only [AS.ev, this]
  | _ => rfl

theorem act_congr {s s' : AS} {o : Oper} (h : ∀ k ∈ rdOf E o s, s'.get k.1 k.2 = s.get k.1 k.2) (hf : ∀ d, alOf o = some d → s.fresh d = true → s'.fresh d = true) (hp : (actOf E o s).1) :
    (actOf E o s').1 ∧ (actOf E o s').2 = (actOf E o s).2 := by
  have hins : (insOf o.op).map s'.ev = (insOf o.op).map s.ev := List.map_congr_left fun x hx => ev_congr fun k hk => h k (List.mem_append_left _ (List.mem_filterMap.2 ⟨x, hx, hk⟩))
  have hneed : (needsOf E o.op ((insOf o.op).map s.ev)).map (fun r => s'.get r.1 r.2) = (needsOf E o.op ((insOf o.op).map s.ev)).map fun r => s.get r.1 r.2 := List.map_congr_left fun k hk => h k (List.mem_append_right _ hk)
  unfold actOf at hp ⊢
  simp only [hins, hneed]
  dsimp only at hp
  generalize (insOf o.op).map s.ev = ins at *
  generalize (needsOf E o.op ins).map (fun r => s.get r.1 r.2) = fs at *
  have hmk : ∀ (t d : Nat) (fr fr' : Nat → Bool) (ins : List AV), (fr d = true → fr' d = true) → (makeAV E t d fr ins).1 → (makeAV E t d fr' ins).1 ∧ (makeAV E t d fr' ins).2 = (makeAV E t d fr ins).2 := by
    intro t d fr fr' ins hfr h
    unfold makeAV at h ⊢
    split at h
    · split at h
      · rename_i e he
        try simp only [he]
        split at h
        · exact ⟨⟨h.1, hfr h.2.1, h.2.2⟩, rfl⟩
        · exact h.elim
      · exact h.elim
    · exact h.elim
  have hem : ∀ (t d : Nat) (fr fr' : Nat → Bool), (fr d = true → fr' d = true) → (emptyAV E t d fr).1 → (emptyAV E t d fr').1 ∧ (emptyAV E t d fr').2 = (emptyAV E t d fr).2 := by
    intro t d fr fr' hfr h
    unfold emptyAV at h ⊢
    split at h
    · rename_i e he
      try simp only [he]
      split at h
      · exact ⟨⟨h.1, hfr h.2.1, h.2.2⟩, rfl⟩
      · exact h.elim
    · exact h.elim
  have hap : ∀ (ts : List Nat) (d : Nat) (fr fr' : Nat → Bool) (ins : List AV) (fs : List (Option RV)), (fr d = true → fr' d = true) → (appAV E ts d fr ins fs).1 → (appAV E ts d fr' ins fs).1 ∧ (appAV E ts d fr' ins fs).2 = (appAV E ts d fr ins fs).2 := by
    intro ts d fr fr' ins fs hfr h
    unfold appAV at h ⊢
    split at h
    · rename_i te hte
      try simp only [hte]
      split at h
      · split at h
        · exact ⟨⟨h.1, hfr h.2.1, h.2.2⟩, rfl⟩
        · exact h.elim
      · exact ⟨⟨h.1, hfr h.2.1, h.2.2⟩, rfl⟩
      · exact h.elim
    · exact h.elim
  cases ho : o.op
  case call c =>
    obtain ⟨callee, args, ts⟩ := c
    rw [ho] at hp
    cases hd : o.dst with
    | none =>
      rw [hd] at hp
      cases callee with
      | builtin b => cases b <;> exact ⟨hp, rfl⟩
      | _ => exact ⟨hp, rfl⟩
    | some d =>
      rw [hd] at hp
      cases callee with
      | builtin b =>
        cases b
        case append => exact hap _ _ _ _ _ _ (hf d (by simp [alOf, ho, hd])) hp
        all_goals exact ⟨hp, rfl⟩
      | _ => exact ⟨hp, rfl⟩
  case buildSlice t n ps =>
    rw [ho] at hp
    cases hd : o.dst with
    | none => rw [hd] at hp; cases n <;> exact ⟨hp, rfl⟩
    | some d =>
      rw [hd] at hp
      cases n with
      | zero =>
        have hp : ps = #[] ∧ (emptyAV E t d s.fresh).1 := hp
        obtain ⟨e1, e2⟩ := hem t d _ _ (hf d (by simp [alOf, ho, hd])) hp.2
        exact ⟨⟨hp.1, e1⟩, e2⟩
      | succ n => exact ⟨hp, rfl⟩
  case makeSlice t l c =>
    rw [ho] at hp
    cases hd : o.dst with
    | none => rw [hd] at hp; exact ⟨hp, rfl⟩
    | some d => rw [hd] at hp; exact hmk _ _ _ _ _ (hf d (by simp [alOf, ho, hd])) hp
  all_goals unfold effOf at hp ⊢
  all_goals rw [ho] at hp
  all_goals cases hd : o.dst <;> rw [hd] at hp <;> simp only at hp ⊢ <;> first | exact ⟨hp, trivial⟩ | exact ⟨hp, rfl⟩ | skip
  case alloc.some t d =>
    split at hp
    · exact ⟨⟨hp.1, hf d (by simp [alOf, ho, hd]) hp.2⟩, rfl⟩
    · exact hp.elim
  case box.some t x d =>
    split at hp
    · exact ⟨⟨hp.1, hf d (by simp [alOf, ho, hd]) hp.2.1, hp.2.2⟩, rfl⟩
    · exact hp.elim

theorem goes_act (hE : EnvOk P E) {ops : Array Oper} {o : Oper} (hg : o.guard = none) (h : (actOf E o s).1) : Goes P E X0 w0 ops o s (actOf E o s).2 := by
  intro a w g who H Q K hk
  rw [if_pos (by simp [Region.wanted, hg])]
  exact act_sound hE H o h Q K hk

theorem goes_yes (hE : EnvOk P E) {ops : Array Oper} {o : Oper} {j t : Nat} {want : Bool} (hg : o.guard = some (j, want)) (hb : boolAt ops s j = some (t, want)) (h : (actOf E o s).1) : Goes P E X0 w0 ops o s (actOf E o s).2 := by
  intro a w g who H Q K hk
  obtain ⟨hy, _⟩ := boolAt_yielded H hb
  rw [if_pos (by simp [Region.wanted, hg, hy])]
  exact act_sound hE H o h Q K hk

theorem goes_no {ops : Array Oper} {o : Oper} {j t : Nat} {want : Bool} (hg : o.guard = some (j, want)) (hb : boolAt ops s j = some (t, !want)) (h : dstOk E o) : Goes P E X0 w0 ops o s (skipOf o) := by
  intro a w g who H Q K hk
  obtain ⟨hy, _⟩ := boolAt_yielded H hb
  rw [if_neg (by simp [Region.wanted, hg, hy])]
  exact hk _ _ _ _ (H.skip h)

theorem goes_und {ops : Array Oper} {o : Oper} {j : Nat} {want : Bool} (hg : o.guard = some (j, want)) (hu : undAt s (slotAt ops j) = true) (h : dstOk E o) : Goes P E X0 w0 ops o s (skipOf o) := by
  intro a w g who H Q K hk
  rw [if_neg (by simp [Region.wanted, hg, und_yielded H hu])]
  exact hk _ _ _ _ (H.skip h)

theorem undAt_congr {s s' : AS} {x : Option Nat} (h : undAt s x = true) (ht : ∀ k ∈ slotKey x, s'.get k.1 k.2 = s.get k.1 k.2) : undAt s' x = true := by
  cases x with
  | none => exact h
  | some t =>
    have := ht (t, 0) (by simp [slotKey])
    simp only at this
    simp only [undAt, this] at h ⊢
    exact h

/-- the operation o has read and laid t at the state s: so it does wherever what it read is the same -/
def Does (P : Program) (E : Env) (X0 : Nat → Nat → Prop) (w0 : World) (ops : Array Oper) (o : Oper) (s : AS) (t : Tr) : Prop :=
  ∀ s' : AS, (∀ k ∈ t.rd, s'.get k.1 k.2 = s.get k.1 k.2) → (∀ d, t.al = some d → s'.fresh d = true) → Goes P E X0 w0 ops o s' t.wr

theorem boolAt_congr {ops : Array Oper} {j t : Nat} {b : Bool} {s s' : AS} (h : boolAt ops s j = some (t, b)) (ht : s'.get t 0 = s.get t 0) : boolAt ops s' j = some (t, b) := by
  unfold boolAt at h ⊢
  cases ho : ops[j]? with
  | none => rw [ho] at h; cases h
  | some o =>
    rw [ho] at h
    simp only at h ⊢
    cases hd : o.dst with
    | none => rw [hd] at h; cases h
    | some t' =>
      rw [hd] at h
      simp only at h ⊢
      have : t' = t := by
        split at h
        · cases h; rfl
        · cases h
      subst this
      rw [ht]
      exact h

theorem boolAt_get {ops : Array Oper} {j t : Nat} {b : Bool} {s : AS} (h : boolAt ops s j = some (t, b)) : s.get t 0 = some (.av (.one (.cel (.bool b)))) := by
  unfold boolAt at h
  split at h
  · split at h
    · split at h
      · rename_i b' hg
        cases h
        exact hg
      · cases h
    · cases h
  · cases h

theorem get_append (W s : AS) (n k : Nat) : (W ++ s).get n k = match W.get n k with | some r => some r | none => s.get n k := by
  induction W with
  | nil => rfl
  | cons x W ih =>
    obtain ⟨n', k', r⟩ := x
    rw [List.cons_append]
    by_cases hnk : n' = n ∧ k' = k
    · obtain ⟨rfl, rfl⟩ := hnk
      rw [AS.get_cons_self, AS.get_cons_self]
    · rw [AS.get_cons_ne _ _ hnk, AS.get_cons_ne _ _ hnk, ih]

/-- get by get the same -/
def Eqv (s s' : AS) : Prop := ∀ n k, s.get n k = s'.get n k

theorem Eqv.append {s s' : AS} (h : Eqv s s') (W : AS) : Eqv (W ++ s) (W ++ s') := fun n k => by rw [get_append, get_append, h n k]

theorem stepD_inv (hE : EnvOk P E) {ops : Array Oper} {o : Oper} {KA : AS → Tr → Prop} (h : stepD E ops o s KA) :
    ∃ s' t, KA s' t ∧ Does P E X0 w0 ops o s t ∧ Eqv s' (t.wr ++ s) ∧ (∀ x ∈ s, x ∈ s') ∧ (∀ d, t.al = some d → s.fresh d = true) := by
  have hfr : ∀ {s : AS} {o : Oper}, (actOf E o s).1 → ∀ d, alOf o = some d → s.fresh d = true := by
    intro s o hp d hd
    unfold actOf at hp
    dsimp only at hp
    cases ho : o.op
    case call c =>
      obtain ⟨callee, args, ts⟩ := c
      cases callee with
      | builtin b =>
        cases b
        case append =>
          simp only [alOf, ho] at hd
          rw [ho, hd] at hp
          simp only [effOf] at hp
          unfold appAV at hp
          split at hp
          · split at hp
            · split at hp
              · exact hp.2.1
              · exact hp.elim
            · exact hp.2.1
            · exact hp.elim
          · exact hp.elim
        all_goals simp [alOf, ho] at hd
      | _ => simp [alOf, ho] at hd
    case buildSlice t n ps =>
      cases n with
      | zero =>
        simp only [alOf, ho] at hd
        rw [ho, hd] at hp
        have hp : ps = #[] ∧ (emptyAV E t d s.fresh).1 := hp
        have hp := hp.2
        unfold emptyAV at hp
        split at hp
        · split at hp
          · exact hp.2.1
          · exact hp.elim
        · exact hp.elim
      | succ n => simp [alOf, ho] at hd
    case makeSlice t l c =>
      simp only [alOf, ho] at hd
      rw [ho, hd] at hp
      simp only [effOf] at hp
      unfold makeAV at hp
      split at hp
      · split at hp
        · split at hp
          · exact hp.2.1
          · exact hp.elim
        · exact hp.elim
      · exact hp.elim
    all_goals simp [alOf, ho] at hd <;> simp only [ho, hd, effOf] at hp
    · split at hp
      · exact hp.2
      · exact hp.elim
    · split at hp
      · exact hp.2.1
      · exact hp.elim
  unfold stepD at h
  split at h
  · rename_i hg
    refine ⟨_, _, h.2, ?_, fun _ _ => rfl, fun x hx => List.mem_append_right _ hx, fun d hd => hfr h.1 d hd⟩
    intro s' hr hf
    obtain ⟨h1, h2⟩ := act_congr hr (fun d hd _ => hf d hd) h.1
    have := goes_act (X0 := X0) (w0 := w0) hE (ops := ops) hg h1
    rw [h2] at this
    exact this
  · rename_i j want hg
    split at h
    · rename_i t b hb
      have hget := boolAt_get hb
      by_cases hbw : b = want
      · subst hbw
        have hh := h.1 rfl
        rw [AS.setv_eq hget] at hh
        refine ⟨_, _, hh.2, ?_, fun _ _ => rfl, fun x hx => List.mem_append_right _ hx, fun d hd => hfr hh.1 d hd⟩
        intro s' hr hf
        have hr2 : ∀ k ∈ rdOf E o s, s'.get k.1 k.2 = s.get k.1 k.2 := fun k hk => hr k (List.mem_cons_of_mem _ hk)
        obtain ⟨h1, h2⟩ := act_congr hr2 (fun d hd _ => hf d hd) hh.1
        have hb' := boolAt_congr hb (hr (t, 0) (List.mem_cons_self ..))
        have := goes_yes (X0 := X0) (w0 := w0) hE (ops := ops) hg hb' h1
        rw [h2] at this
        exact this
      · have hbn : b = !want := by cases b <;> cases want <;> simp_all
        subst hbn
        obtain ⟨hd, hK⟩ := h.2 rfl
        rw [AS.setv_eq hget] at hK
        refine ⟨_, _, hK, ?_, fun _ _ => rfl, fun x hx => List.mem_append_right _ hx, fun d hd => by cases hd⟩
        intro s' hr _
        have hb' := boolAt_congr hb (hr (t, 0) (List.mem_cons_self ..))
        exact goes_no hg hb' hd
    · obtain ⟨hu, hd, hK⟩ := h
      refine ⟨_, _, hK, ?_, fun _ _ => rfl, fun x hx => List.mem_append_right _ hx, fun d hd => by cases hd⟩
      intro s' hr _
      exact goes_und hg (undAt_congr hu hr) hd

/-- the operations' layings, those of D alone, in the text's order -/
def laid (D : Nat → Bool) : Nat → List Tr → AS → AS
  | _, [], s => s
  | i, t :: tr, s => laid D (i + 1) tr (if D i = true then t.wr ++ s else s)

theorem laid_eqv (D : Nat → Bool) : ∀ (tr : List Tr) (i : Nat) {s s' : AS}, Eqv s s' → Eqv (laid D i tr s) (laid D i tr s')
  | [], _, _, _, h => h
  | t :: tr, i, s, s', h => by
    simp only [laid]
    refine laid_eqv D tr (i + 1) ?_
    split
    · exact h.append _
    · exact h

theorem laid_congr {D D' : Nat → Bool} : ∀ (tr : List Tr) (i : Nat) (s : AS), (∀ j, j < tr.length → D (i + j) = D' (i + j)) → laid D i tr s = laid D' i tr s
  | [], _, _, _ => rfl
  | t :: tr, i, s, h => by
    simp only [laid]
    have h0 := h 0 (by simp)
    rw [Nat.add_zero] at h0
    rw [h0]
    exact laid_congr tr (i + 1) _ fun j hj => by have := h (j + 1) (by simp; omega); rwa [show i + (j + 1) = i + 1 + j by omega] at this

theorem laid_none {D : Nat → Bool} : ∀ (tr : List Tr) (i : Nat) (s : AS), (∀ j, i ≤ j → D j = false) → laid D i tr s = s
  | [], _, _, _ => rfl
  | t :: tr, i, s, h => by
    simp only [laid]
    rw [if_neg (by rw [h i (Nat.le_refl _)]; simp)]
    exact laid_none tr (i + 1) s fun j hj => h j (by omega)

def keysOf (s : AS) : List (Nat × Nat) := s.map fun r => (r.1, r.2.1)

theorem laid_get {D D' : Nat → Bool} {n k : Nat} : ∀ (tr : List Tr) (i : Nat) {s s' : AS}, s.get n k = s'.get n k → (∀ j u, tr[j]? = some u → (n, k) ∈ keysOf u.wr → D (i + j) = D' (i + j)) →
    (laid D i tr s).get n k = (laid D' i tr s').get n k
  | [], _, _, _, h, _ => h
  | t :: tr, i, s, s', h, hd => by
    simp only [laid]
    refine laid_get tr (i + 1) ?_ fun j u hu hk => by have := hd (j + 1) u (by simpa using hu) hk; rwa [show i + (j + 1) = i + 1 + j by omega] at this
    by_cases hk : (n, k) ∈ keysOf t.wr
    · have := hd 0 t rfl hk
      rw [Nat.add_zero] at this
      rw [this]
      split
      · rw [get_append, get_append, h]
      · exact h
    · have hg : t.wr.get n k = none := by
        cases hg : t.wr.get n k with
        | none => rfl
        | some r => exact absurd (List.mem_map.2 ⟨_, AS.get_mem hg, rfl⟩) hk
      have e : ∀ x : AS, (t.wr ++ x).get n k = x.get n k := fun x => by rw [get_append, hg]
      split <;> split <;> simp only [e, h]

theorem laid_mem {D : Nat → Bool} {x : Nat × Nat × RV} : ∀ (tr : List Tr) (i : Nat) (s : AS), x ∈ laid D i tr s → x ∈ s ∨ ∃ j u, tr[j]? = some u ∧ D (i + j) = true ∧ x ∈ u.wr
  | [], _, _, h => .inl h
  | t :: tr, i, s, h => by
    simp only [laid] at h
    rcases laid_mem tr (i + 1) _ h with h | ⟨j, u, hu, hd, hx⟩
    · split at h
      · rename_i hd
        rcases List.mem_append.1 h with h | h
        · exact .inr ⟨0, t, rfl, by simpa using hd, h⟩
        · exact .inl h
      · exact .inl h
    · exact .inr ⟨j + 1, u, by simpa using hu, by rw [show i + (j + 1) = i + 1 + j by omega]; exact hd, hx⟩

theorem laid_last {D : Nat → Bool} {n k : Nat} {t : Tr} {r : RV} (hr : t.wr.get n k = some r) : ∀ (tr : List Tr) (i p : Nat) (s : AS), tr[p]? = some t → D (i + p) = true → (∀ q u, p < q → tr[q]? = some u → D (i + q) = true → (n, k) ∉ keysOf u.wr) →
    (laid D i tr s).get n k = some r
  | [], _, _, _, h, _, _ => by simp at h
  | u :: tr, i, 0, s, h, hd, hn => by
    simp only [List.getElem?_cons_zero, Option.some.injEq] at h
    subst h
    simp only [laid]
    rw [if_pos (by simpa using hd)]
    rw [laid_get (D' := fun _ => false) tr (i + 1) (s' := u.wr ++ s) rfl, laid_none tr (i + 1) _ (fun _ _ => rfl), get_append, hr]
    intro j v hv hk
    cases hD : D (i + 1 + j) with
    | false => rfl
    | true => exact absurd hk (hn (j + 1) v (by omega) (by simpa using hv) (by rw [show i + (j + 1) = i + 1 + j by omega]; exact hD))
  | u :: tr, i, p + 1, s, h, hd, hn => by
    simp only [laid]
    exact laid_last hr tr (i + 1) p _ (by simpa using h) (by rw [show i + 1 + p = i + (p + 1) by omega]; exact hd) fun q v hq hv hD => hn (q + 1) v (by omega) (by simpa using hv) (by rw [show i + (q + 1) = i + 1 + q by omega]; exact hD)

theorem Does.eqv {ops : Array Oper} {o : Oper} {s s' : AS} {t : Tr} (h : Does P E X0 w0 ops o s t) (he : Eqv s s') : Does P E X0 w0 ops o s' t :=
  fun s'' h1 h2 => h s'' (fun k hk => (h1 k hk).trans (he _ _).symm) h2

theorem awpD_inv (hE : EnvOk P E) {ops : Array Oper} {KA : AS → List Tr → Prop} : ∀ (l : List Oper) (s s0 : AS) (tr0 : List Tr), awpD E ops l s tr0 KA → (∀ x ∈ s0, x ∈ s) →
    ∃ s' tr, KA s' (tr0.reverse ++ tr) ∧ tr.length = l.length ∧ (∀ i0 i o t, l[i]? = some o → tr[i]? = some t → Does P E X0 w0 ops o (laid (fun j => decide (j < i0 + i)) i0 tr s) t) ∧ Eqv s' (laid (fun _ => true) 0 tr s) ∧ (∀ t ∈ tr, ∀ d, t.al = some d → s0.fresh d = true)
  | [], s, s0, tr0, h, _ => ⟨s, [], by simpa [awpD] using h, rfl, by simp, fun _ _ => rfl, by simp⟩
  | o :: l, s, s0, tr0, h, hm => by
    simp only [awpD] at h
    obtain ⟨s1, t, h1, h2, h3, h4, h5⟩ := stepD_inv (X0 := X0) (w0 := w0) hE h
    obtain ⟨s', tr, k1, kl, k2, k3, k4⟩ := awpD_inv hE l s1 s0 (t :: tr0) h1 (fun x hx => h4 x (hm x hx))
    refine ⟨s', t :: tr, by simpa using k1, by simp [kl], ?_, ?_, ?_⟩
    · intro i0 i o' t' ho ht
      cases i with
      | zero =>
        simp only [List.getElem?_cons_zero, Option.some.injEq] at ho ht
        subst ho ht
        rw [laid_none _ _ _ (fun j hj => by simp; omega)]
        exact h2
      | succ i =>
        simp only [laid]
        rw [if_pos (by simp)]
        have := k2 (i0 + 1) i o' t' (by simpa using ho) (by simpa using ht)
        rw [show i0 + 1 + i = i0 + (i + 1) by omega] at this
        exact this.eqv (laid_eqv _ _ _ h3)
    · simp only [laid, if_true]
      intro n k
      rw [k3 n k, laid_eqv _ tr 0 h3 n k, laid_congr (D' := fun _ => true) tr 0 _ (fun _ _ => rfl)]
      exact laid_get tr 0 rfl (fun _ _ _ _ => rfl) |>.trans (by
        have : ∀ (tr : List Tr) (i j : Nat) (x : AS), laid (fun _ => true) i tr x = laid (fun _ => true) j tr x := by
          intro tr
          induction tr with
          | nil => intro i j x; rfl
          | cons u tr ih => intro i j x; simp only [laid]; exact ih _ _ _
        rw [this tr 0 (0 + 1)])
    · intro u hu d hd
      rcases List.mem_cons.1 hu with rfl | hu
      · have := h5 d hd
        exact List.all_eq_true.2 fun x hx => List.all_eq_true.1 this x (hm x hx)
      · exact k4 u hu d hd

end
end Go.Proofs.Ytdojdghhbjjoeaa
