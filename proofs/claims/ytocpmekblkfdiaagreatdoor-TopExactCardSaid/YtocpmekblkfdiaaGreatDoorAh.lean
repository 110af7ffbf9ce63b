/- The abstract walk, eighth part: regions that draw their order. No condition. The abstract walk, ninth part: regions that draw their order, whole; code; functions. No condition. The abstract walk: a row of one's own is given up; it is called otherwise; nil is a row. No condition. -/
import Derived.Test.YtocpmekblkfdiaaGreatDoorAr
import Derived.Orders
namespace Go.Proofs.YtocpmekblkfdiaaGreatDoor
open Go.RowKit
/-- what an operation of a region has read and laid -/
structure Tr where
  rd : List (Nat × Nat)
  wr : AS
  al : Option Nat
def slotOf : Operand → Option (Nat × Nat)
  | .tmp t => some (t, 0)
  | _ => none
def rdOf (E : Env) (o : Oper) (s : AS) : List (Nat × Nat) :=
  (insOf o.op).filterMap slotOf ++ needsOf E o.op ((insOf o.op).map s.ev)
def alOf (E : Env) (o : Oper) : Option Nat :=
  match o.op with
  | .alloc _ => o.dst
  | .box _ _ => o.dst
  | .makeSlice _ _ _ => o.dst
  | .buildSlice _ n _ => match o.dst with
    | some d => bif (n == 0 || ownB E d) then some d else none
    | none => none
  | .call ⟨.builtin .append, _, _⟩ => o.dst
  | _ => none
def slotKey : Option Nat → List (Nat × Nat)
  | some t => [(t, 0)]
  | none => []
/-- one operation of a region, its guard before it; what it has read and laid -/
def stepD (E : Env) (ops : Array Oper) (o : Oper) (s : AS) (K : AS → Tr → Prop) : Prop :=
  match o.guard with
  | none => (actOf E o s).1 ∧ K ((actOf E o s).2 ++ s) ⟨rdOf E o s, (actOf E o s).2, alOf E o⟩
  | some (j, want) => match boolAt ops s j with
    | some (t, b) => (b = want → (actOf E o (s.setv t (.av (.cel (.bool want))))).1 ∧ K ((actOf E o (s.setv t (.av (.cel (.bool want))))).2 ++ (s.setv t (.av (.cel (.bool want))))) ⟨(t, 0) :: rdOf E o (s.setv t (.av (.cel (.bool want)))), (actOf E o (s.setv t (.av (.cel (.bool want))))).2, alOf E o⟩) ∧
        (b = !want → dstOk E o ∧ K (skipOf o ++ (s.setv t (.av (.cel (.bool (!want)))))) ⟨[(t, 0)], skipOf o, none⟩)
    | none => undAt s (slotAt ops j) = true ∧ dstOk E o ∧ K (skipOf o ++ s) ⟨slotKey (slotAt ops j), skipOf o, none⟩
def awpD (E : Env) (ops : Array Oper) : List Oper → AS → List Tr → (AS → List Tr → Prop) → Prop
  | [], s, tr, K => K s tr.reverse
  | o :: r, s, tr, K => stepD E ops o s fun s' t => awpD E ops r s' (t :: tr) K
def edgeIn (i : Nat) : List Edge → Bool
  | [] => false
  | e :: l => (Region.binds .any e && Nat.beq e.on i) || edgeIn i l
/-- comes i before j, whatever is drawn? -/
def pathB (ops : List Oper) : Nat → Nat → Nat → Bool
  | 0, _, _ => false
  | f + 1, i, j => match ops[j]? with
    | some o => edgeIn i o.after.toList || o.after.toList.any fun e => Region.binds .any e && pathB ops f i e.on
    | none => false
/-- no operation waits for a later one -/
def okEdges : Nat → List Oper → Bool
  | _, [] => true
  | j, o :: l => (o.after.toList.all fun e => !Region.binds .any e || Nat.blt e.on j) && okEdges (j + 1) l
def keyEq (a b : Nat × Nat) : Bool := Nat.beq a.1 b.1 && Nat.beq a.2 b.2
def keyIn (k : Nat × Nat) : AS → Bool
  | [] => false
  | (n, j, _) :: s => keyEq k (n, j) || keyIn k s
def rdIn (s : AS) : List (Nat × Nat) → Bool
  | [] => false
  | k :: l => keyIn k s || rdIn s l
def wrIn (s : AS) : AS → Bool
  | [] => false
  | (n, j, _) :: l => keyIn (n, j) s || wrIn s l
def mentions (s : AS) (d : Nat) : Bool := s.any fun r => r.2.2.men d || (r.1 == d && r.2.1 != 0)
def alIn (s : AS) : Option Nat → Bool
  | some d => mentions s d
  | none => false
def okPair (ops : List Oper) (i j : Nat) (ti tj : Tr) : Bool :=
  (!(rdIn ti.wr tj.rd || wrIn ti.wr tj.wr || rdIn tj.wr ti.rd || alIn tj.wr ti.al) || pathB ops ops.length i j) && !alIn ti.wr tj.al
def okOne (ops : List Oper) (i : Nat) (ti : Tr) : Nat → List Tr → Bool
  | _, [] => true
  | j, tj :: l => okPair ops i j ti tj && okOne ops i ti (j + 1) l
def okAll (ops : List Oper) : Nat → List Tr → Bool
  | _, [] => true
  | i, t :: l => okOne ops i t (i + 1) l && okAll ops (i + 1) l
def okOrder (ops : List Oper) (tr : List Tr) : Bool := okEdges 0 ops && okAll ops 0 tr
/-- a region whose order is drawn -/
def awpDraw (E : Env) (ops : Array Oper) (s : AS) (K : AS → Prop) : Prop :=
  awpD E ops ops.toList s [] fun s' tr => okOrder ops.toList tr = true ∧ K s'
section
variable {P : Program} {E : Env} {X0 : Nat → Nat → Prop} {w0 : World} {s : AS} {a : Act} {w : World} {g : Gh} {who : Nat → Option (Nat × Bool)}
/-- the operation o, at the state s, lays W over it -/
def Goes (P : Program) (E : Env) (X0 : Nat → Nat → Prop) (w0 : World) (ops : Array Oper) (o : Oper) (s : AS) (W : AS) : Prop :=
  ∀ (a : Act) (w : World) (g : Gh) (who : Nat → Option (Nat × Bool)), Gam E.N X0 w0 s a w g who → ∀ (Q : Exit → Act → World → Prop) (K : Act → World → Prop),
    (∀ a' w' g' who', Gam E.N X0 w0 (W ++ s) a' w' g' who' → K a' w') → if Region.wanted o (yielded ops a.tmps) then o.wp P a w K Q else K (a.put o.dst undef) w
theorem ev_congr {s s' : AS} {x : Operand} (h : ∀ k, slotOf x = some k → s'.get k.1 k.2 = s.get k.1 k.2) : s'.ev x = s.ev x := by
  cases x with
  | tmp t => have := h (t, 0) rfl; simp only at this; simp only [AS.ev, this]
  | _ => rfl
theorem act_congr {s s' : AS} {o : Oper} (h : ∀ k ∈ rdOf E o s, s'.get k.1 k.2 = s.get k.1 k.2) (hf : ∀ d, alOf E o = some d → s.fresh d = true → s'.fresh d = true) (hp : (actOf E o s).1) :
    (actOf E o s').1 ∧ (actOf E o s').2 = (actOf E o s).2 := by
  have hins : (insOf o.op).map s'.ev = (insOf o.op).map s.ev := List.map_congr_left fun x hx => ev_congr fun k hk => h k (List.mem_append_left _ (List.mem_filterMap.2 ⟨x, hx, hk⟩))
  have hneed : (needsOf E o.op ((insOf o.op).map s.ev)).map (fun r => s'.get r.1 r.2) = (needsOf E o.op ((insOf o.op).map s.ev)).map fun r => s.get r.1 r.2 := List.map_congr_left fun k hk => h k (List.mem_append_right _ hk)
  unfold actOf at hp ⊢
  simp only [hins, hneed]
  dsimp only at hp
  generalize (insOf o.op).map s.ev = ins at *
  generalize (needsOf E o.op ins).map (fun r => s.get r.1 r.2) = fs at *
  have hmk : ∀ (t d : Nat) (fr fr' : Nat → Bool) (ins : List AV), (fr d = true → fr' d = true) → (makeAV E t d fr ins).1 → (makeAV E t d fr' ins).1 ∧ (makeAV E t d fr' ins).2 = (makeAV E t d fr ins).2 := by
    intro t d fr fr' ins hfr h
    unfold makeAV at h ⊢
    split at h
    · split at h
      · rename_i e he
        try simp only [he]
        split at h
        · exact ⟨⟨h.1, hfr h.2.1, h.2.2⟩, rfl⟩
        · exact h.elim
      · exact h.elim
    · exact h.elim
  have hem : ∀ (t d : Nat) (fr fr' : Nat → Bool), (fr d = true → fr' d = true) → (emptyAV E t d fr).1 → (emptyAV E t d fr').1 ∧ (emptyAV E t d fr').2 = (emptyAV E t d fr).2 := by
    intro t d fr fr' hfr h
    unfold emptyAV at h ⊢
    split at h
    · rename_i e he
      try simp only [he]
      split at h
      · exact ⟨⟨h.1, hfr h.2.1, h.2.2⟩, rfl⟩
      · exact h.elim
    · exact h.elim
  have hap : ∀ (ts : List Nat) (d : Nat) (fr fr' : Nat → Bool) (ins : List AV) (fs : List (Option RV)), (fr d = true → fr' d = true) → (appAV E ts d fr ins fs).1 → (appAV E ts d fr' ins fs).1 ∧ (appAV E ts d fr' ins fs).2 = (appAV E ts d fr ins fs).2 := by
    intro ts d fr fr' ins fs hfr h
    unfold appAV at h ⊢
    split at h
    · rename_i te hte
      try simp only [hte]
      split at h
      · split at h
        · exact ⟨⟨h.1, hfr h.2.1, h.2.2⟩, rfl⟩
        · exact h.elim
      · exact ⟨⟨h.1, hfr h.2.1, h.2.2⟩, rfl⟩
      · exact h.elim
    · exact h.elim
  have hbl : ∀ (t d n : Nat) (fr fr' : Nat → Bool) (ixs : List Nat) (ins : List AV), (fr d = true → fr' d = true) → (builtAV E t d n fr ixs ins).1 → (builtAV E t d n fr' ixs ins).1 ∧ (builtAV E t d n fr' ixs ins).2 = (builtAV E t d n fr ixs ins).2 := by
    intro t d n fr fr' ixs ins hfr h
    unfold builtAV at h ⊢
    split at h
    · rename_i e he
      try simp only [he]
      split at h
      · rename_i te hte
        try simp only [hte]
        split at h
        · exact h.elim
        · rename_i hu
          try simp only [hu]
          split at h
          · exact ⟨⟨h.1, hfr h.2.1, h.2.2⟩, rfl⟩
          · exact h.elim
      · exact h.elim
    · exact h.elim
  cases ho : o.op
  case call c =>
    obtain ⟨callee, args, ts⟩ := c
    rw [ho] at hp
    cases hd : o.dst with
    | none =>
      rw [hd] at hp
      cases callee with
      | builtin b => cases b <;> exact ⟨hp, rfl⟩
      | _ => exact ⟨hp, rfl⟩
    | some d =>
      rw [hd] at hp
      cases callee with
      | builtin b =>
        cases b
        case append => exact hap _ _ _ _ _ _ (hf d (by simp [alOf, ho, hd])) hp
        all_goals exact ⟨hp, rfl⟩
      | _ => exact ⟨hp, rfl⟩
  case buildSlice t n ps =>
    rw [ho] at hp
    cases hd : o.dst with
    | none => rw [hd] at hp; cases n <;> exact ⟨hp, rfl⟩
    | some d =>
      rw [hd] at hp
      cases n with
      | zero =>
        have hp : ps = #[] ∧ (emptyAV E t d s.fresh).1 := hp
        obtain ⟨e1, e2⟩ := hem t d _ _ (hf d (by simp [alOf, ho, hd])) hp.2
        exact ⟨⟨hp.1, e1⟩, e2⟩
      | succ n =>
        have e : ∀ (fr : Nat → Bool) (b : Bool), ownB E d = b → effOf E (.buildSlice t (n + 1) ps) (some d) fr ins fs = buildEff E t d (n + 1) fr ps ins false b := fun fr b hb => by
          show buildEff E t d (n + 1) fr ps ins (n + 1 == 0) (ownB E d) = _
          rw [hb]; rfl
        cases hob : ownB E d with
        | false =>
          rw [e _ _ hob] at hp ⊢
          rw [e _ _ hob]
          exact ⟨hp, rfl⟩
        | true =>
          rw [e _ _ hob] at hp ⊢
          rw [e _ _ hob]
          exact hbl _ _ _ _ _ _ _ (hf d (by simp [alOf, ho, hd, hob])) hp
  case makeSlice t l c =>
    rw [ho] at hp
    cases hd : o.dst with
    | none => rw [hd] at hp; exact ⟨hp, rfl⟩
    | some d => rw [hd] at hp; exact hmk _ _ _ _ _ (hf d (by simp [alOf, ho, hd])) hp
  all_goals unfold effOf at hp ⊢
  all_goals rw [ho] at hp
  all_goals cases hd : o.dst <;> rw [hd] at hp <;> simp only at hp ⊢ <;> first | exact ⟨hp, trivial⟩ | exact ⟨hp, rfl⟩ | skip
  case alloc.some t d =>
    split at hp
    · exact ⟨⟨hp.1, hf d (by simp [alOf, ho, hd]) hp.2⟩, rfl⟩
    · exact hp.elim
  case box.some t x d =>
    split at hp
    · exact ⟨⟨hp.1, hf d (by simp [alOf, ho, hd]) hp.2.1, hp.2.2⟩, rfl⟩
    · exact hp.elim
theorem goes_act (hE : EnvOk P E) {ops : Array Oper} {o : Oper} (hg : o.guard = none) (h : (actOf E o s).1) : Goes P E X0 w0 ops o s (actOf E o s).2 := by
  intro a w g who H Q K hk
  rw [if_pos (by simp [Region.wanted, hg])]
  exact act_sound hE H o h Q K hk
theorem goes_yes (hE : EnvOk P E) {ops : Array Oper} {o : Oper} {j t : Nat} {want : Bool} (hg : o.guard = some (j, want)) (hb : boolAt ops s j = some (t, want)) (h : (actOf E o s).1) : Goes P E X0 w0 ops o s (actOf E o s).2 := by
  intro a w g who H Q K hk
  obtain ⟨hy, _⟩ := boolAt_yielded H hb
  rw [if_pos (by simp [Region.wanted, hg, hy])]
  exact act_sound hE H o h Q K hk
theorem goes_no {ops : Array Oper} {o : Oper} {j t : Nat} {want : Bool} (hg : o.guard = some (j, want)) (hb : boolAt ops s j = some (t, !want)) (h : dstOk E o) : Goes P E X0 w0 ops o s (skipOf o) := by
  intro a w g who H Q K hk
  obtain ⟨hy, _⟩ := boolAt_yielded H hb
  rw [if_neg (by simp [Region.wanted, hg, hy])]
  exact hk _ _ _ _ (H.skip h)
theorem goes_und {ops : Array Oper} {o : Oper} {j : Nat} {want : Bool} (hg : o.guard = some (j, want)) (hu : undAt s (slotAt ops j) = true) (h : dstOk E o) : Goes P E X0 w0 ops o s (skipOf o) := by
  intro a w g who H Q K hk
  rw [if_neg (by simp [Region.wanted, hg, und_yielded H hu])]
  exact hk _ _ _ _ (H.skip h)
theorem undAt_congr {s s' : AS} {x : Option Nat} (h : undAt s x = true) (ht : ∀ k ∈ slotKey x, s'.get k.1 k.2 = s.get k.1 k.2) : undAt s' x = true := by
  cases x with
  | none => exact h
  | some t =>
    have := ht (t, 0) (by simp [slotKey])
    simp only at this
    simp only [undAt, this] at h ⊢
    exact h
/-- the operation o has read and laid t at the state s: so it does wherever what it read is the same -/
def Does (P : Program) (E : Env) (X0 : Nat → Nat → Prop) (w0 : World) (ops : Array Oper) (o : Oper) (s : AS) (t : Tr) : Prop :=
  ∀ s' : AS, (∀ k ∈ t.rd, s'.get k.1 k.2 = s.get k.1 k.2) → (∀ d, t.al = some d → s'.fresh d = true) → Goes P E X0 w0 ops o s' t.wr
theorem boolAt_congr {ops : Array Oper} {j t : Nat} {b : Bool} {s s' : AS} (h : boolAt ops s j = some (t, b)) (ht : s'.get t 0 = s.get t 0) : boolAt ops s' j = some (t, b) := by
  unfold boolAt at h ⊢
  cases ho : ops[j]? with
  | none => rw [ho] at h; cases h
  | some o =>
    rw [ho] at h
    simp only at h ⊢
    cases hd : o.dst with
    | none => rw [hd] at h; cases h
    | some t' =>
      rw [hd] at h
      simp only at h ⊢
      have : t' = t := by
        split at h
        · cases h; rfl
        · cases h
      subst this
      rw [ht]
      exact h
theorem boolAt_get {ops : Array Oper} {j t : Nat} {b : Bool} {s : AS} (h : boolAt ops s j = some (t, b)) : s.get t 0 = some (.av (.one (.cel (.bool b)))) := by
  unfold boolAt at h
  split at h
  · split at h
    · split at h
      · rename_i b' hg
        cases h
        exact hg
      · cases h
    · cases h
  · cases h
theorem get_append (W s : AS) (n k : Nat) : (W ++ s).get n k = match W.get n k with | some r => some r | none => s.get n k := by
  induction W with
  | nil => rfl
  | cons x W ih =>
    obtain ⟨n', k', r⟩ := x
    rw [List.cons_append]
    by_cases hnk : n' = n ∧ k' = k
    · obtain ⟨rfl, rfl⟩ := hnk
      rw [AS.get_cons_self, AS.get_cons_self]
    · rw [AS.get_cons_ne _ _ hnk, AS.get_cons_ne _ _ hnk, ih]
/-- get by get the same -/
def Eqv (s s' : AS) : Prop := ∀ n k, s.get n k = s'.get n k
theorem Eqv.append {s s' : AS} (h : Eqv s s') (W : AS) : Eqv (W ++ s) (W ++ s') := fun n k => by rw [get_append, get_append, h n k]
theorem stepD_inv (hE : EnvOk P E) {ops : Array Oper} {o : Oper} {KA : AS → Tr → Prop} (h : stepD E ops o s KA) :
    ∃ s' t, KA s' t ∧ Does P E X0 w0 ops o s t ∧ Eqv s' (t.wr ++ s) ∧ (∀ x ∈ s, x ∈ s') ∧ (∀ d, t.al = some d → s.fresh d = true) := by
  have hfr : ∀ {s : AS} {o : Oper}, (actOf E o s).1 → ∀ d, alOf E o = some d → s.fresh d = true := by
    intro s o hp d hd
    unfold actOf at hp
    dsimp only at hp
    cases ho : o.op
    case call c =>
      obtain ⟨callee, args, ts⟩ := c
      cases callee with
      | builtin b =>
        cases b
        case append =>
          simp only [alOf, ho] at hd
          rw [ho, hd] at hp
          simp only [effOf] at hp
          unfold appAV at hp
          split at hp
          · split at hp
            · split at hp
              · exact hp.2.1
              · exact hp.elim
            · exact hp.2.1
            · exact hp.elim
          · exact hp.elim
        all_goals simp [alOf, ho] at hd
      | _ => simp [alOf, ho] at hd
    case buildSlice t n ps =>
      cases n with
      | zero =>
        have hd : o.dst = some d := by
          simp only [alOf, ho] at hd
          cases hod : o.dst with
          | none => rw [hod] at hd; cases hd
          | some d' => rw [hod] at hd; exact hd
        rw [ho, hd] at hp
        have hp : ps = #[] ∧ (emptyAV E t d s.fresh).1 := hp
        have hp := hp.2
        unfold emptyAV at hp
        split at hp
        · split at hp
          · exact hp.2.1
          · exact hp.elim
        · exact hp.elim
      | succ n =>
        simp only [alOf, ho] at hd
        cases hod : o.dst with
        | none => rw [hod] at hd; cases hd
        | some d' =>
          rw [hod] at hd
          cases hob : ownB E d' with
          | false => simp [hob] at hd
          | true =>
            have hdd : d' = d := by simpa [hob] using hd
            subst hdd
            rw [ho, hod] at hp
            have e : ∀ (ins : List AV) (fs : List (Option RV)), effOf E (.buildSlice t (n + 1) ps) (some d') s.fresh ins fs = buildEff E t d' (n + 1) s.fresh ps ins false true := fun ins fs => by
              show buildEff E t d' (n + 1) s.fresh ps ins (n + 1 == 0) (ownB E d') = _
              rw [hob]; rfl
            rw [e] at hp
            have hp : (builtAV E t d' (n + 1) s.fresh (ps.toList.map (·.1)) _).1 := hp
            unfold builtAV at hp
            split at hp
            · split at hp
              · split at hp
                · exact hp.elim
                · split at hp
                  · exact hp.2.1
                  · exact hp.elim
              · exact hp.elim
            · exact hp.elim
    case makeSlice t l c =>
      simp only [alOf, ho] at hd
      rw [ho, hd] at hp
      simp only [effOf] at hp
      unfold makeAV at hp
      split at hp
      · split at hp
        · split at hp
          · exact hp.2.1
          · exact hp.elim
        · exact hp.elim
      · exact hp.elim
    all_goals simp [alOf, ho] at hd <;> simp only [ho, hd, effOf] at hp
    · split at hp
      · exact hp.2
      · exact hp.elim
    · split at hp
      · exact hp.2.1
      · exact hp.elim
  unfold stepD at h
  split at h
  · rename_i hg
    refine ⟨_, _, h.2, ?_, fun _ _ => rfl, fun x hx => List.mem_append_right _ hx, fun d hd => hfr h.1 d hd⟩
    intro s' hr hf
    obtain ⟨h1, h2⟩ := act_congr hr (fun d hd _ => hf d hd) h.1
    have := goes_act (X0 := X0) (w0 := w0) hE (ops := ops) hg h1
    rw [h2] at this
    exact this
  · rename_i j want hg
    split at h
    · rename_i t b hb
      have hget := boolAt_get hb
      by_cases hbw : b = want
      · subst hbw
        have hh := h.1 rfl
        rw [AS.setv_eq hget] at hh
        refine ⟨_, _, hh.2, ?_, fun _ _ => rfl, fun x hx => List.mem_append_right _ hx, fun d hd => hfr hh.1 d hd⟩
        intro s' hr hf
        have hr2 : ∀ k ∈ rdOf E o s, s'.get k.1 k.2 = s.get k.1 k.2 := fun k hk => hr k (List.mem_cons_of_mem _ hk)
        obtain ⟨h1, h2⟩ := act_congr hr2 (fun d hd _ => hf d hd) hh.1
        have hb' := boolAt_congr hb (hr (t, 0) (List.mem_cons_self ..))
        have := goes_yes (X0 := X0) (w0 := w0) hE (ops := ops) hg hb' h1
        rw [h2] at this
        exact this
      · have hbn : b = !want := by cases b <;> cases want <;> simp_all
        subst hbn
        obtain ⟨hd, hK⟩ := h.2 rfl
        rw [AS.setv_eq hget] at hK
        refine ⟨_, _, hK, ?_, fun _ _ => rfl, fun x hx => List.mem_append_right _ hx, fun d hd => by cases hd⟩
        intro s' hr _
        have hb' := boolAt_congr hb (hr (t, 0) (List.mem_cons_self ..))
        exact goes_no hg hb' hd
    · obtain ⟨hu, hd, hK⟩ := h
      refine ⟨_, _, hK, ?_, fun _ _ => rfl, fun x hx => List.mem_append_right _ hx, fun d hd => by cases hd⟩
      intro s' hr _
      exact goes_und hg (undAt_congr hu hr) hd
/-- the operations' layings, those of D alone, in the text's order -/
def laid (D : Nat → Bool) : Nat → List Tr → AS → AS
  | _, [], s => s
  | i, t :: tr, s => laid D (i + 1) tr (if D i = true then t.wr ++ s else s)
theorem laid_eqv (D : Nat → Bool) : ∀ (tr : List Tr) (i : Nat) {s s' : AS}, Eqv s s' → Eqv (laid D i tr s) (laid D i tr s')
  | [], _, _, _, h => h
  | t :: tr, i, s, s', h => by
    simp only [laid]
    refine laid_eqv D tr (i + 1) ?_
    split
    · exact h.append _
    · exact h
theorem laid_congr {D D' : Nat → Bool} : ∀ (tr : List Tr) (i : Nat) (s : AS), (∀ j, j < tr.length → D (i + j) = D' (i + j)) → laid D i tr s = laid D' i tr s
  | [], _, _, _ => rfl
  | t :: tr, i, s, h => by
    simp only [laid]
    have h0 := h 0 (by simp)
    rw [Nat.add_zero] at h0
    rw [h0]
    exact laid_congr tr (i + 1) _ fun j hj => by have := h (j + 1) (by simp; omega); rwa [show i + (j + 1) = i + 1 + j by omega] at this
theorem laid_none {D : Nat → Bool} : ∀ (tr : List Tr) (i : Nat) (s : AS), (∀ j, i ≤ j → D j = false) → laid D i tr s = s
  | [], _, _, _ => rfl
  | t :: tr, i, s, h => by
    simp only [laid]
    rw [if_neg (by rw [h i (Nat.le_refl _)]; simp)]
    exact laid_none tr (i + 1) s fun j hj => h j (by omega)
def keysOf (s : AS) : List (Nat × Nat) := s.map fun r => (r.1, r.2.1)
theorem laid_get {D D' : Nat → Bool} {n k : Nat} : ∀ (tr : List Tr) (i : Nat) {s s' : AS}, s.get n k = s'.get n k → (∀ j u, tr[j]? = some u → (n, k) ∈ keysOf u.wr → D (i + j) = D' (i + j)) →
    (laid D i tr s).get n k = (laid D' i tr s').get n k
  | [], _, _, _, h, _ => h
  | t :: tr, i, s, s', h, hd => by
    simp only [laid]
    refine laid_get tr (i + 1) ?_ fun j u hu hk => by have := hd (j + 1) u (by simpa using hu) hk; rwa [show i + (j + 1) = i + 1 + j by omega] at this
    by_cases hk : (n, k) ∈ keysOf t.wr
    · have := hd 0 t rfl hk
      rw [Nat.add_zero] at this
      rw [this]
      split
      · rw [get_append, get_append, h]
      · exact h
    · have hg : t.wr.get n k = none := by
        cases hg : t.wr.get n k with
        | none => rfl
        | some r => exact absurd (List.mem_map.2 ⟨_, AS.get_mem hg, rfl⟩) hk
      have e : ∀ x : AS, (t.wr ++ x).get n k = x.get n k := fun x => by rw [get_append, hg]
      split <;> split <;> simp only [e, h]
theorem laid_mem {D : Nat → Bool} {x : Nat × Nat × RV} : ∀ (tr : List Tr) (i : Nat) (s : AS), x ∈ laid D i tr s → x ∈ s ∨ ∃ j u, tr[j]? = some u ∧ D (i + j) = true ∧ x ∈ u.wr
  | [], _, _, h => .inl h
  | t :: tr, i, s, h => by
    simp only [laid] at h
    rcases laid_mem tr (i + 1) _ h with h | ⟨j, u, hu, hd, hx⟩
    · split at h
      · rename_i hd
        rcases List.mem_append.1 h with h | h
        · exact .inr ⟨0, t, rfl, by simpa using hd, h⟩
        · exact .inl h
      · exact .inl h
    · exact .inr ⟨j + 1, u, by simpa using hu, by rw [show i + (j + 1) = i + 1 + j by omega]; exact hd, hx⟩
theorem laid_last {D : Nat → Bool} {n k : Nat} {t : Tr} {r : RV} (hr : t.wr.get n k = some r) : ∀ (tr : List Tr) (i p : Nat) (s : AS), tr[p]? = some t → D (i + p) = true → (∀ q u, p < q → tr[q]? = some u → D (i + q) = true → (n, k) ∉ keysOf u.wr) →
    (laid D i tr s).get n k = some r
  | [], _, _, _, h, _, _ => by simp at h
  | u :: tr, i, 0, s, h, hd, hn => by
    simp only [List.getElem?_cons_zero, Option.some.injEq] at h
    subst h
    simp only [laid]
    rw [if_pos (by simpa using hd)]
    rw [laid_get (D' := fun _ => false) tr (i + 1) (s' := u.wr ++ s) rfl, laid_none tr (i + 1) _ (fun _ _ => rfl), get_append, hr]
    intro j v hv hk
    cases hD : D (i + 1 + j) with
    | false => rfl
    | true => exact absurd hk (hn (j + 1) v (by omega) (by simpa using hv) (by rw [show i + (j + 1) = i + 1 + j by omega]; exact hD))
  | u :: tr, i, p + 1, s, h, hd, hn => by
    simp only [laid]
    exact laid_last hr tr (i + 1) p _ (by simpa using h) (by rw [show i + 1 + p = i + (p + 1) by omega]; exact hd) fun q v hq hv hD => hn (q + 1) v (by omega) (by simpa using hv) (by rw [show i + (q + 1) = i + 1 + q by omega]; exact hD)
theorem Does.eqv {ops : Array Oper} {o : Oper} {s s' : AS} {t : Tr} (h : Does P E X0 w0 ops o s t) (he : Eqv s s') : Does P E X0 w0 ops o s' t :=
  fun s'' h1 h2 => h s'' (fun k hk => (h1 k hk).trans (he _ _).symm) h2
theorem awpD_inv (hE : EnvOk P E) {ops : Array Oper} {KA : AS → List Tr → Prop} : ∀ (l : List Oper) (s s0 : AS) (tr0 : List Tr), awpD E ops l s tr0 KA → (∀ x ∈ s0, x ∈ s) →
    ∃ s' tr, KA s' (tr0.reverse ++ tr) ∧ tr.length = l.length ∧ (∀ i0 i o t, l[i]? = some o → tr[i]? = some t → Does P E X0 w0 ops o (laid (fun j => decide (j < i0 + i)) i0 tr s) t) ∧ Eqv s' (laid (fun _ => true) 0 tr s) ∧ (∀ t ∈ tr, ∀ d, t.al = some d → s0.fresh d = true)
  | [], s, s0, tr0, h, _ => ⟨s, [], by simpa [awpD] using h, rfl, by simp, fun _ _ => rfl, by simp⟩
  | o :: l, s, s0, tr0, h, hm => by
    simp only [awpD] at h
    obtain ⟨s1, t, h1, h2, h3, h4, h5⟩ := stepD_inv (X0 := X0) (w0 := w0) hE h
    obtain ⟨s', tr, k1, kl, k2, k3, k4⟩ := awpD_inv hE l s1 s0 (t :: tr0) h1 (fun x hx => h4 x (hm x hx))
    refine ⟨s', t :: tr, by simpa using k1, by simp [kl], ?_, ?_, ?_⟩
    · intro i0 i o' t' ho ht
      cases i with
      | zero =>
        simp only [List.getElem?_cons_zero, Option.some.injEq] at ho ht
        subst ho ht
        rw [laid_none _ _ _ (fun j hj => by simp; omega)]
        exact h2
      | succ i =>
        simp only [laid]
        rw [if_pos (by simp)]
        have := k2 (i0 + 1) i o' t' (by simpa using ho) (by simpa using ht)
        rw [show i0 + 1 + i = i0 + (i + 1) by omega] at this
        exact this.eqv (laid_eqv _ _ _ h3)
    · simp only [laid, if_true]
      intro n k
      rw [k3 n k, laid_eqv _ tr 0 h3 n k, laid_congr (D' := fun _ => true) tr 0 _ (fun _ _ => rfl)]
      exact laid_get tr 0 rfl (fun _ _ _ _ => rfl) |>.trans (by
        have : ∀ (tr : List Tr) (i j : Nat) (x : AS), laid (fun _ => true) i tr x = laid (fun _ => true) j tr x := by
          intro tr
          induction tr with
          | nil => intro i j x; rfl
          | cons u tr ih => intro i j x; simp only [laid]; exact ih _ _ _
        rw [this tr 0 (0 + 1)])
    · intro u hu d hd
      rcases List.mem_cons.1 hu with rfl | hu
      · have := h5 d hd
        exact List.all_eq_true.2 fun x hx => List.all_eq_true.1 this x (hm x hx)
      · exact k4 u hu d hd
end
end Go.Proofs.YtocpmekblkfdiaaGreatDoor
namespace Go.Proofs.YtocpmekblkfdiaaGreatDoor
open Go.RowKit
section
variable {P : Program} {E : Env} {X0 : Nat → Nat → Prop} {w0 : World} {s : AS} {a : Act} {w : World} {g : Gh} {who : Nat → Option (Nat × Bool)}
/-- what is listed is listed with all that it waits for -/
def Closed (ops : Array Oper) (listed : Array Bool) : Prop :=
  ∀ j o, ops[j]? = some o → listed.getD j false = true → ∀ e ∈ o.after.toList, Region.binds .any e = true → listed.getD e.on false = true
theorem edgeIn_spec {i : Nat} : ∀ {l : List Edge}, edgeIn i l = true → ∃ e ∈ l, Region.binds .any e = true ∧ e.on = i
  | e :: l, h => by
    simp only [edgeIn, Bool.or_eq_true, Bool.and_eq_true] at h
    rcases h with ⟨h1, h2⟩ | h
    · exact ⟨e, by simp, h1, Nat.eq_of_beq_eq_true h2⟩
    · obtain ⟨e', he, hh⟩ := edgeIn_spec h
      exact ⟨e', by simp [he], hh⟩
theorem path_listed {ops : Array Oper} {listed : Array Bool} (hc : Closed ops listed) : ∀ (f i j : Nat) (o : Oper), ops[j]? = some o → (∀ e ∈ o.after.toList, Region.binds .any e = true → listed.getD e.on false = true) →
    pathB ops.toList f i j = true → listed.getD i false = true
  | 0, _, _, _, _, _, h => by simp [pathB] at h
  | f + 1, i, j, o, ho, ha, h => by
    simp only [pathB, Array.getElem?_toList, ho, Bool.or_eq_true, List.any_eq_true, Bool.and_eq_true] at h
    rcases h with h | ⟨e, he, hb, h⟩
    · obtain ⟨e, he, hb, rfl⟩ := edgeIn_spec h
      exact ha e he hb
    · have hl := ha e he hb
      cases ho' : ops[e.on]? with
      | none =>
        cases f with
        | zero => simp [pathB] at h
        | succ f => simp [pathB, ho'] at h
      | some o' => exact path_listed hc f i e.on o' ho' (hc e.on o' ho' hl) h
theorem okEdges_get : ∀ (l : List Oper) (k j : Nat) (o : Oper), okEdges k l = true → l[j]? = some o → ∀ e ∈ o.after.toList, Region.binds .any e = true → e.on < k + j
  | [], _, _, _, _, ho => by simp at ho
  | o' :: l, k, j, o, h, ho => by
    intro e he hb
    simp only [okEdges, Bool.and_eq_true, List.all_eq_true, Bool.or_eq_true, Bool.not_eq_true'] at h
    cases j with
    | zero =>
      simp only [List.getElem?_cons_zero, Option.some.injEq] at ho
      subst ho
      have := (h.1 e he).resolve_left (by rw [hb]; simp)
      simp only [Nat.blt_eq] at this
      omega
    | succ j =>
      have := okEdges_get l (k + 1) j o h.2 (by simpa using ho) e he hb
      omega
theorem keyEq_iff {a b : Nat × Nat} : keyEq a b = true ↔ a = b := by
  obtain ⟨a1, a2⟩ := a
  obtain ⟨b1, b2⟩ := b
  simp [keyEq]
theorem keyIn_iff {k : Nat × Nat} : ∀ {s : AS}, keyIn k s = true ↔ k ∈ keysOf s
  | [] => by simp [keyIn, keysOf]
  | (n, j, r) :: s => by
    have ih := keyIn_iff (k := k) (s := s)
    simp only [keyIn, Bool.or_eq_true, keyEq_iff, ih, keysOf, List.map_cons, List.mem_cons]
theorem rdIn_false {s : AS} : ∀ {l : List (Nat × Nat)}, rdIn s l = false → ∀ k ∈ l, k ∉ keysOf s
  | x :: l, h, k, hk => by
    simp only [rdIn, Bool.or_eq_false_iff] at h
    rcases List.mem_cons.1 hk with rfl | hk
    · intro hm; rw [keyIn_iff.2 hm] at h; cases h.1
    · exact rdIn_false h.2 k hk
theorem wrIn_false {s : AS} : ∀ {l : AS}, wrIn s l = false → ∀ k ∈ keysOf l, k ∉ keysOf s
  | (n, j, r) :: l, h, k, hk => by
    simp only [wrIn, Bool.or_eq_false_iff] at h
    rcases List.mem_cons.1 hk with hk | hk
    · subst hk; intro hm; rw [keyIn_iff.2 hm] at h; cases h.1
    · exact wrIn_false h.2 k hk
theorem okOne_get {ops : List Oper} {i : Nat} {ti : Tr} : ∀ (l : List Tr) (k j : Nat) (tj : Tr), okOne ops i ti k l = true → l[j]? = some tj → okPair ops i (k + j) ti tj = true
  | [], _, _, _, _, hj => by simp at hj
  | t :: l, k, j, tj, h, hj => by
    simp only [okOne, Bool.and_eq_true] at h
    cases j with
    | zero => simp only [List.getElem?_cons_zero, Option.some.injEq] at hj; subst hj; exact h.1
    | succ j => rw [show k + (j + 1) = k + 1 + j by omega]; exact okOne_get l (k + 1) j tj h.2 (by simpa using hj)
theorem okAll_get {ops : List Oper} : ∀ (l : List Tr) (k i j : Nat) (ti tj : Tr), okAll ops k l = true → i < j → l[i]? = some ti → l[j]? = some tj → okPair ops (k + i) (k + j) ti tj = true
  | [], _, _, _, _, _, _, _, hi, _ => by simp at hi
  | t :: l, k, i, j, ti, tj, h, hij, hi, hj => by
    simp only [okAll, Bool.and_eq_true] at h
    obtain ⟨j, rfl⟩ : ∃ j', j = j' + 1 := ⟨j - 1, by omega⟩
    have hj' : l[j]? = some tj := by simpa using hj
    cases i with
    | zero =>
      simp only [List.getElem?_cons_zero, Option.some.injEq] at hi
      subst hi
      have := okOne_get l (k + 1) j tj h.1 hj'
      rwa [show k + 1 + j = k + (j + 1) by omega] at this
    | succ i =>
      have := okAll_get l (k + 1) i j ti tj h.2 (by omega) (by simpa using hi) hj'
      rwa [show k + 1 + i = k + (i + 1) by omega, show k + 1 + j = k + (j + 1) by omega] at this
theorem ready_mem {ops : Array Oper} {listed : Array Bool} {i : Nat} : i ∈ Region.ready .any ops listed ↔ ∃ o, ops[i]? = some o ∧ listed.getD i true = false ∧ ∀ e ∈ o.after.toList, Region.binds .any e = true → listed.getD e.on false = true := by
  unfold Region.ready
  rw [List.mem_filter, List.mem_range]
  constructor
  · rintro ⟨h1, h2⟩
    simp only [Bool.and_eq_true, Bool.not_eq_true', Array.getElem?_eq_getElem h1, Option.map_some, Option.getD_some, Array.all_eq_true', Bool.or_eq_true] at h2
    refine ⟨_, Array.getElem?_eq_getElem h1, h2.1, fun e he hb => ?_⟩
    rcases h2.2 e (by simpa using he) with h | h
    · rw [hb] at h; cases h
    · exact h
  · rintro ⟨o, ho, h1, h2⟩
    have hlt := (Array.getElem?_eq_some_iff.1 ho).1
    refine ⟨hlt, ?_⟩
    simp only [Bool.and_eq_true, Bool.not_eq_true', ho, Option.map_some, Option.getD_some, Array.all_eq_true', Bool.or_eq_true]
    refine ⟨h1, fun e he => ?_⟩
    cases hb : Region.binds .any e with
    | false => exact .inl rfl
    | true => exact .inr (h2 e (by simpa using he) hb)
theorem getD_lt_bool {l : Array Bool} {i : Nat} {d d' : Bool} (h : i < l.size) : l.getD i d = l.getD i d' := by
  simp [Array.getD_eq_getD_getElem?, Array.getElem?_eq_getElem h]
theorem all_listed {ops : Array Oper} {listed : Array Bool} (hok : okEdges 0 ops.toList = true) (hs : listed.size = ops.size) (hr : Region.ready .any ops listed = []) : ∀ i, i < ops.size → listed.getD i false = true := by
  intro i
  induction i using Nat.strongRecOn with
  | _ i ih =>
    intro hi
    cases hl : listed.getD i false with
    | true => rfl
    | false =>
      exfalso
      have hm : i ∈ Region.ready .any ops listed := ready_mem.2 ⟨_, Array.getElem?_eq_getElem hi, by rw [getD_lt_bool (d' := false) (by omega)]; exact hl, fun e he hb => by
        have hlt := okEdges_get ops.toList 0 i _ hok (by rw [Array.getElem?_toList]; exact Array.getElem?_eq_getElem hi) e he hb
        exact ih e.on (by omega) (by omega)⟩
      rw [hr] at hm
      cases hm
theorem count_set {l : List Bool} {i : Nat} (h : l[i]? = some false) : (l.set i true).count false + 1 = l.count false := by
  induction l generalizing i with
  | nil => simp at h
  | cons b l ih =>
    cases i with
    | zero => simp at h; subst h; simp
    | succ i =>
      have := ih (i := i) (by simpa using h)
      simp only [List.set_cons_succ, List.count_cons]
      omega
theorem okPair_spec {ops : List Oper} {i j : Nat} {ti tj : Tr} (h : okPair ops i j ti tj = true) :
    (pathB ops ops.length i j = true ∨ ((∀ k ∈ keysOf ti.wr, k ∉ tj.rd ∧ k ∉ keysOf tj.wr) ∧ (∀ k ∈ ti.rd, k ∉ keysOf tj.wr) ∧ (∀ d, ti.al = some d → mentions tj.wr d = false))) ∧ (∀ d, tj.al = some d → mentions ti.wr d = false) := by
  unfold okPair at h
  simp only [Bool.and_eq_true, Bool.or_eq_true, Bool.not_eq_true', Bool.or_eq_false_iff] at h
  refine ⟨?_, ?_⟩
  · rcases h.1 with ⟨⟨⟨h1, h2⟩, h3⟩, h4⟩ | h1
    · refine .inr ⟨fun k hk => ⟨fun hm => rdIn_false h1 k hm hk, fun hm => wrIn_false h2 k hm hk⟩, fun k hk => rdIn_false h3 k hk, fun d hd => ?_⟩
      rw [hd] at h4
      exact h4
    · exact .inl h1
  · intro d hd
    have := h.2
    rw [hd] at this
    exact this
theorem fresh_laid {D : Nat → Bool} {tr : List Tr} {d : Nat} (h0 : s.fresh d = true) (h : ∀ j u, tr[j]? = some u → D j = true → mentions u.wr d = false) : (laid D 0 tr s).fresh d = true := by
  refine List.all_eq_true.2 fun x hx => ?_
  rcases laid_mem tr 0 s hx with hx | ⟨j, u, hu, hd, hx⟩
  · exact List.all_eq_true.1 h0 x hx
  · have := h j u hu (by simpa using hd)
    simp only [mentions, List.any_eq_false, Bool.or_eq_true, Bool.and_eq_true, not_or, not_and, Bool.not_eq_true, bne_eq_false_iff_eq, beq_iff_eq] at this
    have := this x hx
    simp only [Bool.and_eq_true, Bool.not_eq_true', Bool.or_eq_true, bne_iff_ne, beq_iff_eq]
    refine ⟨this.1, ?_⟩
    by_cases hn : x.1 = d
    · exact .inr (this.2 hn)
    · exact .inl hn
theorem draw_main {ops : Array Oper} {tr : List Tr} {Q : Exit → Act → World → Prop} (hok : okOrder ops.toList tr = true) (hlen : tr.length = ops.size)
    (hD : ∀ i o t, ops[i]? = some o → tr[i]? = some t → Does P E X0 w0 ops o (laid (fun j => decide (j < i)) 0 tr s) t)
    (hfr : ∀ t ∈ tr, ∀ d, t.al = some d → s.fresh d = true)
    (hk : ∀ a' w' g' who', Gam E.N X0 w0 (laid (fun _ => true) 0 tr s) a' w' g' who' → Q .normal a' w') :
    ∀ (fuel : Nat) (listed : Array Bool) (a : Act) (w : World) (g : Gh) (who : Nat → Option (Nat × Bool)), listed.size = ops.size → Closed ops listed → listed.toList.count false ≤ fuel →
      Gam E.N X0 w0 (laid (fun j => listed.getD j false) 0 tr s) a w g who → wpAny P .any ops Q fuel listed a w := by
  have hok' := hok
  unfold okOrder at hok'
  simp only [Bool.and_eq_true] at hok'
  obtain ⟨hcl, hpairs⟩ := hok'
  have hpair : ∀ i j ti tj, i < j → tr[i]? = some ti → tr[j]? = some tj → okPair ops.toList i j ti tj = true := by
    intro i j ti tj hij hi hj
    have := okAll_get tr 0 i j ti tj hpairs hij hi hj
    simpa using this
  have hend : ∀ (listed : Array Bool) (a : Act) (w : World) (g : Gh) (who : Nat → Option (Nat × Bool)), listed.size = ops.size → Region.ready .any ops listed = [] →
      Gam E.N X0 w0 (laid (fun j => listed.getD j false) 0 tr s) a w g who → Q .normal a w := by
    intro listed a w g who hs hr H
    refine hk a w g who ?_
    rwa [laid_congr (D' := fun _ => true) tr 0 s (fun j hj => by simpa using all_listed hcl hs hr j (by omega))] at H
  intro fuel
  induction fuel with
  | zero =>
    intro listed a w g who hs hc hcount H
    have hr : Region.ready .any ops listed = [] := by
      rw [List.eq_nil_iff_forall_not_mem]
      intro i hi
      obtain ⟨o, ho, h1, _⟩ := ready_mem.1 hi
      have hlt : i < listed.size := by rw [hs]; exact (Array.getElem?_eq_some_iff.1 ho).1
      have : false ∈ listed.toList := by
        rw [Array.getD_eq_getD_getElem?, Array.getElem?_eq_getElem hlt] at h1
        simp only [Option.getD_some] at h1
        rw [← h1]; simp
      have := List.count_pos_iff.2 this
      omega
    exact ⟨hr, hend listed a w g who hs hr H⟩
  | succ fuel ih =>
    intro listed a w g who hs hc hcount H
    refine ⟨fun hr => hend listed a w g who hs hr H, fun i hi => ?_⟩
    obtain ⟨o, ho, hnl, hafter⟩ := ready_mem.1 hi
    have hlt : i < ops.size := (Array.getElem?_eq_some_iff.1 ho).1
    have hnl' : listed.getD i false = false := by rw [getD_lt_bool (d' := true) (by omega)]; exact hnl
    obtain ⟨t, ht⟩ : ∃ t, tr[i]? = some t := ⟨_, List.getElem?_eq_getElem (by omega)⟩
    have hpre : ∀ j, pathB ops.toList ops.toList.length j i = true → listed.getD j false = true := fun j hj => path_listed hc _ j i o ho hafter hj
    have hpost : ∀ j, listed.getD j false = true → ¬ pathB ops.toList ops.toList.length i j = true := by
      intro j hj hm
      have hjlt : j < ops.size := by
        rcases Nat.lt_or_ge j ops.size with h | h
        · exact h
        · rw [Array.getD_eq_getD_getElem?, Array.getElem?_eq_none (by omega)] at hj; cases hj
      have := path_listed hc _ i j _ (Array.getElem?_eq_getElem hjlt) (hc j _ (Array.getElem?_eq_getElem hjlt) hj) hm
      rw [this] at hnl'; cases hnl'
    have hne : ∀ j, listed.getD j false = true → j ≠ i := by rintro j hj rfl; rw [hj] at hnl'; cases hnl'
    have hdoes := hD i o t ho ht
    have hgo : Goes P E X0 w0 ops o (laid (fun j => listed.getD j false) 0 tr s) t.wr := by
      refine hdoes _ ?_ ?_
      · rintro ⟨n, k⟩ hk
        refine laid_get tr 0 rfl fun j u hu hkey => ?_
        simp only [Nat.zero_add]
        rcases Nat.lt_trichotomy j i with h | h | h
        · have := (okPair_spec (hpair j i u t h hu ht)).1
          rcases this with h1 | h1
          · rw [hpre j h1]; simp [h]
          · exact absurd hk (h1.1 _ hkey).1
        · subst h; rw [hnl']; simp
        · have := (okPair_spec (hpair i j t u h ht hu)).1
          rcases this with h1 | h1
          · have : listed.getD j false = false := by
              cases hl : listed.getD j false with
              | false => rfl
              | true => exact absurd h1 (hpost j hl)
            rw [this]; simp; omega
          · exact absurd hkey (h1.2.1 _ hk)
      · intro d hd
        refine fresh_laid (hfr t (List.mem_of_getElem? ht) d hd) fun j u hu hj => ?_
        rcases Nat.lt_trichotomy j i with h | h | h
        · exact (okPair_spec (hpair j i u t h hu ht)).2 d hd
        · exact absurd h (hne j hj)
        · rcases (okPair_spec (hpair i j t u h ht hu)).1 with h1 | h1
          · exact absurd h1 (hpost j hj)
          · exact h1.2.2 d hd
    have hsi : (listed.setIfInBounds i true).size = ops.size := by simp [hs]
    have hgi : ∀ j, (listed.setIfInBounds i true).getD j false = if j = i then true else listed.getD j false := by
      intro j
      simp only [Array.getD_eq_getD_getElem?, Array.getElem?_setIfInBounds]
      by_cases h : i = j
      · subst h; simp [show i < listed.size by omega]
      · rw [if_neg h, if_neg (fun e => h e.symm)]
    have hstep := hgo a w g who H Q (wpAny P .any ops Q fuel (listed.setIfInBounds i true)) (fun a' w' g' who' H' => ?_)
    · unfold wpOp
      rw [ho]
      simp only
      split
      · rename_i hw; rw [if_pos hw] at hstep; exact .inl hstep
      · rename_i hw; rw [if_neg hw] at hstep; exact hstep
    · refine ih (listed.setIfInBounds i true) a' w' g' who' hsi ?_ ?_ (H'.same ?_)
      · intro j o' ho' hj e he hb
        rw [hgi] at hj ⊢
        split
        · rfl
        · split at hj
          · rename_i hji; subst hji; rw [ho] at ho'; cases ho'; exact hafter e he hb
          · exact hc j o' ho' hj e he hb
      · have hl : listed.toList[i]? = some false := by
          rw [Array.getD_eq_getD_getElem?, Array.getElem?_eq_getElem (by omega)] at hnl'
          simp only [Option.getD_some] at hnl'
          rw [Array.getElem?_toList, Array.getElem?_eq_getElem (by omega), hnl']
        have := count_set hl
        simp only [Array.toList_setIfInBounds]
        omega
      · intro n k r hr
        rw [get_append]
        cases hw : t.wr.get n k with
        | some r' =>
          have hkey : (n, k) ∈ keysOf t.wr := List.mem_map.2 ⟨_, AS.get_mem hw, rfl⟩
          rw [laid_last hw tr 0 i s ht (by simp [hgi]) ?_] at hr
          · exact hr
          · intro q u hq hu hqD hkq
            simp only [Nat.zero_add, hgi] at hqD
            rw [if_neg (by omega)] at hqD
            rcases (okPair_spec (hpair i q t u hq ht hu)).1 with h1 | h1
            · exact hpost q hqD h1
            · exact (h1.1 _ hkey).2 hkq
        | none =>
          simp only
          rw [← hr]
          refine laid_get tr 0 rfl fun j u hu hkey => ?_
          simp only [Nat.zero_add, hgi]
          split
          · rename_i hji
            subst hji
            rw [ht] at hu
            cases hu
            exfalso
            obtain ⟨⟨n', k', r'⟩, hx, he⟩ := List.mem_map.1 hkey
            cases he
            have : ∀ (W : AS), (n', k', r') ∈ W → W.get n' k' ≠ none := by
              intro W
              induction W with
              | nil => intro h; cases h
              | cons y W ihW =>
                obtain ⟨y1, y2, y3⟩ := y
                intro h
                by_cases hnk : y1 = n' ∧ y2 = k'
                · obtain ⟨rfl, rfl⟩ := hnk; rw [AS.get_cons_self]; simp
                · rw [AS.get_cons_ne _ _ hnk]
                  rcases List.mem_cons.1 h with h | h
                  · cases h; exact absurd ⟨rfl, rfl⟩ hnk
                  · exact ihW h
            exact this _ hx hw
          · rfl
theorem awpDraw_sound (hE : EnvOk P E) (hm : P.follows .mixedOrders = true) {ops : Array Oper} {KA : AS → Prop} {Q : Exit → Act → World → Prop} {id : Nat} (H : Gam E.N X0 w0 s a w g who) (h : awpDraw E ops s KA)
    (hk : ∀ s' a' w' g' who', KA s' → Gam E.N X0 w0 s' a' w' g' who' → Q .normal a' w') : (Code.region id ops true).wp P Q a w := by
  obtain ⟨s', tr, ⟨k1, k2⟩, kl, kd, ke, kf⟩ := awpD_inv (X0 := X0) (w0 := w0) hE ops.toList s s [] h (fun _ hx => hx)
  simp only [List.reverse_nil, List.nil_append] at k1 k2
  refine wp_region_any hm ?_
  have hb : Below w.heap.size w { w with drawn := w.drawn + 1 } := (Below.refl _ w).drew
  refine draw_main (s := s) (X0 := X0) (w0 := w0) (E := E) k1 (by simpa using kl) (fun i o t ho ht => ?_) kf (fun a' w' g' who' H' => hk s' a' w' g' who' k2 (H'.same fun n k r hr => by rw [← ke n k]; exact hr)) ops.size _ a _ g who (by simp) ?_ ?_ ?_
  · have := kd 0 i o t (by simpa using ho) ht
    simpa only [Nat.zero_add] using this
  · intro j o _ hj
    exfalso
    rw [Array.getD_eq_getD_getElem?, Array.getElem?_replicate] at hj
    split at hj <;> cases hj
  · simp
  · rw [laid_congr (D' := fun _ => false) tr 0 s (fun j hj => by rw [Array.getD_eq_getD_getElem?, Array.getElem?_replicate]; split <;> rfl), laid_none _ _ _ (fun _ _ => rfl)]
    exact H.grow hb
end
end Go.Proofs.YtocpmekblkfdiaaGreatDoor
namespace Go.Proofs.YtocpmekblkfdiaaGreatDoor
open Go.RowKit
def AS.has (n k : Nat) : AS → Bool
  | [] => false
  | (n', k', _) :: s => (n' == n && k' == k) || AS.has n k s
def subC (p : RV → Bool) (f : RV → RV) (n k : Nat) (r : RV) (s : AS) : AS :=
  bif p r then (n, k, f r) :: s else bif AS.has n k s then (n, k, r) :: s else s
/-- what p picks is laid anew by f -/
def AS.sub (p : RV → Bool) (f : RV → RV) : AS → AS
  | [] => []
  | (n, k, r) :: s => subC p f n k r (AS.sub p f s)
theorem has_get : ∀ {s : AS} {n k : Nat}, s.has n k = false → s.get n k = none
  | [], _, _, _ => rfl
  | (n', k', r) :: s, n, k, h => by
    simp only [AS.has, Bool.or_eq_false_iff] at h
    rw [AS.get, if_neg (by rw [h.1]; simp)]
    exact has_get h.2
theorem sub_spec (p : RV → Bool) (f : RV → RV) : ∀ (s : AS) (n k : Nat), ((AS.sub p f s).get n k = none ∧ ∀ r, s.get n k = some r → p r = false) ∨ ∃ r, s.get n k = some r ∧ (AS.sub p f s).get n k = some (bif p r then f r else r)
  | [], n, k => .inl ⟨rfl, fun r h => by cases h⟩
  | (n', k', r) :: s, n, k => by
    have ih := sub_spec p f s n k
    simp only [AS.sub, subC]
    by_cases hnk : n' = n ∧ k' = k
    · obtain ⟨rfl, rfl⟩ := hnk
      rw [AS.get_cons_self]
      cases hp : p r with
      | true => exact .inr ⟨r, rfl, by simp only [cond_true, AS.get_cons_self, hp]⟩
      | false =>
        simp only [cond_false]
        cases hh : AS.has n' k' (AS.sub p f s) with
        | true => exact .inr ⟨r, rfl, by simp only [cond_true, AS.get_cons_self, hp, cond_false]⟩
        | false => exact .inl ⟨by simp only [cond_false]; exact has_get hh, fun r' e => by cases e; exact hp⟩
    · rw [AS.get_cons_ne _ _ hnk]
      cases hp : p r with
      | true => simp only [cond_true, AS.get_cons_ne _ _ hnk]; exact ih
      | false =>
        simp only [cond_false]
        cases hh : AS.has n' k' (AS.sub p f s) with
        | true => simp only [cond_true, AS.get_cons_ne _ _ hnk]; exact ih
        | false => simp only [cond_false]; exact ih
theorem sub_get {p : RV → Bool} {f : RV → RV} {s : AS} {n k : Nat} {r : RV} (h : (AS.sub p f s ++ s).get n k = some r) : ∃ r0, s.get n k = some r0 ∧ r = bif p r0 then f r0 else r0 := by
  rw [get_append] at h
  rcases sub_spec p f s n k with ⟨h1, h2⟩ | ⟨r0, h1, h2⟩
  · rw [h1] at h
    simp only at h
    exact ⟨r, h, by rw [h2 r h]; rfl⟩
  · rw [h2] at h
    simp only [Option.some.injEq] at h
    exact ⟨r0, h1, h.symm⟩
def CV.frz (id : Nat) (c : RC) : CV → CV
  | .rf i n => bif i == id then c.takeC n else .rf i n
  | x => x
def A1.frz (id : Nat) (c : RC) : A1 → A1
  | .cel x => .cel (x.frz id c)
  | .agg l => .agg (l.map (CV.frz id c))
def AV.frz (id : Nat) (c : RC) : AV → AV
  | .one x => .one (x.frz id c)
  | .tup l => .tup (l.map (A1.frz id c))
  | x => x
def RV.frz (id : Nat) (c : RC) : RV → RV
  | .av x => .av (x.frz id c)
  | .cv x => .cv (x.frz id c)
  | x => x
def CV.frzOk (id m : Nat) : CV → Prop
  | .rf i n => if (i == id) = true then n ≤ m else True
  | _ => True
def cvsFrz (id m : Nat) : List CV → Prop
  | [] => True
  | x :: l => x.frzOk id m ∧ cvsFrz id m l
def A1.frzOk (id m : Nat) : A1 → Prop
  | .cel x => x.frzOk id m
  | .agg l => cvsFrz id m l
def a1sFrz (id m : Nat) : List A1 → Prop
  | [] => True
  | x :: l => x.frzOk id m ∧ a1sFrz id m l
def RV.frzOk (id m : Nat) : RV → Prop
  | .av (.one x) => x.frzOk id m
  | .av (.tup l) => a1sFrz id m l
  | .cv x => x.frzOk id m
  | _ => True
def AS.frzOk (id m : Nat) : AS → Prop
  | [] => True
  | (_, _, r) :: s => r.frzOk id m ∧ AS.frzOk id m s
def frz1 (id : Nat) (c : RC) (s : AS) : AS := (id, 1, .off) :: AS.sub (RV.men id) (RV.frz id c) s
def boxOf (s : AS) (id : Nat) : Nat → Nat → List CV
  | 0, _ => []
  | n + 1, k => match s.get id k with
    | some (.cv c) => c.strip :: boxOf s id n (k + 1)
    | _ => []
def CV.bx (id : Nat) (cs : List CV) : CV → CV
  | .ptr i off => bif i == id then .pto (cs.drop off) else .ptr i off
  | x => x
def A1.bx (id : Nat) (cs : List CV) : A1 → A1
  | .cel x => .cel (x.bx id cs)
  | .agg l => .agg (l.map (CV.bx id cs))
def AV.bx (id : Nat) (cs : List CV) : AV → AV
  | .one x => .one (x.bx id cs)
  | .tup l => .tup (l.map (A1.bx id cs))
  | x => x
def RV.bx (id : Nat) (cs : List CV) : RV → RV
  | .av x => .av (x.bx id cs)
  | .cv x => .cv (x.bx id cs)
  | x => x
def bxOffs (id : Nat) : Nat → List CV → AS
  | _, [] => []
  | k, _ :: l => (id, k, .off) :: bxOffs id (k + 1) l
def bx1 (id : Nat) (cs : List CV) (s : AS) : AS := bxOffs id 1 cs ++ AS.sub (RV.men id) (RV.bx id cs) s
def frzL : List Nat → AS → (AS → Prop) → Prop
  | [], s, K => K s
  | id :: l, s, K => match s.get id 1 with
    | some (.row c) => s.frzOk id c.len ∧ frzL l (frz1 id c s ++ s) K
    | some (.cv _) => frzL l (bx1 id (boxOf s id 16 1) s ++ s) K
    | _ => frzL l s K
section
variable {N : Nat} {X0 : Nat → Nat → Prop} {w0 : World} {s : AS} {a : Act} {w : World} {g : Gh} {who : Nat → Option (Nat × Bool)}
theorem rowsP_flat {X : Nat → Nat → Prop} {w : World} {b t : Nat} : ∀ (rows : List (List CV)) (off : Nat), allLen t rows → (∀ j x, rows.flatten[j]? = some x → ∃ v, seenAt X w b (off + j) v ∧ x.P X w v) → rowsP X w b off t rows
  | [], off, _, _ => by simp only [rowsP]
  | r :: rs, off, hl, h => by
    simp only [rowsP]
    refine ⟨hl.1, ?_, rowsP_flat rs (off + t) hl.2 fun j x hx => ?_⟩
    · have key : ∀ (l : List CV) (off : Nat), (∀ j x, l[j]? = some x → ∃ v, seenAt X w b (off + j) v ∧ x.P X w v) → cellsP X w b off l := by
        intro l
        induction l with
        | nil => intro off _; simp only [cellsP]
        | cons x l ih =>
          intro off h
          simp only [cellsP]
          exact ⟨by simpa using h 0 x rfl, ih (off + 1) fun j y hy => by have := h (j + 1) y (by simpa using hy); rwa [show off + (j + 1) = off + 1 + j by omega] at this⟩
      exact key r off fun j x hx => h j x (by rw [List.flatten_cons, List.getElem?_append_left (List.getElem?_eq_some_iff.1 hx).1]; exact hx)
    · have := h (t + j) x (by rw [List.flatten_cons, List.getElem?_append_right (by rw [hl.1]; omega), hl.1, Nat.add_sub_cancel_left]; exact hx)
      rwa [show off + (t + j) = off + t + j by omega] at this
theorem cvsFrz_get {id m : Nat} : ∀ {l : List CV}, cvsFrz id m l → ∀ x ∈ l, x.frzOk id m
  | y :: l, h, x, hx => by
    rcases List.mem_cons.1 hx with rfl | hx
    · exact h.1
    · exact cvsFrz_get h.2 x hx
theorem a1sFrz_get {id m : Nat} : ∀ {l : List A1}, a1sFrz id m l → ∀ x ∈ l, x.frzOk id m
  | y :: l, h, x, hx => by
    rcases List.mem_cons.1 hx with rfl | hx
    · exact h.1
    · exact a1sFrz_get h.2 x hx
theorem frzOk_get {id m : Nat} : ∀ {s : AS}, s.frzOk id m → ∀ {n k : Nat} {r : RV}, s.get n k = some r → r.frzOk id m
  | (n', k', r') :: s, h, n, k, r, hr => by
    by_cases hnk : n' = n ∧ k' = k
    · obtain ⟨rfl, rfl⟩ := hnk
      rw [AS.get_cons_self] at hr
      cases hr
      exact h.1
    · rw [AS.get_cons_ne _ _ hnk] at hr
      exact frzOk_get h.2 hr
theorem Gam.frz (H : Gam N X0 w0 s a w g who) {id : Nat} {c : RC} (hid : s.get id 1 = some (.row c)) (hok : s.frzOk id c.len) :
    ∃ g', Gam N X0 w0 (frz1 id c s ++ s) a w g' who := by
  obtain ⟨_, cok, hle, hown, hcells⟩ := H.res _ _ _ hid
  let X' : Nat → Nat → Prop := fun b o => g.X b o ∧ ¬ (0 < g.κ id ∧ b = g.σ id)
  have hevo : Evo g.X w X' w := ⟨Nat.le_refl _, fun b o _ hx => ⟨rfl, fun h => hx h.1⟩⟩
  have hsame : ∀ i, g.same ⟨g.σ, g.κ, X'⟩ i := fun i => ⟨rfl, rfl⟩
  have hcv : ∀ (x : CV) (v : Value), x.frzOk id c.len → x.G g w v → (x.frz id c).G ⟨g.σ, g.κ, X'⟩ w v := by
    intro x v hf hx
    have hkeep : x.G ⟨g.σ, g.κ, X'⟩ w v := hx.evo (g' := ⟨g.σ, g.κ, X'⟩) hevo fun i _ => hsame i
    cases x <;> first | exact hkeep | skip
    case rf i n =>
      simp only [CV.frz]
      cases hi : i == id with
      | false => exact hkeep
      | true =>
        simp only [cond_true]
        rw [beq_iff_eq] at hi
        subst hi
        simp only [CV.frzOk, BEq.rfl, if_true] at hf
        obtain ⟨ao, rfl, hao⟩ := (show CV.G g w (.rf i n) v from hx)
        have hblk : 0 < n → ao = some ⟨g.σ i, 0, none⟩ ∧ 0 < g.κ i := fun hn => by
          rcases hao with ⟨_, h, _⟩ | h
          · omega
          · exact ⟨h, by omega⟩
        have hseen : ∀ j u, 0 < g.κ i → w.cell? ⟨g.σ i, j, none⟩ = some u → seenAt X' w (g.σ i) (0 + j) u := fun j u hk hu => ⟨(hown hk).2.1, fun h => h.2 ⟨hk, rfl⟩, by rw [Nat.zero_add]; exact hu⟩
        have hcap : ao = none → g.κ i = 0 := fun h => by
          rcases hao with ⟨_, _, h'⟩ | h'
          · exact h'
          · rw [h] at h'; cases h'
        cases c with
        | u32 xs =>
          have hf : n ≤ xs.length := hf
          have hl : (xs.take n).length = n := by rw [List.length_take]; omega
          refine ⟨⟨ao, g.κ i, by rw [hl], by rw [hl]; exact Nat.le_trans hf hle, hcap, fun x hx => cok x (List.mem_of_mem_take hx), fun hp => ?_⟩, trivial⟩
          rw [hl] at hp
          obtain ⟨h1, h2⟩ := hblk hp
          refine ⟨g.σ i, 0, h1, fun j hj => ?_⟩
          rw [hl] at hj
          have hj' : j < xs.length := by omega
          obtain ⟨u, hu, hP⟩ := hcells j (u32C xs[j]) (by simp [RC.flat, hj'])
          have e : u = .int .u32 (xs[j] : Int) := hP
          subst e
          have : ((xs.take n).getD j 0 : Nat) = xs[j] := by
            rw [List.getD_eq_getElem?_getD, List.getElem?_take, if_pos hj, List.getElem?_eq_getElem hj']; rfl
          rw [this]
          exact hseen j _ h2 hu
        | gen t rows =>
          have hf : n ≤ rows.length := hf
          have hl : (rows.take n).length = n := by rw [List.length_take]; omega
          refine ⟨?_, trivial⟩
          simp only [CV.P]
          refine ⟨ao, g.κ i, by rw [hl], by rw [hl]; exact Nat.le_trans hf hle, hcap, fun hp => ?_⟩
          rw [hl] at hp
          obtain ⟨h1, h2⟩ := hblk hp
          refine ⟨g.σ i, 0, h1, rowsP_flat _ 0 (allLen_take _ _ cok.2) fun j x hx => ?_⟩
          obtain ⟨u, hu, hP⟩ := hcells j x (flatten_take_get rows n j x hx)
          exact ⟨u, hseen j u h2 hu, CV.P.evo hevo x hP⟩
  have hal : ∀ (l : List CV) (vs : List Value), (∀ x ∈ l, x.frzOk id c.len) → All2 (fun c v => CV.G g w c v) l vs → All2 (fun c v => CV.G ⟨g.σ, g.κ, X'⟩ w c v) (l.map (CV.frz id c)) vs := by
    intro l vs hf h
    induction h with
    | nil => exact .nil
    | cons h _ ih => exact .cons (hcv _ _ (hf _ (by simp)) h) (ih fun x hx => hf x (by simp [hx]))
  have ha1 : ∀ (x : A1) (v : Value), x.frzOk id c.len → x.G g w v → (x.frz id c).G ⟨g.σ, g.κ, X'⟩ w v := by
    intro x v hf hx
    cases x with
    | cel x => exact hcv x v hf hx
    | agg l =>
      obtain ⟨vs, hv, hl⟩ := hx
      exact ⟨vs, hv, hal l vs (cvsFrz_get hf) hl⟩
  refine ⟨⟨g.σ, g.κ, X'⟩, H.defers, H.size, H.below, fun b o h => ⟨⟨(H.sub b o h).1, fun h' => ?_⟩, (H.sub b o h).2⟩, fun b o h => H.sup b o h.1, fun b o h => H.lt b o h.1, (fun b x hx => by
    rcases H.whole b x hx with h | h
    · by_cases e : 0 < g.κ id ∧ b = g.σ id
      · exact .inr fun o hx => hx.2 e
      · exact .inl fun o => ⟨h o, e⟩
    · exact .inr fun o hx => h o hx.1), fun n k r hr => ?_⟩
  · obtain ⟨k1, _, _, k4⟩ := hown h'.1
    have := h'.2
    have hx := (H.sub b o h).2
    omega
  · unfold frz1 at hr
    rw [List.cons_append] at hr
    by_cases hnk : id = n ∧ 1 = k
    · obtain ⟨rfl, rfl⟩ := hnk
      rw [AS.get_cons_self] at hr
      cases hr
      trivial
    · rw [AS.get_cons_ne _ _ hnk] at hr
      obtain ⟨r0, h0, rfl⟩ := sub_get hr
      have hf := frzOk_get hok h0
      have hres := H.res _ _ _ h0
      have hkeep : r0.H w0.heap.size ⟨g.σ, g.κ, X'⟩ who a w n k := by
        cases r0 with
        | av v =>
          obtain ⟨h1, h2, h3⟩ := hres
          exact ⟨h1, h2, h3.evo (g' := ⟨g.σ, g.κ, X'⟩) hevo fun i _ => hsame i⟩
        | cv x =>
          obtain ⟨h1, h2, h3, h4, h5, h6, v, h7, h8⟩ := hres
          refine ⟨h1, h2, h3, h4, ⟨h5, fun h => ?_⟩, h6, v, h7, h8.evo (g' := ⟨g.σ, g.κ, X'⟩) hevo fun i _ => hsame i⟩
          have := (hown h.1).2.2.1
          rw [← h.2, h4] at this
          cases this
        | row x =>
          have hrow := hres
          obtain ⟨h1, _, _, h4, _⟩ := hres
          refine row_keep (g' := ⟨g.σ, g.κ, X'⟩) hrow hevo rfl rfl fun hp => ?_
          obtain ⟨k1, k2, k3, k4⟩ := h4 hp
          refine ⟨k3, fun j hj => ⟨⟨(k4 j hj).1, fun h => ?_⟩, rfl, rfl⟩⟩
          have := (hown h.1).2.2.1
          rw [← h.2, k3] at this
          cases this
          exact hnk ⟨rfl, h1.symm⟩
        | off => trivial
        | ext p =>
          refine ⟨hres.1, hres.2.2 _ _ _ _ _ _ _ _ hres.2.1 ⟨Nat.le_refl _, fun _ h => .inl h, fun _ _ _ => rfl, fun k o hn hx => ⟨hx, fun e => ?_⟩⟩, hres.2.2⟩
          rw [e.2, (hown e.1).2.2.1] at hn
          cases hn
      cases hm : RV.men id r0 with
      | false => exact hkeep
      | true =>
        simp only [cond_true]
        cases r0 with
        | av v =>
          obtain ⟨h1, h2, h3⟩ := hres
          refine ⟨h1, h2, ?_⟩
          cases v with
          | one x => exact ha1 x _ hf h3
          | tup l =>
            obtain ⟨vs, hv, hl⟩ := h3
            have hf' := a1sFrz_get (show a1sFrz id c.len l from hf)
            refine ⟨vs, hv, ?_⟩
            clear hv hm hr hkeep h0 hf
            induction hl with
            | nil => exact .nil
            | cons h _ ih => exact .cons (ha1 _ _ (hf' _ (by simp)) h) (ih fun x hx => hf' x (by simp [hx]))
          | any => trivial
          | und => exact h3
        | cv x =>
          obtain ⟨h1, h2, h3, h4, h5, h6, v, h7, h8⟩ := hkeep
          obtain ⟨_, _, _, _, _, _, v', h7', h8'⟩ := hres
          exact ⟨h1, h2, h3, h4, h5, h6, v', h7', hcv x v' hf h8'⟩
        | row x => cases hm
        | off => trivial
        | ext p => cases hm
theorem boxOf_get {id : Nat} : ∀ (n k j : Nat) (x : CV), (boxOf s id n k)[j]? = some x → ∃ c, s.get id (k + j) = some (.cv c) ∧ x = c.strip
  | 0, k, j, x, h => by simp [boxOf] at h
  | n + 1, k, j, x, h => by
    unfold boxOf at h
    split at h
    · rename_i c hc
      cases j with
      | zero => simp only [List.getElem?_cons_zero, Option.some.injEq] at h; exact ⟨c, hc, h.symm⟩
      | succ j =>
        rw [List.getElem?_cons_succ] at h
        have := boxOf_get n (k + 1) j x h
        rwa [show k + 1 + j = k + (j + 1) by omega] at this
    · simp at h
theorem bxOffs_get {id : Nat} : ∀ (cs : List CV) (k0 n k : Nat) (r : RV), (bxOffs id k0 cs ++ s).get n k = some r → (n = id ∧ k0 ≤ k ∧ k < k0 + cs.length ∧ r = .off) ∨ (¬ (n = id ∧ k0 ≤ k ∧ k < k0 + cs.length) ∧ s.get n k = some r)
  | [], k0, n, k, r, h => .inr ⟨fun hh => by simp at hh; omega, h⟩
  | c :: cs, k0, n, k, r, h => by
    simp only [bxOffs, List.cons_append] at h
    by_cases hnk : id = n ∧ k0 = k
    · obtain ⟨rfl, rfl⟩ := hnk
      rw [AS.get_cons_self] at h
      cases h
      exact .inl ⟨rfl, Nat.le_refl _, by simp, rfl⟩
    · rw [AS.get_cons_ne _ _ hnk] at h
      rcases bxOffs_get cs (k0 + 1) n k r h with ⟨h1, h2, h3, h4⟩ | ⟨h1, h2⟩
      · exact .inl ⟨h1, by omega, by simp; omega, h4⟩
      · refine .inr ⟨fun hh => ?_, h2⟩
        obtain ⟨e1, e2, e3⟩ := hh
        simp only [List.length_cons] at e3
        by_cases e : k0 = k
        · exact hnk ⟨e1.symm, e⟩
        · exact h1 ⟨e1, by omega, by omega⟩
theorem cellsP_of {X : Nat → Nat → Prop} {w : World} {b : Nat} : ∀ (l : List CV) (off : Nat), (∀ j x, l[j]? = some x → ∃ v, seenAt X w b (off + j) v ∧ x.P X w v) → cellsP X w b off l
  | [], off, _ => by simp only [cellsP]
  | x :: l, off, h => by
    simp only [cellsP]
    exact ⟨by simpa using h 0 x rfl, cellsP_of l (off + 1) fun j y hy => by have := h (j + 1) y (by simpa using hy); rwa [show off + (j + 1) = off + 1 + j by omega] at this⟩
theorem Gam.bx (H : Gam N X0 w0 s a w g who) {id m : Nat} {c : CV} (hid : s.get id 1 = some (.cv c)) :
    ∃ g', Gam N X0 w0 (bx1 id (boxOf s id m 1) s ++ s) a w g' who := by
  obtain ⟨_, b2, b3, b4, _⟩ := H.res _ _ _ hid
  have hget := fun j x h => boxOf_get (s := s) (id := id) m 1 j x h
  generalize boxOf s id m 1 = cs at hget
  let X' : Nat → Nat → Prop := fun b o => g.X b o ∧ ¬ (b = g.σ id ∧ o < cs.length)
  have hevo : Evo g.X w X' w := ⟨Nat.le_refl _, fun b o _ hx => ⟨rfl, fun h => hx h.1⟩⟩
  have hsame : ∀ i, g.same ⟨g.σ, g.κ, X'⟩ i := fun i => ⟨rfl, rfl⟩
  have hcells : cellsP X' w (g.σ id) 0 cs := by
    refine cellsP_of cs 0 fun j x hx => ?_
    obtain ⟨c', hc', rfl⟩ := hget j x hx
    obtain ⟨_, _, _, _, _, _, v, h7, h8⟩ := H.res _ _ _ hc'
    have hj := (List.getElem?_eq_some_iff.1 hx).1
    rw [show 1 + j - 1 = j by omega] at h7
    exact ⟨v, ⟨b3, fun h => h.2 ⟨rfl, by omega⟩, by rw [Nat.zero_add]; exact h7⟩, CV.P.evo hevo _ h8.strip⟩
  have hcv : ∀ (x : CV) (v : Value), x.G g w v → (x.bx id cs).G ⟨g.σ, g.κ, X'⟩ w v := by
    intro x v hx
    have hkeep : x.G ⟨g.σ, g.κ, X'⟩ w v := hx.evo (g' := ⟨g.σ, g.κ, X'⟩) hevo fun i _ => hsame i
    cases x <;> first | exact hkeep | skip
    case ptr i off =>
      simp only [CV.bx]
      cases hi : i == id with
      | false => exact hkeep
      | true =>
        simp only [cond_true]
        rw [beq_iff_eq] at hi
        subst hi
        have e : v = .pointer (some ⟨g.σ i, off, none⟩) := hx
        subst e
        simp only [CV.G, CV.P]
        refine ⟨g.σ i, off, rfl, ?_⟩
        rcases Nat.lt_or_ge cs.length off with h | h
        · rw [List.drop_eq_nil_of_le (by omega)]; simp only [cellsP]
        · have := cellsP_drop off cs (g.σ i) 0 h hcells
          rwa [Nat.zero_add] at this
  have ha1 : ∀ (x : A1) (v : Value), x.G g w v → (x.bx id cs).G ⟨g.σ, g.κ, X'⟩ w v := by
    intro x v hx
    cases x with
    | cel x => exact hcv x v hx
    | agg l =>
      obtain ⟨vs, hv, hl⟩ := hx
      refine ⟨vs, hv, ?_⟩
      clear hv
      induction hl with
      | nil => exact .nil
      | cons h _ ih => exact .cons (hcv _ _ h) ih
  refine ⟨⟨g.σ, g.κ, X'⟩, H.defers, H.size, H.below, fun b o h => ⟨⟨(H.sub b o h).1, fun h' => ?_⟩, (H.sub b o h).2⟩, fun b o h => H.sup b o h.1, fun b o h => H.lt b o h.1, (fun b x hx => by
    have hne : b ≠ g.σ id := fun e => by rw [e, b4] at hx; cases hx
    rcases H.whole b x hx with h | h
    · exact .inl fun o => ⟨h o, fun e => hne e.1⟩
    · exact .inr fun o hx => h o hx.1), fun n k r hr => ?_⟩
  · have hx := (H.sub b o h).2
    have := h'.1
    omega
  · unfold bx1 at hr
    rw [List.append_assoc] at hr
    rcases bxOffs_get cs 1 n k r hr with ⟨_, _, _, rfl⟩ | ⟨hout, hr2⟩
    · trivial
    · obtain ⟨r0, h0, rfl⟩ := sub_get hr2
      have hres := H.res _ _ _ h0
      have hX : 0 < k → (who (g.σ n) = some (n, false)) → g.X (g.σ n) (k - 1) → X' (g.σ n) (k - 1) := fun hk hw hx => ⟨hx, fun e => by
        rw [e.1, b4] at hw
        cases hw
        exact hout ⟨rfl, by omega, by omega⟩⟩
      have hkeep : r0.H w0.heap.size ⟨g.σ, g.κ, X'⟩ who a w n k := by
        cases r0 with
        | av v =>
          obtain ⟨h1, h2, h3⟩ := hres
          exact ⟨h1, h2, h3.evo (g' := ⟨g.σ, g.κ, X'⟩) hevo fun i _ => hsame i⟩
        | cv x =>
          obtain ⟨h1, h2, h3, h4, h5, h6, v, h7, h8⟩ := hres
          exact ⟨h1, h2, h3, h4, hX h1 h4 h5, h6, v, h7, h8.evo (g' := ⟨g.σ, g.κ, X'⟩) hevo fun i _ => hsame i⟩
        | row x =>
          have hrow := hres
          obtain ⟨h1, _, _, h4, _⟩ := hres
          refine row_keep (g' := ⟨g.σ, g.κ, X'⟩) hrow hevo rfl rfl fun hp => ?_
          obtain ⟨k1, k2, k3, k4⟩ := h4 hp
          refine ⟨k3, fun j hj => ⟨⟨(k4 j hj).1, fun h => ?_⟩, rfl, rfl⟩⟩
          rw [h.1, b4] at k3
          cases k3
        | off => trivial
        | ext p =>
          refine ⟨hres.1, hres.2.2 _ _ _ _ _ _ _ _ hres.2.1 ⟨Nat.le_refl _, fun _ h => .inl h, fun _ _ _ => rfl, fun k o hn hx => ⟨hx, fun e => ?_⟩⟩, hres.2.2⟩
          rw [e.1, b4] at hn
          cases hn
      cases hm : RV.men id r0 with
      | false => exact hkeep
      | true =>
        simp only [cond_true]
        cases r0 with
        | av v =>
          obtain ⟨h1, h2, h3⟩ := hres
          refine ⟨h1, h2, ?_⟩
          cases v with
          | one x => exact ha1 x _ h3
          | tup l =>
            obtain ⟨vs, hv, hl⟩ := h3
            refine ⟨vs, hv, ?_⟩
            clear hv hm hr hr2 hkeep h0
            induction hl with
            | nil => exact .nil
            | cons h _ ih => exact .cons (ha1 _ _ h) ih
          | any => trivial
          | und => exact h3
        | cv x =>
          obtain ⟨h1, h2, h3, h4, h5, h6, v, h7, h8⟩ := hkeep
          obtain ⟨_, _, _, _, _, _, v', h7', h8'⟩ := hres
          exact ⟨h1, h2, h3, h4, h5, h6, v', h7', hcv x v' h8'⟩
        | row x => cases hm
        | off => trivial
        | ext p => cases hm
theorem frzL_sound : ∀ (l : List Nat) {s : AS} {g : Gh} {K : AS → Prop}, Gam N X0 w0 s a w g who → frzL l s K → ∃ s' g', K s' ∧ Gam N X0 w0 s' a w g' who
  | [], s, g, K, H, h => ⟨s, g, h, H⟩
  | id :: l, s, g, K, H, h => by
    simp only [frzL] at h
    split at h
    · rename_i c hid
      obtain ⟨g', H'⟩ := H.frz hid h.1
      exact frzL_sound l H' h.2
    · rename_i c hid
      obtain ⟨g', H'⟩ := H.bx (m := 16) hid
      exact frzL_sound l H' h
    · exact frzL_sound l H h
def CV.ren (id id' : Nat) : CV → CV
  | .rf i n => bif i == id then .rf id' n else .rf i n
  | .rp i t j => bif i == id then .rp id' t j else .rp i t j
  | x => bif x.men id then x.strip else x
def A1.ren (id id' : Nat) : A1 → A1
  | .cel x => .cel (x.ren id id')
  | .agg l => .agg (l.map (CV.ren id id'))
def AV.ren (id id' : Nat) : AV → AV
  | .one x => .one (x.ren id id')
  | .tup l => .tup (l.map (A1.ren id id'))
  | x => x
def RV.ren (id id' : Nat) : RV → RV
  | .av x => .av (x.ren id id')
  | .cv x => .cv (x.ren id id')
  | x => x
def ren1 (id id' : Nat) (c : RC) (s : AS) : AS := (id, 1, .off) :: (id', 1, .row c) :: AS.sub (RV.men id) (RV.ren id id') s
theorem Gam.ren (H : Gam N X0 w0 s a w g who) {id id' : Nat} {c : RC} (hid : s.get id 1 = some (.row c)) (hf : s.fresh id' = true) :
    ∃ g' who', Gam N X0 w0 (ren1 id id' c s ++ s) a w g' who' := by
  have hrow := H.res _ _ _ hid
  obtain ⟨_, cok, hle, hown, hcells⟩ := hrow
  have hne : id ≠ id' := fun e => by have := (AS.fresh_get hf hid).2 e; omega
  have hevo : Evo g.X w g.X w := Evo.refl _ _
  have hsame : ∀ i, i ≠ id' → g.same ⟨upd g.σ id' (g.σ id), upd g.κ id' (g.κ id), g.X⟩ i := fun i hi => ⟨upd_ne _ _ hi, upd_ne _ _ hi⟩
  have hcv : ∀ (x : CV) (v : Value), x.men id' = false → x.G g w v → (x.ren id id').G ⟨upd g.σ id' (g.σ id), upd g.κ id' (g.κ id), g.X⟩ w v := by
    intro x v hm hx
    have hkeep : x.G ⟨upd g.σ id' (g.σ id), upd g.κ id' (g.κ id), g.X⟩ w v := hx.evo (g' := ⟨upd g.σ id' (g.σ id), upd g.κ id' (g.κ id), g.X⟩) hevo fun i hi => hsame i (by rintro rfl; rw [hm] at hi; cases hi)
    have hgen : CV.G ⟨upd g.σ id' (g.σ id), upd g.κ id' (g.κ id), g.X⟩ w (bif x.men id then x.strip else x) v := by
      cases x.men id with
      | false => exact hkeep
      | true => exact CV.P.toG (g := ⟨upd g.σ id' (g.σ id), upd g.κ id' (g.κ id), g.X⟩) hx.strip (CV.strip_strip x)
    cases x <;> first | exact hgen | skip
    case rf i n =>
      simp only [CV.ren]
      cases hi : i == id with
      | false => exact hkeep
      | true =>
        rw [beq_iff_eq] at hi
        subst hi
        obtain ⟨ao, rfl, hao⟩ := (show CV.G g w (.rf i n) v from hx)
        exact ⟨ao, by simp only [upd_self], by simp only [upd_self]; exact hao⟩
    case rp i t j =>
      simp only [CV.ren]
      cases hi : i == id with
      | false => exact hkeep
      | true =>
        rw [beq_iff_eq] at hi
        subst hi
        have e : v = .pointer (some ⟨g.σ i, j * t, none⟩) := hx
        subst e
        show _ = _
        simp only [upd_self]
  have hal : ∀ (l : List CV) (vs : List Value), l.any (CV.men id') = false → All2 (fun c v => CV.G g w c v) l vs → All2 (fun c v => CV.G ⟨upd g.σ id' (g.σ id), upd g.κ id' (g.κ id), g.X⟩ w c v) (l.map (CV.ren id id')) vs := by
    intro l vs hm h
    induction h with
    | nil => exact .nil
    | cons h _ ih =>
      simp only [List.any_cons, Bool.or_eq_false_iff] at hm
      exact .cons (hcv _ _ hm.1 h) (ih hm.2)
  have ha1 : ∀ (x : A1) (v : Value), x.men id' = false → x.G g w v → (x.ren id id').G ⟨upd g.σ id' (g.σ id), upd g.κ id' (g.κ id), g.X⟩ w v := by
    intro x v hm hx
    cases x with
    | cel x => exact hcv x v hm hx
    | agg l =>
      obtain ⟨vs, hv, hl⟩ := hx
      exact ⟨vs, hv, hal l vs hm hl⟩
  refine ⟨⟨upd g.σ id' (g.σ id), upd g.κ id' (g.κ id), g.X⟩, fun b => if 0 < g.κ id ∧ b = g.σ id then some (id', true) else who b, H.defers, H.size, H.below, H.sub, H.sup, H.lt, (fun b x hx => by
    by_cases e : 0 < g.κ id ∧ b = g.σ id
    · rw [e.2]; exact H.whole _ _ (hown e.1).2.2.1
    · simp only [if_neg e] at hx; exact H.whole b x hx), fun n k r hr => ?_⟩
  unfold ren1 at hr
  rw [List.cons_append, List.cons_append] at hr
  by_cases hnk : id = n ∧ 1 = k
  · obtain ⟨rfl, rfl⟩ := hnk
    rw [AS.get_cons_self] at hr
    cases hr
    trivial
  rw [AS.get_cons_ne _ _ hnk] at hr
  by_cases hnk' : id' = n ∧ 1 = k
  · obtain ⟨rfl, rfl⟩ := hnk'
    rw [AS.get_cons_self] at hr
    cases hr
    refine ⟨rfl, cok, by simp only [upd_self]; exact hle, fun hp => ?_, fun j x hx => ?_⟩
    · simp only [upd_self] at hp ⊢
      obtain ⟨k1, k2, k3, k4⟩ := hown hp
      exact ⟨k1, k2, by rw [if_pos ⟨hp, trivial⟩], k4⟩
    · simp only [upd_self]
      exact hcells j x hx
  rw [AS.get_cons_ne _ _ hnk'] at hr
  obtain ⟨r0, h0, rfl⟩ := sub_get hr
  obtain ⟨f1, f2⟩ := AS.fresh_get hf h0
  have hres := H.res _ _ _ h0
  have hkeep : r0.H w0.heap.size ⟨upd g.σ id' (g.σ id), upd g.κ id' (g.κ id), g.X⟩ (fun b => if 0 < g.κ id ∧ b = g.σ id then some (id', true) else who b) a w n k := by
    cases r0 with
    | av v =>
      obtain ⟨h1, h2, h3⟩ := hres
      exact ⟨h1, h2, h3.evo (g' := ⟨upd g.σ id' (g.σ id), upd g.κ id' (g.κ id), g.X⟩) hevo fun i hi => hsame i (by rintro rfl; simp only [RV.men] at f1; rw [f1] at hi; cases hi)⟩
    | cv x =>
      obtain ⟨h1, h2, h3, h4, h5, h6, v, h7, h8⟩ := hres
      have hn : n ≠ id' := fun e => by have := f2 e; omega
      simp only [RV.H, upd_ne _ _ hn]
      refine ⟨h1, h2, h3, ?_, h5, h6, v, h7, h8.evo (g' := ⟨upd g.σ id' (g.σ id), upd g.κ id' (g.κ id), g.X⟩) hevo fun i hi => hsame i (by rintro rfl; simp only [RV.men] at f1; rw [f1] at hi; cases hi)⟩
      rw [if_neg]
      · exact h4
      · rintro ⟨hp, e⟩
        have := (hown hp).2.2.1
        rw [← e, h4] at this
        cases this
    | row x =>
      have hrow := hres
      obtain ⟨h1, _, _, h4, _⟩ := hres
      have hn : n ≠ id' := fun e => by have := f2 e; omega
      refine row_keep (g' := ⟨upd g.σ id' (g.σ id), upd g.κ id' (g.κ id), g.X⟩) hrow hevo (upd_ne _ _ hn) (upd_ne _ _ hn) fun hp => ?_
      obtain ⟨k1, k2, k3, k4⟩ := h4 hp
      refine ⟨?_, fun j hj => ⟨(k4 j hj).1, rfl, rfl⟩⟩
      rw [if_neg]
      · exact k3
      · rintro ⟨hp', e⟩
        have := (hown hp').2.2.1
        rw [← e, k3] at this
        cases this
        exact hnk ⟨rfl, h1.symm⟩
    | off => trivial
    | ext p =>
      have hn : n ≠ id' := fun e => by have := f2 e; have := hres.1; omega
      simp only [RV.H, upd_ne _ _ hn]
      exact ⟨hres.1, hres.2.2 _ _ _ _ _ _ _ _ hres.2.1 ⟨Nat.le_refl _, fun k h => by
        by_cases e : 0 < g.κ id ∧ k = g.σ id
        · rw [e.2, (hown e.1).2.2.1]; exact .inl (by simp)
        · simp only [if_neg e] at h; exact .inl h, fun _ _ _ => rfl, fun _ _ _ h => h⟩, hres.2.2⟩
  cases hm : RV.men id r0 with
  | false => exact hkeep
  | true =>
    simp only [cond_true]
    cases r0 with
    | av v =>
      obtain ⟨h1, h2, h3⟩ := hres
      refine ⟨h1, h2, ?_⟩
      cases v with
      | one x => exact ha1 x _ f1 h3
      | tup l =>
        obtain ⟨vs, hv, hl⟩ := h3
        have f1' : l.any (A1.men id') = false := f1
        refine ⟨vs, hv, ?_⟩
        clear hv hm hr hkeep h0 f1
        induction hl with
        | nil => exact .nil
        | cons h _ ih =>
          simp only [List.any_cons, Bool.or_eq_false_iff] at f1'
          exact .cons (ha1 _ _ f1'.1 h) (ih f1'.2)
      | any => trivial
      | und => exact h3
    | cv x =>
      obtain ⟨h1, h2, h3, h4, h5, h6, v, h7, h8⟩ := hkeep
      obtain ⟨_, _, _, _, _, _, v', h7', h8'⟩ := hres
      have hn : n ≠ id' := fun e => by have := f2 e; omega
      exact ⟨h1, h2, h3, h4, h5, h6, v', by simp only [upd_ne _ _ hn]; exact h7', hcv x v' f1 h8'⟩
    | row x => cases hm
    | off => trivial
    | ext p => cases hm
/-- nil is a row without places -/
theorem Gam.nilRow (H : Gam N X0 w0 s a w g who) {m id' : Nat} {c : RC} (hm : s.get m 0 = some (.av (.cel .nil))) (hf : s.fresh id' = true) (cok : c.ok) (hc : c.len = 0) :
    ∃ g' who', Gam N X0 w0 ((m, 0, .av (.cel (.rf id' 0))) :: (id', 1, .row c) :: s) a w g' who' := by
  have hevo : Evo g.X w g.X w := Evo.refl _ _
  have hsame : ∀ i, i ≠ id' → g.same ⟨upd g.σ id' 0, upd g.κ id' 0, g.X⟩ i := fun i hi => ⟨upd_ne _ _ hi, upd_ne _ _ hi⟩
  refine ⟨⟨upd g.σ id' 0, upd g.κ id' 0, g.X⟩, who, H.defers, H.size, H.below, H.sub, H.sup, H.lt, H.whole, fun n k r hr => ?_⟩
  by_cases hnk : m = n ∧ 0 = k
  · obtain ⟨rfl, rfl⟩ := hnk
    rw [AS.get_cons_self] at hr
    cases hr
    obtain ⟨h1, h2, h3⟩ := H.res _ _ _ hm
    have e : a.tmps.getD m undef = .slice none 0 0 := h3
    refine ⟨rfl, h2, ?_⟩
    rw [e]
    exact ⟨none, by simp only [upd_self], .inl ⟨rfl, rfl, by simp only [upd_self]⟩⟩
  rw [AS.get_cons_ne _ _ hnk] at hr
  by_cases hnk' : id' = n ∧ 1 = k
  · obtain ⟨rfl, rfl⟩ := hnk'
    rw [AS.get_cons_self] at hr
    cases hr
    refine ⟨rfl, cok, by omega, fun hp => by simp only [upd_self] at hp; omega, fun j x hx => ?_⟩
    have hj := (List.getElem?_eq_some_iff.1 hx).1
    rw [RC.flat_len cok, hc] at hj
    omega
  rw [AS.get_cons_ne _ _ hnk'] at hr
  obtain ⟨f1, f2⟩ := AS.fresh_get hf hr
  have hres := H.res _ _ _ hr
  cases r with
  | av v =>
    obtain ⟨h1, h2, h3⟩ := hres
    exact ⟨h1, h2, h3.evo (g' := ⟨upd g.σ id' 0, upd g.κ id' 0, g.X⟩) hevo fun i hi => hsame i (by rintro rfl; simp only [RV.men] at f1; rw [f1] at hi; cases hi)⟩
  | cv x =>
    obtain ⟨h1, h2, h3, h4, h5, h6, v, h7, h8⟩ := hres
    have hn : n ≠ id' := fun e => by have := f2 e; omega
    simp only [RV.H, upd_ne _ _ hn]
    exact ⟨h1, h2, h3, h4, h5, h6, v, h7, h8.evo (g' := ⟨upd g.σ id' 0, upd g.κ id' 0, g.X⟩) hevo fun i hi => hsame i (by rintro rfl; simp only [RV.men] at f1; rw [f1] at hi; cases hi)⟩
  | row x =>
    have hrow := hres
    obtain ⟨h1, _, _, h4, _⟩ := hres
    have hn : n ≠ id' := fun e => by have := f2 e; omega
    refine row_keep (g' := ⟨upd g.σ id' 0, upd g.κ id' 0, g.X⟩) hrow hevo (upd_ne _ _ hn) (upd_ne _ _ hn) fun hp => ?_
    obtain ⟨k1, k2, k3, k4⟩ := h4 hp
    exact ⟨k3, fun j hj => ⟨(k4 j hj).1, rfl, rfl⟩⟩
  | off => trivial
  | ext p =>
    have hn : n ≠ id' := fun e => by have := f2 e; have := hres.1; omega
    simp only [RV.H, upd_ne _ _ hn]
    exact hres
end
end Go.Proofs.YtocpmekblkfdiaaGreatDoor
