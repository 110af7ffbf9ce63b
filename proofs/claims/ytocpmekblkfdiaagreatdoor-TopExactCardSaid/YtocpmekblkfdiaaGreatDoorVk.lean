/- The evaluator, eleventh part: regions whose order is drawn. No condition. The evaluator, twelfth part: regions whose order is drawn, whole. No condition. The evaluator, thirteenth part: code; functions; ranges over functions. No condition. The evaluator, whole: what it runs, the program runs so. No condition. -/
import Derived.Test.YtocpmekblkfdiaaGreatDoorVf
namespace Go.Proofs.YtocpmekblkfdiaaGreatDoor
open Go.RowKit
set_option linter.unusedSimpArgs false
def XM.isWr : XM → Bool
  | .wr => true
  | _ => false
mutual
theorem beqV_eq : ∀ {x y : XV}, beqV x y = true → x = y
  | .b _, y, h => by
    cases y <;> simp only [beqV, Bool.false_eq_true] at h
    rw [beq_iff_eq.1 h]
  | .i _ _, y, h => by
    cases y <;> simp only [beqV, Bool.false_eq_true, Bool.and_eq_true, decide_eq_true_eq] at h
    rw [h.1, h.2]
  | .s _, y, h => by
    cases y <;> simp only [beqV, Bool.false_eq_true] at h
    rw [beqL_iff.1 h]
  | .np, y, h => by cases y <;> simp only [beqV, Bool.false_eq_true] at h; rfl
  | .nf, y, h => by cases y <;> simp only [beqV, Bool.false_eq_true] at h; rfl
  | .ni, y, h => by cases y <;> simp only [beqV, Bool.false_eq_true] at h; rfl
  | .p _ _, y, h => by
    cases y <;> simp only [beqV, Bool.false_eq_true, Bool.and_eq_true] at h
    rw [nbeq h.1, nbeq h.2]
  | .ns, y, h => by cases y <;> simp only [beqV, Bool.false_eq_true] at h; rfl
  | .sl _ _ _ _, y, h => by
    cases y <;> simp only [beqV, Bool.false_eq_true, Bool.and_eq_true] at h
    rw [nbeq h.1.1.1, nbeq h.1.1.2, nbeq h.1.2, nbeq h.2]
  | .lim _, y, h => by
    cases y <;> simp only [beqV, Bool.false_eq_true] at h
    rw [beqL_iff.1 h]
  | .f _ _, y, h => by
    cases y <;> simp only [beqV, Bool.false_eq_true, Bool.and_eq_true] at h
    rw [nbeq h.1, beqVs_eq h.2]
  | .y _, y, h => by
    cases y <;> simp only [beqV, Bool.false_eq_true] at h
    rw [nbeq h]
  | .ml, y, h => by cases y <;> simp only [beqV, Bool.false_eq_true] at h; rfl
  | .a _, y, h => by
    cases y <;> simp only [beqV, Bool.false_eq_true] at h
    rw [beqVs_eq h]
  | .t _, y, h => by
    cases y <;> simp only [beqV, Bool.false_eq_true] at h
    rw [beqVs_eq h]
theorem beqVs_eq : ∀ {l m : List XV}, beqVs l m = true → l = m
  | [], [], _ => rfl
  | [], _ :: _, h => by simp [beqVs] at h
  | _ :: _, [], h => by simp [beqVs] at h
  | x :: l, y :: m, h => by
    simp only [beqVs, Bool.and_eq_true] at h
    rw [beqV_eq h.1, beqVs_eq h.2]
end
theorem keepB_eq {hb ha : XH} {id : Nat} (h : keepB hb ha id = true) : ha.get id = hb.get id := by
  unfold keepB at h
  split at h
  · rename_i e t cs e' t' cs' h1 h2
    simp only [Bool.and_eq_true] at h
    rw [h1, h2, nbeq h.1.1, nbeq h.1.2, beqVs_eq h.2]
  · cases h
theorem opR_congr {E : XE} {op : Op} {ins : List XV} {h h' : XH} {x : XV} (hr : opR E op ins h = some x) (he : h'.get (idOfX ins) = h.get (idOfX ins)) : opR E op ins h' = some x := by
  unfold opR at hr ⊢
  split at hr
  all_goals first | (simp only [idOfX] at he; rw [he]; exact hr) | cases hr
theorem memN_iff {t : Nat} : ∀ {l : List Nat}, memN t l = true ↔ t ∈ l
  | [] => by simp [memN]
  | x :: l => by
    simp only [memN, Bool.or_eq_true, memN_iff (l := l), List.mem_cons]
    constructor
    · rintro (h | h)
      · exact .inl (nbeq h).symm
      · exact .inr h
    · rintro (h | h)
      · subst h; exact .inl (Nat.beq_refl _)
      · exact .inr h
theorem getX_congr {S S' : List XV} {o : Operand} (h : ∀ t, o = .tmp t → nthX S' t = nthX S t) : getX S' o = getX S o := by
  cases o with
  | tmp t => exact h t rfl
  | _ => rfl
theorem getXs_congr {S S' : List XV} : ∀ (l : List Operand), (∀ t ∈ slotsX l, nthX S' t = nthX S t) → getXs S' l = getXs S l
  | [], _ => rfl
  | o :: l, h => by
    have h1 : getX S' o = getX S o := getX_congr fun t ht => h t (by subst ht; simp [slotsX])
    have h2 : getXs S' l = getXs S l := getXs_congr l fun t ht => h t (by cases o <;> simp [slotsX, ht])
    simp only [getXs, h1, h2]
theorem reads_slots {ops : Array Oper} {o : Oper} {t : Nat} (h : t ∈ slotsX (insX o.op)) : t ∈ readsX ops o := by
  unfold readsX
  split
  · split
    · split
      · exact List.mem_cons_of_mem _ h
      · exact h
    · exact h
  · exact h
theorem wantX_congr {ops : Array Oper} {S S' : List XV} {o : Oper} (h : ∀ t ∈ readsX ops o, nthX S' t = nthX S t) : wantX ops S' o = wantX ops S o := by
  unfold wantX
  cases hg : o.guard with
  | none => rfl
  | some jw =>
    obtain ⟨j, want⟩ := jw
    simp only
    cases hj : ops[j]? with
    | none => rfl
    | some oj =>
      simp only
      cases hd : oj.dst with
      | none => rfl
      | some t =>
        simp only
        rw [h t (by unfold readsX; simp [hg, hj, hd])]
/-- what the operations listed in D have laid, in the text's order -/
def laidS (D : Nat → Bool) : Nat → List XRec → List XV → List XV
  | _, [], S => S
  | i, r :: rs, S => laidS D (i + 1) rs (if D i = true then putD S r.dst r.v else S)
def laidH (D : Nat → Bool) : Nat → List XRec → XH → XH
  | _, [], h => h
  | i, r :: rs, h => laidH D (i + 1) rs (if (D i && r.m.isWr) = true then r.h else h)
theorem laidS_congr {D D' : Nat → Bool} : ∀ (rs : List XRec) (i : Nat) (S : List XV), (∀ j, j < rs.length → D (i + j) = D' (i + j)) → laidS D i rs S = laidS D' i rs S
  | [], _, _, _ => rfl
  | r :: rs, i, S, h => by
    simp only [laidS]
    have h0 := h 0 (by simp)
    rw [Nat.add_zero] at h0
    rw [h0]
    exact laidS_congr rs (i + 1) _ fun j hj => by have := h (j + 1) (by simp; omega); rwa [show i + (j + 1) = i + 1 + j by omega] at this
theorem laidH_congr {D D' : Nat → Bool} : ∀ (rs : List XRec) (i : Nat) (h : XH), (∀ j, j < rs.length → D (i + j) = D' (i + j)) → laidH D i rs h = laidH D' i rs h
  | [], _, _, _ => rfl
  | r :: rs, i, x, h => by
    simp only [laidH]
    have h0 := h 0 (by simp)
    rw [Nat.add_zero] at h0
    rw [h0]
    exact laidH_congr rs (i + 1) _ fun j hj => by have := h (j + 1) (by simp; omega); rwa [show i + (j + 1) = i + 1 + j by omega] at this
theorem laidS_none {D : Nat → Bool} : ∀ (rs : List XRec) (i : Nat) (S : List XV), (∀ j, i ≤ j → D j = false) → laidS D i rs S = S
  | [], _, _, _ => rfl
  | r :: rs, i, S, h => by
    simp only [laidS]
    rw [if_neg (by rw [h i (Nat.le_refl _)]; simp)]
    exact laidS_none rs (i + 1) S fun j hj => h j (by omega)
theorem laidH_none {D : Nat → Bool} : ∀ (rs : List XRec) (i : Nat) (h : XH), (∀ j, i ≤ j → D j = false) → laidH D i rs h = h
  | [], _, _, _ => rfl
  | r :: rs, i, x, h => by
    simp only [laidH]
    rw [if_neg (by rw [h i (Nat.le_refl _)]; simp)]
    exact laidH_none rs (i + 1) x fun j hj => h j (by omega)
theorem laidS_len {D : Nat → Bool} : ∀ (rs : List XRec) (i : Nat) (S : List XV), (laidS D i rs S).length = S.length
  | [], _, _ => rfl
  | r :: rs, i, S => by
    simp only [laidS]
    rw [laidS_len rs]
    split
    · unfold putD; split <;> simp [setX_eq]
    · rfl
theorem nth_putD {S : List XV} {d : Option Nat} {v : Option XV} {t : Nat} (h : d ≠ some t) : nthX (putD S d v) t = nthX S t := by
  rw [nthX_eq, nthX_eq]
  unfold putD
  split
  · rename_i d' v'
    rw [setX_eq, List.getElem?_set, if_neg (fun e => h (by rw [e]))]
  · rename_i d'
    rw [setX_eq, List.getElem?_set, if_neg (fun e => h (by rw [e]))]
  · rfl
/-- the slot t is as all that lays it is listed -/
theorem laidS_get {D D' : Nat → Bool} {t : Nat} : ∀ (rs : List XRec) (i : Nat) {S S' : List XV}, nthX S t = nthX S' t → S.length = S'.length → (∀ j r, rs[j]? = some r → r.dst = some t → D (i + j) = D' (i + j)) →
    nthX (laidS D i rs S) t = nthX (laidS D' i rs S') t
  | [], _, _, _, h, _, _ => h
  | r :: rs, i, S, S', h, hl, hd => by
    simp only [laidS]
    have hlen : ∀ (b : Bool) (S : List XV), (if b = true then putD S r.dst r.v else S).length = S.length := by
      intro b S
      cases b
      · rfl
      · simp only [if_true]; unfold putD; split <;> simp [setX_eq]
    refine laidS_get rs (i + 1) ?_ (by rw [hlen, hlen]; exact hl) fun j u hu hk => by have := hd (j + 1) u (by simpa using hu) hk; rwa [show i + (j + 1) = i + 1 + j by omega] at this
    by_cases hk : r.dst = some t
    · have := hd 0 r rfl hk
      rw [Nat.add_zero] at this
      rw [this]
      split
      · rw [hk]
        unfold putD
        cases r.v <;> simp only [nthX_eq, setX_eq, List.getElem?_set, if_true, hl]
      · exact h
    · have e : ∀ (b : Bool) (x : List XV), nthX (if b = true then putD x r.dst r.v else x) t = nthX x t := by
        intro b x
        cases b
        · rfl
        · exact nth_putD hk
      rw [e, e, h]
/-- the last of those listed that lays the slot t -/
theorem laidS_last {D : Nat → Bool} {t : Nat} {r : XRec} (hr : r.dst = some t) : ∀ (rs : List XRec) (i p : Nat) (S : List XV), rs[p]? = some r → D (i + p) = true → (∀ q u, p < q → rs[q]? = some u → D (i + q) = true → u.dst ≠ some t) →
    nthX (laidS D i rs S) t = nthX (putD S r.dst r.v) t
  | [], _, _, _, h, _, _ => by simp at h
  | u :: rs, i, 0, S, h, hd, hn => by
    simp only [List.getElem?_cons_zero, Option.some.injEq] at h
    subst h
    simp only [laidS]
    rw [if_pos (by simpa using hd)]
    rw [laidS_get (D' := fun _ => false) rs (i + 1) (S' := putD S u.dst u.v) rfl rfl, laidS_none rs (i + 1) _ (fun _ _ => rfl)]
    intro j v hv hk
    cases hD : D (i + 1 + j) with
    | false => rfl
    | true => exact absurd hk (hn (j + 1) v (by omega) (by simpa using hv) (by rw [show i + (j + 1) = i + 1 + j by omega]; exact hD))
  | u :: rs, i, p + 1, S, h, hd, hn => by
    simp only [laidS]
    have hlen : ((if D i = true then putD S u.dst u.v else S)).length = S.length := by
      split
      · unfold putD; split <;> simp [setX_eq]
      · rfl
    rw [laidS_last hr rs (i + 1) p _ (by simpa using h) (by rw [show i + 1 + p = i + (p + 1) by omega]; exact hd) fun q v hq hv hD => hn (q + 1) v (by omega) (by simpa using hv) (by rw [show i + (q + 1) = i + 1 + q by omega]; exact hD)]
    rw [hr]
    generalize (if D i = true then putD S u.dst u.v else S) = S2 at *
    unfold putD
    cases r.v <;> simp only [nthX_eq, setX_eq, List.getElem?_set, if_true, hlen]
theorem nth_putD_self {S S' : List XV} {t : Nat} {v : Option XV} (h : S.length = S'.length) : nthX (putD S (some t) v) t = nthX (putD S' (some t) v) t := by
  unfold putD
  cases v <;> simp only [nthX_eq, setX_eq, List.getElem?_set, if_true, h]
theorem laidH_wr {D D' : Nat → Bool} : ∀ (rs : List XRec) (i : Nat) (x : XH), (∀ j r, rs[j]? = some r → r.m.isWr = true → D (i + j) = D' (i + j)) → laidH D i rs x = laidH D' i rs x
  | [], _, _, _ => rfl
  | r :: rs, i, x, h => by
    simp only [laidH]
    have e : (D i && r.m.isWr) = (D' i && r.m.isWr) := by
      cases hm : r.m.isWr with
      | false => simp
      | true => have := h 0 r rfl hm; rw [Nat.add_zero] at this; rw [this]
    rw [e]
    exact laidH_wr rs (i + 1) _ fun j u hu hm => by have := h (j + 1) u (by simpa using hu) hm; rwa [show i + (j + 1) = i + 1 + j by omega] at this
/-- the heap behind the first n operations -/
abbrev TH (rs : List XRec) (h : XH) (n : Nat) : XH := laidH (fun j => decide (j < n)) 0 rs h
theorem laidH_step : ∀ (rs : List XRec) (k n : Nat) (h : XH) (r : XRec), rs[n]? = some r →
    laidH (fun j => decide (j < k + n + 1)) k rs h = if r.m.isWr = true then r.h else laidH (fun j => decide (j < k + n)) k rs h
  | [], _, _, _, _, hr => by simp at hr
  | u :: rs, k, 0, h, r, hr => by
    simp only [List.getElem?_cons_zero, Option.some.injEq] at hr
    subst hr
    simp only [laidH, Nat.add_zero]
    rw [laidH_none rs (k + 1) _ (fun j hj => by simp; omega), laidH_none rs (k + 1) _ (fun j hj => by simp; omega)]
    simp
  | u :: rs, k, n + 1, h, r, hr => by
    simp only [laidH]
    have := laidH_step rs (k + 1) n (if (decide (k < k + (n + 1) + 1) && u.m.isWr) = true then u.h else h) r (by simpa using hr)
    rw [show k + 1 + n + 1 = k + (n + 1) + 1 by omega, show k + 1 + n = k + (n + 1) by omega] at this
    rw [this]
    have e : decide (k < k + (n + 1) + 1) = decide (k < k + (n + 1)) := by simp; omega
    rw [e]
theorem TH_step {rs : List XRec} {h : XH} {n : Nat} {r : XRec} (hr : rs[n]? = some r) : TH rs h (n + 1) = if r.m.isWr = true then r.h else TH rs h n := by
  have := laidH_step rs 0 n h r hr
  rwa [show 0 + n + 1 = n + 1 by omega, show 0 + n = n by omega] at this
/-- what is listed of those that change blocks is the first so many -/
theorem wr_prefix {D : Nat → Bool} {rs : List XRec} (hc : ∀ j k r u, j < k → rs[j]? = some r → rs[k]? = some u → r.m.isWr = true → u.m.isWr = true → D k = true → D j = true) :
    ∃ n, n ≤ rs.length ∧ ∀ j r, rs[j]? = some r → r.m.isWr = true → D j = decide (j < n) := by
  have key : ∀ k, k ≤ rs.length → (∀ j r, k ≤ j → rs[j]? = some r → r.m.isWr = true → D j = false) → ∃ n, n ≤ rs.length ∧ ∀ j r, rs[j]? = some r → r.m.isWr = true → D j = decide (j < n) := by
    intro k
    induction k with
    | zero => intro _ h; exact ⟨0, Nat.zero_le _, fun j r hj hm => by simpa using h j r (Nat.zero_le _) hj hm⟩
    | succ k ih =>
      intro hk h
      have hr : rs[k]? = some (rs[k]'(by omega)) := List.getElem?_eq_getElem (by omega)
      by_cases hb : (rs[k]'(by omega)).m.isWr = true ∧ D k = true
      · refine ⟨k + 1, hk, fun j r hj hm => ?_⟩
        rcases Nat.lt_trichotomy j k with hlt | rfl | hlt
        · rw [hc j k r _ hlt hj hr hm hb.1 hb.2]; simp; omega
        · rw [hb.2]; simp
        · rw [h j r (by omega) hj hm]; simp; omega
      · refine ih (by omega) fun j r hj hrj hm => ?_
        rcases Nat.eq_or_lt_of_le hj with rfl | hlt
        · rw [hr] at hrj
          cases hrj
          cases hD : D k with
          | false => rfl
          | true => exact absurd ⟨hm, hD⟩ hb
        · exact h j r hlt hrj hm
  exact key rs.length (Nat.le_refl _) fun j r hj hr _ => by
    have := (List.getElem?_eq_some_iff.1 hr).1
    omega
theorem TH_keep {rs : List XRec} {h : XH} {id : Nat} : ∀ (d n : Nat), (∀ j r, n ≤ j → j < n + d → rs[j]? = some r → r.m.isWr = true → r.h.get id = (TH rs h j).get id) → n + d ≤ rs.length → (TH rs h (n + d)).get id = (TH rs h n).get id
  | 0, n, _, _ => rfl
  | d + 1, n, hk, hl => by
    have ih := TH_keep (rs := rs) (h := h) (id := id) d n (fun j r h1 h2 => hk j r h1 (by omega)) (by omega)
    have hr : rs[n + d]? = some (rs[n + d]'(by omega)) := List.getElem?_eq_getElem (by omega)
    rw [show n + (d + 1) = n + d + 1 by omega, TH_step hr]
    split
    · rename_i hm
      rw [hk (n + d) _ (by omega) (by omega) hr hm, ih]
    · exact ih
/-- what an operation has done, at the slots S and the blocks h -/
def DoneX (E : XE) (ev : Bool → Run) (ops : Array Oper) (o : Oper) (S : List XV) (h : XH) (r : XRec) : Prop :=
  r.dst = o.dst ∧ r.hb = h ∧ ((wantX ops S o = some true ∧ ∃ ins, getXs S (insX o.op) = some ins ∧ opX E ev o.op ins h = some (r.v, r.h, r.m)) ∨ (wantX ops S o = some false ∧ r.v = none ∧ r.m = .no ∧ r.h = h))
theorem opsX_inv {E : XE} {ev : Bool → Run} {ops : Array Oper} : ∀ (l : List Oper) (S : List XV) (h : XH) (S' : List XV) (h' : XH) (rs : List XRec), opsX E ev ops l S h = some (S', h', rs) →
    rs.length = l.length ∧ S' = laidS (fun _ => true) 0 rs S ∧ h' = laidH (fun _ => true) 0 rs h ∧ ∀ (k i : Nat) (o : Oper) (r : XRec), l[i]? = some o → rs[i]? = some r → DoneX E ev ops o (laidS (fun j => decide (j < k + i)) k rs S) (laidH (fun j => decide (j < k + i)) k rs h) r
  | [], S, h, S', h', rs, ho => by
    simp only [opsX, Option.some.injEq, Prod.mk.injEq] at ho
    obtain ⟨rfl, rfl, rfl⟩ := ho
    exact ⟨rfl, rfl, rfl, by simp⟩
  | o :: l, S, h, S', h', rs, ho => by
    have main : ∀ (r : XRec) (S2 : List XV) (h2 : XH) (l2 : List XRec), DoneX E ev ops o S h r → opsX E ev ops l (putD S r.dst r.v) (if r.m.isWr = true then r.h else h) = some (S2, h2, l2) →
        (r :: l2).length = (o :: l).length ∧ S2 = laidS (fun _ => true) 0 (r :: l2) S ∧ h2 = laidH (fun _ => true) 0 (r :: l2) h ∧
        ∀ (k i : Nat) (o' : Oper) (r' : XRec), (o :: l)[i]? = some o' → (r :: l2)[i]? = some r' → DoneX E ev ops o' (laidS (fun j => decide (j < k + i)) k (r :: l2) S) (laidH (fun j => decide (j < k + i)) k (r :: l2) h) r' := by
      intro r S2 h2 l2 hd hrec
      obtain ⟨e1, e2, e3, e4⟩ := opsX_inv l _ _ _ _ _ hrec
      have anyS : ∀ (rs : List XRec) (i j : Nat) (S : List XV), laidS (fun _ => true) i rs S = laidS (fun _ => true) j rs S := by
        intro rs
        induction rs with
        | nil => intro i j S; rfl
        | cons u rs ih => intro i j S; simp only [laidS]; exact ih _ _ _
      have anyH : ∀ (rs : List XRec) (i j : Nat) (h : XH), laidH (fun _ => true) i rs h = laidH (fun _ => true) j rs h := by
        intro rs
        induction rs with
        | nil => intro i j S; rfl
        | cons u rs ih => intro i j S; simp only [laidH]; exact ih _ _ _
      refine ⟨by simp [e1], ?_, ?_, ?_⟩
      · simp only [laidS, if_true]; rw [e2]; exact anyS _ _ _ _
      · simp only [laidH, Bool.true_and]; rw [e3]; exact anyH _ _ _ _
      · intro k i o' r' ho' hr'
        cases i with
        | zero =>
          simp only [List.getElem?_cons_zero, Option.some.injEq] at ho' hr'
          subst ho' hr'
          simp only [laidS, laidH]
          rw [laidS_none _ _ _ (fun j hj => by simp; omega), laidH_none _ _ _ (fun j hj => by simp; omega)]
          simpa using hd
        | succ i =>
          have := e4 (k + 1) i o' r' (by simpa using ho') (by simpa using hr')
          rw [show k + 1 + i = k + (i + 1) by omega] at this
          simp only [laidS, laidH]
          rw [if_pos (by simp)]
          have e : (decide (k < k + (i + 1)) && r.m.isWr) = r.m.isWr := by simp
          rw [e]
          exact this
    unfold opsX at ho
    split at ho
    · rename_i hw
      split at ho
      · rename_i ins hins
        split at ho
        · rename_i v h1 m hop
          split at ho
          · rename_i S2 h2 l2 hrec
            cases ho
            refine main ⟨o.dst, v, m, h, h1⟩ _ _ _ ⟨rfl, rfl, .inl ⟨hw, ins, hins, hop⟩⟩ ?_
            have e : (if m.isWr = true then h1 else h) = h1 := by
              rcases opX_cases hop with ⟨rfl, rfl, _⟩ | ⟨rfl, rfl, _⟩ | ⟨rfl, _⟩ <;> rfl
            simp only [e]
            exact hrec
          · cases ho
        · cases ho
      · cases ho
    · rename_i hw
      split at ho
      · rename_i S2 h2 l2 hrec
        cases ho
        exact main ⟨o.dst, none, .no, h, h⟩ _ _ _ ⟨rfl, rfl, .inr ⟨hw, rfl, rfl, rfl⟩⟩ hrec
      · cases ho
    · cases ho
end Go.Proofs.YtocpmekblkfdiaaGreatDoor
namespace Go.Proofs.YtocpmekblkfdiaaGreatDoor
open Go.RowKit
set_option linter.unusedSimpArgs false
theorem okOneX_get {ops : Array Oper} {i : Nat} {oi : Oper} {ri : XRec} : ∀ (os : List Oper) (rs : List XRec) (k j : Nat) (oj : Oper) (rj : XRec), okOneX ops i oi ri k os rs = true → os[j]? = some oj → rs[j]? = some rj → okPairX ops i (k + j) oi oj ri rj = true
  | [], _, _, _, _, _, _, ho, _ => by simp at ho
  | _ :: _, [], _, _, _, _, _, _, hr => by simp at hr
  | o :: os, r :: rs, k, j, oj, rj, h, ho, hr => by
    simp only [okOneX, Bool.and_eq_true] at h
    cases j with
    | zero =>
      simp only [List.getElem?_cons_zero, Option.some.injEq] at ho hr
      subst ho hr
      exact h.1
    | succ j => rw [show k + (j + 1) = k + 1 + j by omega]; exact okOneX_get os rs (k + 1) j oj rj h.2 (by simpa using ho) (by simpa using hr)
theorem okAllX_get {ops : Array Oper} : ∀ (os : List Oper) (rs : List XRec) (k i j : Nat) (oi oj : Oper) (ri rj : XRec), okAllX ops k os rs = true → i < j → os[i]? = some oi → rs[i]? = some ri → os[j]? = some oj → rs[j]? = some rj →
    okPairX ops (k + i) (k + j) oi oj ri rj = true
  | [], _, _, _, _, _, _, _, _, _, _, ho, _, _, _ => by simp at ho
  | _ :: _, [], _, _, _, _, _, _, _, _, _, _, hr, _, _ => by simp at hr
  | o :: os, r :: rs, k, i, j, oi, oj, ri, rj, h, hij, ho, hr, ho', hr' => by
    simp only [okAllX, Bool.and_eq_true] at h
    obtain ⟨j, rfl⟩ : ∃ j', j = j' + 1 := ⟨j - 1, by omega⟩
    cases i with
    | zero =>
      simp only [List.getElem?_cons_zero, Option.some.injEq] at ho hr
      subst ho hr
      have := okOneX_get os rs (k + 1) j oj rj h.1 (by simpa using ho') (by simpa using hr')
      rwa [show k + 1 + j = k + (j + 1) by omega] at this
    | succ i =>
      have := okAllX_get os rs (k + 1) i j oi oj ri rj h.2 (by omega) (by simpa using ho) (by simpa using hr) (by simpa using ho') (by simpa using hr')
      rwa [show k + 1 + i = k + (i + 1) by omega, show k + 1 + j = k + (j + 1) by omega] at this
theorem okPairX_spec {ops : Array Oper} {i j : Nat} {oi oj : Oper} {ri rj : XRec} (h : okPairX ops i j oi oj ri rj = true) :
    pathB ops.toList ops.size i j = true ∨ ((∀ t, ri.dst = some t → t ∉ readsX ops oj ∧ rj.dst ≠ some t) ∧ (∀ t, rj.dst = some t → t ∉ readsX ops oi) ∧ okHeapX ri rj = true) := by
  unfold okPairX at h
  simp only [Bool.or_eq_true, Bool.and_eq_true, Bool.not_eq_true'] at h
  rcases h with h | ⟨⟨⟨h1, h2⟩, h3⟩, h4⟩
  · exact .inl h
  · refine .inr ⟨fun t ht => ?_, fun t ht hm => ?_, h4⟩
    · rw [ht] at h1 h2
      refine ⟨fun hm => ?_, fun he => ?_⟩
      · rw [dstIn, memN_iff.2 hm] at h1; cases h1
      · rw [he] at h2; simp [dstEq] at h2
    · rw [ht, dstIn, memN_iff.2 hm] at h3; cases h3
section
variable {P : Program} {E : XE} {μ : Int} {w0 : World} {ev : Bool → Run} {g : Gx} {a : Act} {w w' : World} {ro : Option Nat} {h h' : XH}
/-- one operation, at slots and blocks that are as they were where it looks -/
theorem done_run (C : XC P E μ w0) (hc : CallXOk P E μ w0 ev) {ops : Array Oper} {o : Oper} {S S1 : List XV} {h1 : XH} {r : XRec} (hd : DoneX E ev ops o S h r) (hS : ∀ t ∈ readsX ops o, nthX S1 t = nthX S t) (hh : (r.m = .no) ∨ (∃ id, r.m = .rd id ∧ h1.get id = h.get id) ∨ h1 = h)
    (hm : g.μ = μ) (H : HR w0 h1 g w) (hR : All2 (fun x v => XV.R (ownX h1 g) h1.K g w x v) S1 a.tmps.toList) (Q : Exit → Act → World → Prop) (K : Act → World → Prop)
    (hk : ∀ a' w' g', a'.defers = a.defers → HR w0 (if r.m.isWr = true then r.h else h1) g' w' → Mv (ownX h1 g) h1.K g w (ownX (if r.m.isWr = true then r.h else h1) g') (if r.m.isWr = true then r.h else h1).K g' w' →
      All2 (fun x v => XV.R (ownX (if r.m.isWr = true then r.h else h1) g') (if r.m.isWr = true then r.h else h1).K g' w' x v) (putD S1 r.dst r.v) a'.tmps.toList → K a' w') :
    if Region.wanted o (yielded ops a.tmps) then o.wpIn (Wd ro) 0 P a w K Q else (∀ f, o.about P w a.eval = some f → (Wd ro).fn f) ∧ K (a.put o.dst undef) w := by
  have hE : XEOk P E g.μ := by rw [hm]; exact C.ok
  obtain ⟨d1, d2, d3⟩ := hd
  rcases d3 with ⟨hw, ins, hins, hop⟩ | ⟨hw, hv, hmn, hrh⟩
  · have hw1 : wantX ops S1 o = some true := by rw [wantX_congr hS]; exact hw
    rw [if_pos (want_x hR hw1)]
    have hins1 : getXs S1 (insX o.op) = some ins := by rw [getXs_congr _ fun t ht => hS t (reads_slots ht)]; exact hins
    have hi := getXs_R hR _ _ hins1
    have fin : ∀ {h2 : XH}, (if r.m.isWr = true then r.h else h1) = h2 → GiX P ro a w o (WR w0 h1 g w r.v h2) → o.wpIn (Wd ro) 0 P a w K Q := by
      intro h2 e hgi
      subst e
      refine hgi K Q fun v w' hwr => ?_
      obtain ⟨g', H', m', hRv⟩ := hwr
      exact hk _ w' g' (put_defers _ _) H' m' (by rw [d1]; exact put_R (hR.mv m') hRv)
    rcases opX_cases hop with ⟨e1, e2, x, e3, e4⟩ | ⟨e1, e2, x, e3, e4, e5⟩ | ⟨e1, e2⟩
    · refine fin (h2 := h1) (by rw [e1]; rfl) ?_
      rw [e3]
      exact (opP_sound hE H.own_lt (C.cell H hm) hi e4).mono fun v w' hp => hp.wr H
    · refine fin (h2 := h1) (by rw [e1]; rfl) ?_
      rw [e3]
      have hget : h1.get (idOfX ins) = h.get (idOfX ins) := by
        rcases hh with hh | ⟨id, hh, hg⟩ | hh
        · rw [hh] at e1; cases e1
        · rw [hh] at e1
          cases e1
          exact hg
        · rw [hh]
      exact (opR_sound hE H hi (opR_congr e5 hget)).mono fun v w' hp => hp.wr H
    · have hh1 : h1 = h := by
        rcases hh with hh | ⟨id, hh, hg⟩ | hh
        · rw [hh] at e1; cases e1
        · rw [hh] at e1; cases e1
        · exact hh
      subst hh1
      refine fin (h2 := r.h) (by rw [e1]; rfl) ?_
      exact opX_sound C hc hm H hi hop
  · have hw1 : wantX ops S1 o = some false := by rw [wantX_congr hS]; exact hw
    rw [if_neg (by rw [want_x hR hw1]; simp)]
    have e : (if r.m.isWr = true then r.h else h1) = h1 := by rw [hmn]; rfl
    rw [e] at hk
    refine ⟨fun f _ => wd_all f, hk _ w g (put_defers _ _) H (Mv.refl _ _ _ _) ?_⟩
    rw [d1, hv]
    exact put_R hR (by simp only [Option.getD_none, XV.R, XVs.R]; exact ⟨[], rfl, rfl⟩)
theorem draw_x (C : XC P E μ w0) (hc : CallXOk P E μ w0 ev) {ops : Array Oper} {rs : List XRec} {Q : Exit → Act → World → Prop} {S : List XV} {hs : XH} {a0 : Act} {g0 : Gx} {ws : World} (hok : okDrawX ops rs = true) (hlen : rs.length = ops.size)
    (hD : ∀ i o r, ops[i]? = some o → rs[i]? = some r → DoneX E ev ops o (laidS (fun j => decide (j < i)) 0 rs S) (TH rs hs i) r)
    (hk : ∀ a' w' g', a'.defers = a0.defers → HR w0 (laidH (fun _ => true) 0 rs hs) g' w' → Mv (ownX hs g0) hs.K g0 ws (ownX (laidH (fun _ => true) 0 rs hs) g') (laidH (fun _ => true) 0 rs hs).K g' w' →
      All2 (fun x v => XV.R (ownX (laidH (fun _ => true) 0 rs hs) g') (laidH (fun _ => true) 0 rs hs).K g' w' x v) (laidS (fun _ => true) 0 rs S) a'.tmps.toList → Q .normal a' w') :
    ∀ (fuel : Nat) (listed : Array Bool) (a : Act) (w : World) (g : Gx), listed.size = ops.size → Closed ops listed → listed.toList.count false ≤ fuel → g.μ = μ → a.defers = a0.defers →
      HR w0 (laidH (fun j => listed.getD j false) 0 rs hs) g w → Mv (ownX hs g0) hs.K g0 ws (ownX (laidH (fun j => listed.getD j false) 0 rs hs) g) (laidH (fun j => listed.getD j false) 0 rs hs).K g w →
      All2 (fun x v => XV.R (ownX (laidH (fun j => listed.getD j false) 0 rs hs) g) (laidH (fun j => listed.getD j false) 0 rs hs).K g w x v) (laidS (fun j => listed.getD j false) 0 rs S) a.tmps.toList → wpAnyIn (Wd ro) 0 P .any ops Q fuel listed a w := by
  unfold okDrawX at hok
  obtain ⟨hcl, hpairs⟩ := and_true hok
  have hpair : ∀ i j oi oj ri rj, i < j → ops[i]? = some oi → rs[i]? = some ri → ops[j]? = some oj → rs[j]? = some rj → pathB ops.toList ops.size i j = true ∨ ((∀ t, ri.dst = some t → t ∉ readsX ops oj ∧ rj.dst ≠ some t) ∧ (∀ t, rj.dst = some t → t ∉ readsX ops oi) ∧ okHeapX ri rj = true) := by
    intro i j oi oj ri rj hij h1 h2 h3 h4
    have := okAllX_get ops.toList rs 0 i j oi oj ri rj hpairs hij (by simpa using h1) h2 (by simpa using h3) h4
    rw [Nat.zero_add, Nat.zero_add] at this
    exact okPairX_spec this
  have hopr : ∀ j r, rs[j]? = some r → ∃ o, ops[j]? = some o := fun j r hj => by
    have := (List.getElem?_eq_some_iff.1 hj).1
    exact ⟨_, Array.getElem?_eq_getElem (by omega)⟩
  have hend : ∀ (listed : Array Bool) (a : Act) (w : World) (g : Gx), listed.size = ops.size → Region.ready .any ops listed = [] → a.defers = a0.defers →
      HR w0 (laidH (fun j => listed.getD j false) 0 rs hs) g w → Mv (ownX hs g0) hs.K g0 ws (ownX (laidH (fun j => listed.getD j false) 0 rs hs) g) (laidH (fun j => listed.getD j false) 0 rs hs).K g w →
      All2 (fun x v => XV.R (ownX (laidH (fun j => listed.getD j false) 0 rs hs) g) (laidH (fun j => listed.getD j false) 0 rs hs).K g w x v) (laidS (fun j => listed.getD j false) 0 rs S) a.tmps.toList → Q .normal a w := by
    intro listed a w g hsz hr hdf H m hR
    have hall := all_listed hcl hsz hr
    rw [laidH_congr (D' := fun _ => true) rs 0 hs (fun j hj => by simpa using hall j (by omega))] at H m hR
    rw [laidS_congr (D' := fun _ => true) rs 0 S (fun j hj => by simpa using hall j (by omega))] at hR
    exact hk a w g hdf H m hR
  intro fuel
  induction fuel with
  | zero =>
    intro listed a w g hsz hcd hcount hm hdf H m hR
    have hr : Region.ready .any ops listed = [] := by
      rw [List.eq_nil_iff_forall_not_mem]
      intro i hi
      obtain ⟨o, ho, h1, _⟩ := ready_mem.1 hi
      have hlt : i < listed.size := by rw [hsz]; exact (Array.getElem?_eq_some_iff.1 ho).1
      have : false ∈ listed.toList := by
        rw [Array.getD_eq_getD_getElem?, Array.getElem?_eq_getElem hlt] at h1
        simp only [Option.getD_some] at h1
        rw [← h1]; simp
      have := List.count_pos_iff.2 this
      omega
    exact ⟨hr, hend listed a w g hsz hr hdf H m hR⟩
  | succ fuel ih =>
    intro listed a w g hsz hcd hcount hm hdf H m hR
    refine ⟨fun hr => hend listed a w g hsz hr hdf H m hR, fun i hi => ?_⟩
    obtain ⟨o, ho, hnl, hafter⟩ := ready_mem.1 hi
    have hlt : i < ops.size := (Array.getElem?_eq_some_iff.1 ho).1
    have hnl' : listed.getD i false = false := by rw [getD_lt_bool (d' := true) (by omega)]; exact hnl
    obtain ⟨r, hr⟩ : ∃ r, rs[i]? = some r := ⟨_, List.getElem?_eq_getElem (by omega)⟩
    have hsl : ops.toList.length = ops.size := by simp
    have hpre : ∀ j, pathB ops.toList ops.size j i = true → listed.getD j false = true := fun j hj => path_listed hcd _ j i o ho hafter hj
    have hpost : ∀ j, listed.getD j false = true → ¬ pathB ops.toList ops.size i j = true := by
      intro j hj hmm
      have hjlt : j < ops.size := by
        rcases Nat.lt_or_ge j ops.size with h | h
        · exact h
        · rw [Array.getD_eq_getD_getElem?, Array.getElem?_eq_none (by omega)] at hj; cases hj
      have := path_listed hcd _ i j _ (Array.getElem?_eq_getElem hjlt) (hcd j _ (Array.getElem?_eq_getElem hjlt) hj) hmm
      rw [this] at hnl'; cases hnl'
    have hdone := hD i o r ho hr
    -- the slots that it looks at
    have hslots : ∀ t ∈ readsX ops o, nthX (laidS (fun j => listed.getD j false) 0 rs S) t = nthX (laidS (fun j => decide (j < i)) 0 rs S) t := by
      intro t ht
      refine laidS_get rs 0 rfl rfl fun j u hu hdst => ?_
      simp only [Nat.zero_add]
      obtain ⟨oj, hoj⟩ := hopr j u hu
      rcases Nat.lt_trichotomy j i with hlt' | rfl | hlt'
      · rcases hpair j i oj o u r hlt' hoj hu ho hr with h1 | h1
        · rw [hpre j h1]; simp [hlt']
        · exact absurd ht (h1.1 t hdst).1
      · rw [hnl']; simp
      · rcases hpair i j o oj r u hlt' ho hr hoj hu with h1 | h1
        · have : listed.getD j false = false := by
            cases hl : listed.getD j false with
            | false => rfl
            | true => exact absurd h1 (hpost j hl)
          rw [this]; simp; omega
        · exact absurd ht (h1.2.1 t hdst)
    -- those that change blocks stand in a row
    have hwrpath : ∀ j k u v, j < k → rs[j]? = some u → rs[k]? = some v → u.m.isWr = true → v.m.isWr = true → pathB ops.toList ops.size j k = true := by
      intro j k u v hjk hu hv hmu hmv
      obtain ⟨oj, hoj⟩ := hopr j u hu
      obtain ⟨ok, hok⟩ := hopr k v hv
      rcases hpair j k oj ok u v hjk hoj hu hok hv with h1 | h1
      · exact h1
      · exfalso
        have := h1.2.2
        unfold okHeapX at this
        cases hu' : u.m <;> rw [hu'] at hmu <;> first | cases hmu | skip
        cases hv' : v.m <;> rw [hv'] at hmv <;> first | cases hmv | skip
        rw [hu', hv'] at this
        cases this
    have hheap : r.m = .no ∨ (∃ id, r.m = .rd id ∧ (laidH (fun j => listed.getD j false) 0 rs hs).get id = (TH rs hs i).get id) ∨ laidH (fun j => listed.getD j false) 0 rs hs = TH rs hs i := by
      cases hrm : r.m with
      | no => exact .inl rfl
      | wr =>
        refine .inr (.inr (laidH_wr rs 0 hs fun j u hu hmu => ?_))
        simp only [Nat.zero_add]
        rcases Nat.lt_trichotomy j i with hlt' | rfl | hlt'
        · rw [hpre j (hwrpath j i u r hlt' hu hr hmu (by rw [hrm]; rfl))]; simp [hlt']
        · rw [hnl']; simp
        · have hp := hwrpath i j r u hlt' hr hu (by rw [hrm]; rfl) hmu
          have : listed.getD j false = false := by
            cases hl : listed.getD j false with
            | false => rfl
            | true => exact absurd hp (hpost j hl)
          rw [this]; simp; omega
      | rd id =>
        refine .inr (.inl ⟨id, rfl, ?_⟩)
        obtain ⟨n, hn, hpf⟩ := wr_prefix (D := fun j => listed.getD j false) (rs := rs) (fun j k u v hjk hu hv hmu hmv hk => by
          have hp := hwrpath j k u v hjk hu hv hmu hmv
          obtain ⟨ok, hok⟩ := hopr k v hv
          exact path_listed hcd _ j k ok hok (hcd k ok hok hk) hp)
        have e1 : laidH (fun j => listed.getD j false) 0 rs hs = TH rs hs n := laidH_wr rs 0 hs fun j u hu hmu => by simpa using hpf j u hu hmu
        rw [e1]
        have hkeep : ∀ j u, rs[j]? = some u → u.m.isWr = true → (j < i ∧ n ≤ j ∨ i ≤ j ∧ j < n) → u.h.get id = (TH rs hs j).get id := by
          intro j u hu hmu hcase
          obtain ⟨oj, hoj⟩ := hopr j u hu
          have hhb : u.hb = TH rs hs j := (hD j oj u hoj hu).2.1
          have hlist := hpf j u hu hmu
          have hum : u.m = .wr := by cases hu' : u.m <;> rw [hu'] at hmu <;> first | cases hmu | rfl
          rcases hcase with ⟨hji, hnj⟩ | ⟨hij, hjn⟩
          · rcases hpair j i oj o u r hji hoj hu ho hr with h1 | h1
            · have h2 := hpre j h1
              rw [h2] at hlist
              simp at hlist
              omega
            · have := h1.2.2
              unfold okHeapX at this
              rw [hum, hrm] at this
              have := keepB_eq this
              rw [this, hhb]
          · rcases Nat.eq_or_lt_of_le hij with rfl | hij
            · rw [hr] at hu; cases hu; rw [hrm] at hmu; cases hmu
            · rcases hpair i j o oj r u hij ho hr hoj hu with h1 | h1
              · have h2 : listed.getD j false = true := by rw [hlist]; simpa using hjn
                exact absurd h1 (hpost j h2)
              · have := h1.2.2
                unfold okHeapX at this
                rw [hum, hrm] at this
                have := keepB_eq this
                rw [this, hhb]
        rcases Nat.le_total n i with hni | hni
        · obtain ⟨d, rfl⟩ : ∃ d, i = n + d := ⟨i - n, by omega⟩
          exact (TH_keep d n (fun j u h1 h2 hu hmu => hkeep j u hu hmu (.inl ⟨h2, h1⟩)) (by omega)).symm
        · obtain ⟨d, rfl⟩ : ∃ d, n = i + d := ⟨n - i, by omega⟩
          exact TH_keep d i (fun j u h1 h2 hu hmu => hkeep j u hu hmu (.inr ⟨h1, h2⟩)) hn
    have hgi : ∀ j, (listed.setIfInBounds i true).getD j false = if j = i then true else listed.getD j false := by
      intro j
      simp only [Array.getD_eq_getD_getElem?, Array.getElem?_setIfInBounds]
      by_cases h : i = j
      · subst h; simp [show i < listed.size by omega]
      · rw [if_neg h, if_neg (fun e => h e.symm)]
    have hcD : ∀ j k u v, j < k → rs[j]? = some u → rs[k]? = some v → u.m.isWr = true → v.m.isWr = true → listed.getD k false = true → listed.getD j false = true := by
      intro j k u v hjk hu hv hmu hmv hk
      have hp := hwrpath j k u v hjk hu hv hmu hmv
      obtain ⟨ok, hok⟩ := hopr k v hv
      exact path_listed hcd _ j k ok hok (hcd k ok hok hk) hp
    -- the blocks behind it
    have hnewH : (if r.m.isWr = true then r.h else laidH (fun j => listed.getD j false) 0 rs hs) = laidH (fun j => (listed.setIfInBounds i true).getD j false) 0 rs hs := by
      by_cases hrm : r.m.isWr = true
      · rw [if_pos hrm]
        have e1 : laidH (fun j => (listed.setIfInBounds i true).getD j false) 0 rs hs = TH rs hs (i + 1) := laidH_wr rs 0 hs fun j u hu hmu => by
          simp only [Nat.zero_add, hgi]
          rcases Nat.lt_trichotomy j i with hlt' | rfl | hlt'
          · rw [if_neg (by omega), hpre j (hwrpath j i u r hlt' hu hr hmu hrm)]; simp; omega
          · simp
          · have hp := hwrpath i j r u hlt' hr hu hrm hmu
            have : listed.getD j false = false := by
              cases hl : listed.getD j false with
              | false => rfl
              | true => exact absurd hp (hpost j hl)
            rw [if_neg (by omega), this]; simp; omega
        rw [e1, TH_step hr, if_pos hrm]
      · rw [if_neg hrm]
        refine laidH_wr rs 0 hs fun j u hu hmu => ?_
        simp only [Nat.zero_add, hgi]
        rw [if_neg]
        rintro rfl
        rw [hr] at hu
        cases hu
        exact hrm hmu
    have hnewS : putD (laidS (fun j => listed.getD j false) 0 rs S) r.dst r.v = laidS (fun j => (listed.setIfInBounds i true).getD j false) 0 rs S := by
      apply List.ext_getElem?
      intro t
      rw [← nthX_eq, ← nthX_eq]
      by_cases ht : r.dst = some t
      · rw [laidS_last ht rs 0 i S hr (by simp [hgi]) (fun q u hq hu hqD hdst => ?_)]
        · rw [ht]; exact nth_putD_self (laidS_len rs 0 S)
        · simp only [Nat.zero_add, hgi] at hqD
          rw [if_neg (by omega)] at hqD
          obtain ⟨oq, hoq⟩ := hopr q u hu
          rcases hpair i q o oq r u hq ho hr hoq hu with h1 | h1
          · exact hpost q hqD h1
          · exact (h1.1 t ht).2 hdst
      · rw [nth_putD ht]
        refine laidS_get rs 0 rfl rfl fun j u hu hdst => ?_
        simp only [Nat.zero_add, hgi]
        rw [if_neg]
        rintro rfl
        rw [hr] at hu
        cases hu
        exact ht hdst
    have hstep := done_run (ro := ro) C hc hdone hslots hheap hm H hR Q (wpAnyIn (Wd ro) 0 P .any ops Q fuel (listed.setIfInBounds i true)) (fun a' w' g' hdf' H' m' hR' => ?_)
    · unfold wpOpIn
      rw [ho]
      exact hstep
    · rw [hnewH] at H' m' hR'
      rw [hnewS] at hR'
      refine ih (listed.setIfInBounds i true) a' w' g' (by simp [hsz]) ?_ ?_ (by rw [m'.mu, hm]) (by rw [hdf', hdf]) H' (m.trans m') hR'
      · intro j o' ho' hj e he hb
        rw [hgi] at hj ⊢
        split
        · rfl
        · split at hj
          · rename_i hji; subst hji; rw [ho] at ho'; cases ho'; exact hafter e he hb
          · exact hcd j o' ho' hj e he hb
      · have hl : listed.toList[i]? = some false := by
          rw [Array.getD_eq_getD_getElem?, Array.getElem?_eq_getElem (by omega)] at hnl'
          simp only [Option.getD_some] at hnl'
          rw [Array.getElem?_toList, Array.getElem?_eq_getElem (by omega), hnl']
        have := count_set hl
        simp only [Array.toList_setIfInBounds]
        omega
end
end Go.Proofs.YtocpmekblkfdiaaGreatDoor
namespace Go.Proofs.YtocpmekblkfdiaaGreatDoor
open Go.RowKit
set_option linter.unusedSimpArgs false
section rules
variable {P : Program} {F : Fence} {n : Nat} {Q : Exit → Act → World → Prop} {a : Act} {w : World} {b : Frame} {k : List Item} {cs : List Frame}
/-- a loop's body, and what comes behind it -/
def BodyIn (F : Fence) (n : Nat) (P : Program) (c : Code) (Q : Exit → Act → World → Prop) (a : Act) (w : World) : Prop :=
  ∀ (b : Frame) (k : List Item) (cs : List Frame), b.roundOf = F.round → F.fn b.fn → F.room (cs.length + 1 + n) →
    ∃ e a' w', Q e a' w' ∧ ArrivesIn (Machine.fenced P F) P (lone (b.atR a (.code c :: .inLoop c :: k)) cs w) b k cs e a' w'
theorem bodyIn_round {c : Code} (h : c.wpIn F n P (Exit.then (BodyIn F n P c Q) Q) a w) : BodyIn F n P c Q a w := by
  intro b k cs hro hb hr
  obtain ⟨e, a₁, w₁, hq, harr⟩ := h b (.inLoop c :: k) cs hro hb hr
  cases e with
  | normal =>
    obtain ⟨e₂, a₂, w₂, hq₂, harr₂⟩ := hq b k cs hro hb hr
    exact ⟨e₂, a₂, w₂, hq₂, .of_steps (StepsIn.trans harr (.one (fenced_calm hb hr rfl) stepR_inLoop)) harr₂⟩
  | exit id => exact ⟨_, a₁, w₁, hq, .pass (x := .inLoop c) rfl (fun _ _ => .inl (by simp)) harr⟩
  | goto l => exact ⟨_, a₁, w₁, hq, .pass (x := .inLoop c) rfl (fun _ _ => .inl (by simp)) harr⟩
  | ret => exact ⟨_, a₁, w₁, hq, .pass (x := .inLoop c) rfl (fun _ _ => .inl (by simp)) harr⟩
  | panic ch => exact ⟨_, a₁, w₁, hq, .pass (x := .inLoop c) rfl (fun _ _ => .inl (by simp)) harr⟩
  | outgrown => exact ⟨_, a₁, w₁, hq, .pass (x := .inLoop c) rfl (fun _ _ => .inl (by simp)) harr⟩
theorem wpIn_loop_body {c : Code} (h : BodyIn F n P c Q a w) : (Code.loop c).wpIn F n P Q a w := by
  intro b k cs hro hb hr
  obtain ⟨e, a', w', hq, harr⟩ := h b k cs hro hb hr
  exact ⟨e, a', w', hq, .of_steps (.one (fenced_calm hb hr rfl) stepR_loop) harr⟩
theorem stepR_scope {c : Code} : step P (lone (b.atR a (.code (.scope c) :: k)) cs w) = .next (lone (b.atR a (.code c :: .inScope c :: k)) cs w) :=
  step_lone_go (by simp [stepG, stepG.exec, Frame.atR])
theorem stepR_inScope {c : Code} : step P (lone (b.atR a (.inScope c :: k)) cs w) = .next (lone (b.atR a k) cs w) :=
  step_lone_go (by simp [stepG, stepG.exec, Frame.atR])
/-- the code d in the scope c -/
def ScopeIn (F : Fence) (n : Nat) (P : Program) (c d : Code) (Q : Exit → Act → World → Prop) (a : Act) (w : World) : Prop :=
  ∀ (b : Frame) (k : List Item) (cs : List Frame), b.roundOf = F.round → F.fn b.fn → F.room (cs.length + 1 + n) →
    ∃ e a' w', Q e a' w' ∧ ArrivesIn (Machine.fenced P F) P (lone (b.atR a (.code d :: .inScope c :: k)) cs w) b k cs e a' w'
def ScopeQ (F : Fence) (n : Nat) (P : Program) (c : Code) (Q : Exit → Act → World → Prop) : Exit → Act → World → Prop
  | .goto l, a, w => ∃ rest, findLabel c l = some rest ∧ ScopeIn F n P c rest Q a w
  | e, a, w => Q e a w
theorem scopeIn_of {c d : Code} (h : d.wpIn F n P (ScopeQ F n P c Q) a w) : ScopeIn F n P c d Q a w := by
  intro b k cs hro hb hr
  obtain ⟨e, a₁, w₁, hq, harr⟩ := h b (.inScope c :: k) cs hro hb hr
  cases e with
  | normal => exact ⟨.normal, a₁, w₁, hq, StepsIn.trans harr (.one (fenced_calm hb hr rfl) stepR_inScope)⟩
  | exit id => exact ⟨.exit id, a₁, w₁, hq, fun k' hk => harr.1 k' (by simp [exitTo, hk]), fun h1 hk => harr.2 h1 (by simp [exitTo, hk])⟩
  | goto l =>
    obtain ⟨rest, hf, hs⟩ := hq
    obtain ⟨e₂, a₂, w₂, hq₂, harr₂⟩ := hs b k cs hro hb hr
    exact ⟨e₂, a₂, w₂, hq₂, .of_steps (harr.1 _ (by simp [gotoIn, hf])) harr₂⟩
  | ret => exact ⟨.ret, a₁, w₁, hq, harr⟩
  | panic ch => exact ⟨.panic ch, a₁, w₁, hq, harr⟩
  | outgrown => exact ⟨.outgrown, a₁, w₁, hq, harr⟩
theorem wpIn_scope_of {c : Code} (h : ScopeIn F n P c c Q a w) : (Code.scope c).wpIn F n P Q a w := by
  intro b k cs hro hb hr
  obtain ⟨e, a', w', hq, harr⟩ := h b k cs hro hb hr
  exact ⟨e, a', w', hq, .of_steps (.one (fenced_calm hb hr rfl) stepR_scope) harr⟩
end rules
def XEx.toExit : XEx → Exit
  | .normal => .normal
  | .ret => .ret
  | .exit id => .exit id
  | .goto l => .goto l
def markX (g : Gx) (id : Nat) : Deferred := { target := .collected (g.σ id), args := #[] }
/-- an activation is as the frame says -/
structure FR (h : XH) (g : Gx) (w : World) (F : XF) (a : Act) : Prop where
  tm : All2 (fun x v => XV.R (ownX h g) h.K g w x v) F.S a.tmps.toList
  df : a.defers = F.dm.map (markX g)
  dk : ∀ id ∈ F.dm, h.K id = true
/-- what a run's end says -/
def PX (w0 : World) (h : XH) (g : Gx) (w : World) (ex : XEx) (F' : XF) (h' : XH) (e : Exit) (a' : Act) (w' : World) : Prop :=
  e = ex.toExit ∧ ∃ g', HR w0 h' g' w' ∧ Mv (ownX h g) h.K g w (ownX h' g') h'.K g' w' ∧ FR h' g' w' F' a'
def EvOk (P : Program) (μ : Int) (w0 : World) (ev : Run) (rd : Bool) : Prop :=
  ∀ (c : Code) (F : XF) (h : XH) (ex : XEx) (F' : XF) (h' : XH), ev c F h = some (ex, F', h') → ∀ (ro : Option Nat) (a : Act) (w : World) (g : Gx), (rd = false → ro = none) → g.μ = μ → HR w0 h g w → FR h g w F a →
    c.wpIn (Wd ro) 0 P (PX w0 h g w ex F' h') a w
def LoopOk (P : Program) (μ : Int) (w0 : World) (ev : Run) (rd : Bool) : Prop :=
  ∀ (c : Code) (F : XF) (h : XH) (ex : XEx) (F' : XF) (h' : XH), ev (.loop c) F h = some (ex, F', h') → ∀ (ro : Option Nat) (a : Act) (w : World) (g : Gx), (rd = false → ro = none) → g.μ = μ → HR w0 h g w → FR h g w F a →
    BodyIn (Wd ro) 0 P c (PX w0 h g w ex F' h') a w
section
variable {P : Program} {E : XE} {μ : Int} {w0 : World} {g g' : Gx} {a : Act} {w w' : World} {ro : Option Nat} {h h' : XH} {F : XF}
theorem FR.mv (m : Mv (ownX h g) h.K g w (ownX h' g') h'.K g' w') (f : FR h g w F a) : FR h' g' w' F a :=
  ⟨f.tm.mv m, by rw [f.df]; exact List.map_congr_left fun id hid => by unfold markX; rw [(m.kn id (f.dk id hid)).2.1], fun id hid => (m.kn id (f.dk id hid)).1⟩
theorem PX.mv {ex : XEx} {F' : XF} {h2 : XH} {e : Exit} {a' : Act} {w2 : World} (m : Mv (ownX h g) h.K g w (ownX h' g') h'.K g' w') (hp : PX w0 h' g' w' ex F' h2 e a' w2) : PX w0 h g w ex F' h2 e a' w2 := by
  obtain ⟨e1, g2, H2, m2, f2⟩ := hp
  exact ⟨e1, g2, H2, m.trans m2, f2⟩
theorem all2_rep {R : XV → Value → Prop} {x : XV} {v : Value} (hr : R x v) : ∀ n, All2 R (List.replicate n x) (List.replicate n v)
  | 0 => .nil
  | n + 1 => .cons hr (all2_rep hr n)
theorem same_putObj (k : Nat) (o : Obj) (w : World) : SameBut k w (w.putObj k o) := ⟨rfl, rfl, rfl, by simp [World.putObj], fun i hi => by simp [World.putObj, Array.getElem?_setIfInBounds, Ne.symm hi]⟩
theorem end_x (C : XC P E μ w0) (hm : g.μ = μ) (H : HR w0 h g w) (f : FR h g w F a) {fn : Func} {v : XV} (he : endX E fn F h = some (v, h')) {R : Ending → World → Prop}
    (hR : ∀ u w', WR w0 h g w (some v) h' u w' → R (.returned u) w') : LeavesInM (Wd none) 0 P fn a.tmps R a.defers .returning w := by
  have hE : XEOk P E g.μ := by rw [hm]; exact C.ok
  unfold endX at he
  split at he
  · rename_i h1 hk
    split at he
    · rename_i x hx
      cases he
      unfold killAll at hk
      split at hk
      · rename_i hdm
        cases hk
        rw [f.df, hdm]
        obtain ⟨u, e1, e2⟩ := resX_run (P := P) hE H f.tm hx
        exact ⟨u, e1, hR u w ⟨g, H, Mv.refl _ _ _ _, e2⟩⟩
      · rename_i _ id hdm
        split at hk
        · rename_i hg
          cases hk
          rw [f.df, hdm]
          have hb : w.heap[g.σ id]? = some (.deferred (some [])) := H.blk _ _ hg
          obtain ⟨H2, m2⟩ := H.kill hg rfl (same_putObj (g.σ id) (.deferred none) w)
          obtain ⟨u, e1, e2⟩ := resX_run (P := P) (a := a) hE H2 (f.tm.mv m2) hx
          exact ⟨by simp, .inl ⟨g.σ id, _, rfl, run_takeDeferred hb, u, e1, hR u _ ⟨g, H2, m2, e2⟩⟩⟩
        · cases hk
      · cases hk
    · cases he
  · cases he
theorem body_sound (C : XC P E μ w0) {ev : Run} (hev : EvOk P μ w0 ev false) {f : Nat} {args : List XV} {v : XV} {vs : List Value} (hm : g.μ = μ) (H : HR w0 h g w) (hi : All2 (fun x v => XV.R (ownX h g) h.K g w x v) args vs) (hb : bodyX E ev f args h = some (v, h')) :
    CallsIn (Wd none) 0 P f vs.toArray w fun e w' => ∃ u, e = .returned u ∧ WR w0 h g w (some v) h' u w' := by
  unfold bodyX at hb
  split at hb
  · rename_i fn hfn
    split at hb
    · rename_i c hc
      obtain ⟨hf, _⟩ := C.ok.fn _ _ hfn
      refine callsIn_of_wp_marks hf hc trivial ?_ rfl
      have F0 : FR h g w ⟨args ++ List.replicate (fn.ntmps - args.length) (.t []), []⟩ { tmps := vs.toArray ++ Array.replicate (fn.ntmps - vs.toArray.size) undef, defers := [] } := by
        refine ⟨?_, rfl, by simp⟩
        have := hi.append (all2_rep (x := .t []) (v := undef) (R := fun x v => XV.R (ownX h g) h.K g w x v) (XV.R.t_all2.2 ⟨[], rfl, .nil⟩) (fn.ntmps - args.length))
        simpa [hi.len] using this
      have fin : ∀ {ex : XEx} {F' : XF} {h1 : XH}, (ex = .normal ∨ ex = .ret) → ev c ⟨args ++ List.replicate (fn.ntmps - args.length) (.t []), []⟩ h = some (ex, F', h1) → endX E fn F' h1 = some (v, h') →
          c.wpIn (Wd none) 0 P (bodyPostM (Wd none) 0 P fn fun e w' => ∃ u, e = .returned u ∧ WR w0 h g w (some v) h' u w') { tmps := vs.toArray ++ Array.replicate (fn.ntmps - vs.toArray.size) undef, defers := [] } w := by
        intro ex F' h1 hex hrun hend
        refine wpIn_mono (hev c _ h ex F' h1 hrun none _ w g (fun _ => rfl) hm H F0) fun e a' w' hp => ?_
        obtain ⟨e1, g', H', m', f'⟩ := hp
        have key : LeavesInM (Wd none) 0 P fn a'.tmps (fun e w' => ∃ u, e = .returned u ∧ WR w0 h g w (some v) h' u w') a'.defers .returning w' :=
          end_x C (by rw [m'.mu, hm]) H' f' hend fun u w2 ⟨g2, H2, m2, r2⟩ => ⟨u, rfl, g2, H2, m'.trans m2, r2⟩
        rcases hex with rfl | rfl <;> (subst e1; exact key)
      split at hb
      · rename_i F' h1 hrun; exact fin (.inl rfl) hrun hb
      · rename_i F' h1 hrun; exact fin (.inr rfl) hrun hb
      · cases hb
    · cases hb
  · cases hb
end
end Go.Proofs.YtocpmekblkfdiaaGreatDoor
namespace Go.Proofs.YtocpmekblkfdiaaGreatDoor
open Go.RowKit
set_option linter.unusedSimpArgs false
section
variable {P : Program} {E : XE} {μ : Int} {w0 : World} {g g' : Gx} {a : Act} {w w' : World} {ro : Option Nat} {h h' : XH} {F : XF}
theorem setAll_all2 {R : XV → Value → Prop} : ∀ (ts : List Nat) (xs : List XV) (us : List Value) (S : List XV) (vs : List Value), All2 R S vs → All2 R xs us → ts.length = xs.length →
    ∃ vs' : List Value, (ts.zip us).foldl (fun tmps (x : Nat × Value) => tmps.setIfInBounds x.1 x.2) vs.toArray = vs'.toArray ∧ All2 R (setAll S ts xs) vs'
  | [], [], _, S, vs, hS, hx, _ => by cases hx; exact ⟨vs, rfl, by simpa [setAll] using hS⟩
  | [], _ :: _, _, _, _, _, _, hl => by simp at hl
  | _ :: _, [], _, _, _, _, _, hl => by simp at hl
  | t :: ts, x :: xs, us, S, vs, hS, hx, hl => by
    cases hx with
    | cons h1 h2 =>
      simp only [List.zip_cons_cons, List.foldl_cons, setAll, setX_eq, List.setIfInBounds_toArray]
      exact setAll_all2 ts xs _ _ _ (hS.set h1 t) h2 (by simpa using hl)
theorem zip_fold (ps : Array Nat) (us : List Value) (vs : Array Value) : (ps.zip us.toArray).foldl (fun tmps (x : Nat × Value) => tmps.setIfInBounds x.1 x.2) vs = (ps.toList.zip us).foldl (fun tmps (x : Nat × Value) => tmps.setIfInBounds x.1 x.2) vs := by
  rw [← Array.foldl_toList]
  simp
theorem round_sound {ev : Run} (hev : EvOk P μ w0 ev true) {o : Oper} {id : Nat} {args : List XV} {v : XV} {vs : List Value} (hm : g.μ = μ) (H : HR w0 h g w) (hnd : ∀ c, o.op ≠ .defer c)
    (hi : All2 (fun x v => XV.R (ownX h g) h.K g w x v) args vs) (hex : ∀ r, (Instr.yield (g.σ id) vs.toArray).run P w = r → (execOp a.eval o).run P w = r) (hb : roundX ev id args h = some (v, h')) : GiX P ro a w o (WR w0 h g w (some v) h') := by
  unfold roundX at hb
  split at hb
  · rename_i tmps ps asg bd hg
    have hbl := (bif_some hb).1
    replace hb := (bif_some hb).2
    have hlen := nbeq hbl
    split at hb
    · rename_i S1 h1 hrun1
      split at hb
      · rename_i tmps' ps' as' bd' hg1
        split at hb
        · rename_i F2 h2 hrun2
          split at hb
          · rename_i tmps2 ps2 as2 bd2 hg2
            cases hb
            obtain ⟨fn, D, tv, b1, b2⟩ := H.blk _ _ hg
            have hyd := run_yield (P := P) (args := vs.toArray) b1 (by have := hi.len; simp; omega)
            have hrun := hex _ hyd
            simp only at hrun
            obtain ⟨vs', e1, e2⟩ := setAll_all2 ps.toList args vs tmps tv b2 hi (by simpa using hlen.symm)
            have e3 : (ps.zip vs.toArray).foldl (fun tmps (x : Nat × Value) => match x with | (t, a) => tmps.setIfInBounds t a) tv.toArray = vs'.toArray := by
              rw [← e1, ← zip_fold]
            rw [e3] at hrun
            intro K Q hk
            refine ⟨fun f _ => wd_all f, ?_⟩
            rw [Oper.semAt_eq _ _ _ hnd, hrun]
            refine ⟨fun h => (by cases h), RoundIn.mono (R := fun e w' => ∃ u, e = .returned u ∧ WR w0 h g w (some (.b true)) (h2.put id (.lp tmps2 ps2 as2 bd2 false)) u w') ?_ fun e w' ⟨u, he, hw⟩ => by subst he; exact hk u w' hw⟩
            refine roundIn_of_wpIn trivial ?_
            have F0 : FR h g w ⟨setAll tmps ps.toList args, []⟩ { tmps := vs'.toArray, defers := [] } := ⟨e2, rfl, by simp⟩
            refine wpIn_mono (hev asg _ h _ _ _ hrun1 (some (g.σ id)) _ w g (fun h => (by cases h)) hm H F0) fun e a1 w1 hp => ?_
            obtain ⟨rfl, g1, H1, m1, f1⟩ := hp
            obtain ⟨fn1, D1, tv1, c1, c2⟩ := H1.blk _ _ hg1
            have hk1 : g1.σ id = g.σ id := (m1.kn id (H.K_of hg)).2.1
            have hbeg := run_beginRound (P := P) c1 rfl
            rw [hk1] at hbeg c1
            refine ⟨_, hbeg, ?_⟩
            have hs1 := same_putObj (g1.σ id) (.loop { state := .busy, pending := none, fn := fn1, tmps := tv1.toArray, params := ps', assign := as', body := bd', defers := D1 }) w1
            have hlt1 := (H1.old id _ hg1 rfl).2
            obtain ⟨H2, m2⟩ := H1.setB (blk := .lp tmps' ps' as' bd' true) hg1 rfl rfl hs1 ⟨fn1, D1, tv1, by rw [World.putObj_heap_same hlt1]; rfl, c2.mv (mv_set hg1 rfl hs1)⟩
            rw [hk1] at H2 m2
            have f2 := f1.mv m2
            have ha1 : a1.defers = [] := by rw [f1.df]; rfl
            refine wpIn_mono (hev bd _ _ _ _ _ hrun2 (some (g.σ id)) a1 _ g1 (fun h => (by cases h)) (by rw [m1.mu, hm]) H2 f2) fun e a2 w2 hp => ?_
            obtain ⟨rfl, g2, H3, m3, f3⟩ := hp
            obtain ⟨fn2, D2, tv2, d1, d2⟩ := H3.blk _ _ hg2
            have hK2 : (h1.put id (.lp tmps' ps' as' bd' true)).K id = true := by rw [K_put]; exact H1.K_of hg1
            have hk2 : g2.σ id = g.σ id := ((m3.kn id hK2).2.1).trans hk1
            have hend := run_endRound (P := P) none d1
            rw [hk2] at hend
            have hs3 := same_putObj (g2.σ id) (.loop { state := .ready, pending := none, fn := fn2, tmps := tv2.toArray, params := ps2, assign := as2, body := bd2, defers := D2 }) w2
            have hlt3 := (H3.old id _ hg2 rfl).2
            obtain ⟨H4, m4⟩ := H3.setB (blk := .lp tmps2 ps2 as2 bd2 false) hg2 rfl rfl hs3 ⟨fn2, D2, tv2, by rw [World.putObj_heap_same hlt3]; rfl, d2.mv (mv_set hg2 rfl hs3)⟩
            rw [hk2] at H4 m4
            exact ⟨.bool true, _, hend, .bool true, rfl, g2, H4, ((m1.trans m2).trans m3).trans m4, rbool⟩
          · cases hb
        · cases hb
      · cases hb
    · cases hb
  · cases hb
theorem call_ok (C : XC P E μ w0) {ev : Bool → Run} (h0 : EvOk P μ w0 (ev false) false) (h1 : EvOk P μ w0 (ev true) true) : CallXOk P E μ w0 ev := by
  intro o ins h v h' a w g ro hm H hi hc
  have fin : ∀ {f : Nat} {args : List XV} {vs : List Value}, (∀ c, o.op ≠ .defer c) → All2 (fun x v => XV.R (ownX h g) h.K g w x v) args vs → (execOp a.eval o).run P w = .ok (.enter f vs.toArray) w → bodyX E (ev false) f args h = some (v, h') →
      GiX P ro a w o (WR w0 h g w (some v) h') := by
    intro f args vs hnd hargs hrun hb
    have hcall := body_sound C h0 hm H hargs hb
    refine gi_enter hnd hrun ?_
    cases ro with
    | none => exact hcall
    | some l => exact CallsIn.inRound l hcall
  have hfn : ∀ {f : Nat} {args : List XV}, bodyX E (ev false) f args h = some (v, h') → ∀ (vs : Array Value), (callFunc f vs).run P w = .ok (.enter f vs) w := by
    intro f args hb vs
    unfold bodyX at hb
    split at hb
    · rename_i fn hfn; exact (C.ok.fn _ _ hfn).2 vs w
    · cases hb
  unfold callX at hc
  split at hc
  · rename_i f args ts ho
    rw [ho] at hi
    have hargs : args.map a.eval = (args.toList.map a.eval).toArray := by apply Array.ext'; simp
    refine fin (by simp [ho]) hi ?_ hc
    simp only [execOp, ho, resolve, hargs, Act.eval, Deferred.ofValue, Sem.run_bind, Sem.run_pure, Result.andThen, invoke]
    have := hfn hc (args.toList.map a.eval).toArray
    simp [this, insX]
  · rename_i t args ts f cs xs ho
    rw [ho] at hi
    have hargs : args.map a.eval = (args.toList.map a.eval).toArray := by apply Array.ext'; simp
    cases hi with
    | @cons _ fv _ vs hf hxs =>
      obtain ⟨us, e1, hus⟩ := XV.R.f_all2.1 hf
      refine fin (by simp [ho]) (hxs.append hus) ?_ hc
      simp only [execOp, ho, resolve, hargs, e1, Deferred.ofValue, Sem.run_bind, Sem.run_pure, Result.andThen, invoke]
      have := hfn hc (args.toList.map a.eval ++ us).toArray
      simp at this ⊢
      simp [this]
  · rename_i t args ts id xs ho
    rw [ho] at hi
    have hargs : args.map a.eval = (args.toList.map a.eval).toArray := by apply Array.ext'; simp
    cases hi with
    | @cons _ fv _ vs hf hxs =>
      have hf' := hf
      simp only [XV.R] at hf'
      refine round_sound h1 hm H (by simp [ho]) hxs (fun r hr => ?_) hc
      simp only [execOp, ho, resolve, hargs, hf'.2, Deferred.ofValue, Sem.run_bind, Sem.run_pure, Result.andThen, invoke]
      simpa using hr
  · cases hc
theorem range_sound (C : XC P E μ w0) {ev : Run} (hev : EvOk P μ w0 ev false) {x : Operand} {ps : Array Tmp} {asg bd : Code} {f : Nat} {cs : List XV} {r : XV} {h1 : XH} {tm' : List XV} {ps' : Array Tmp} {as' bd' : Code} (hm : g.μ = μ) (H : HR w0 h g w) (F0 : FR h g w F a)
    (hx : getX F.S x = some (.f f cs)) (hb : bodyX E ev f (.y (h.n + 1) :: cs) ((h.new .df).new (.lp F.S ps asg bd false)) = some (r, h1)) (hg : h1.get (h.n + 1) = some (.lp tm' ps' as' bd' false)) :
    (Code.rangeFunc x ps asg bd).wpIn (Wd none) 0 P (PX w0 h g w .normal ⟨F.S, h.n :: F.dm⟩ (h1.put (h.n + 1) .dead)) a w := by
  refine wpIn_rangeFunc fun fn _ => ?_
  obtain ⟨vs, e1, hvs⟩ := XV.R.f_all2.1 (getX_R (a := a) F0.tm hx)
  -- the two blocks that are laid
  have m1 := mv_new H (below_alloc (.deferred (some []))) (Nat.le_refl _) 0 .df
  have H1 := H.newB (below_alloc (.deferred (some []))) (Nat.le_refl _) (by simp) 0 .df (by show _ = _; simp only [upd_self]; exact heap_alloc_new w _)
  have f1 := F0.mv m1
  let lo : Obj := .loop { state := .ready, pending := none, fn := fn, tmps := a.tmps, params := ps, assign := asg, body := bd, defers := w.heap.size }
  have hsz : (w.alloc (.deferred (some []))).heap.size = w.heap.size + 1 := by simp
  have m2 := mv_new H1 (below_alloc lo) (Nat.le_refl _) 0 (.lp F.S ps asg bd false)
  have H2 := H1.newB (below_alloc lo) (Nat.le_refl _) (by simp) 0 (.lp F.S ps asg bd false) ⟨fn, w.heap.size, a.tmps.toList, by simp only [upd_self]; exact heap_alloc_new _ _, f1.tm.mv m2⟩
  have m12 := m1.trans m2
  have hn1 : (h.new .df).n = h.n + 1 := rfl
  have hvs2 := hvs.mv m12
  refine ⟨w.heap.size + 1, [{ target := .collected w.heap.size, args := #[] }], (w.alloc (.deferred (some []))).alloc lo, { target := .fn (.func f) vs.toArray, args := #[.func (.yield (w.heap.size + 1)) #[] #[]] }, (w.alloc (.deferred (some []))).alloc lo, f,
    (Value.func (.yield (w.heap.size + 1)) #[] #[] :: vs).toArray, (w.alloc (.deferred (some []))).alloc lo, run_enterLoop_outer fn a.tmps ps asg bd, ?_, fun f' _ => wd_all f', ?_, fun h => (by cases h), ?_⟩
  · show Sem.run P (Deferred.ofValue (a.eval x) _) _ = _
    rw [e1]
    simp [Deferred.ofValue]
    rfl
  · have hcall : ∀ (args : Array Value) (w : World), (callFunc f args).run P w = .ok (.enter f args) w := by
      unfold bodyX at hb
      split at hb
      · rename_i fn' hfn; exact (C.ok.fn _ _ hfn).2
      · cases hb
    simp [invoke, hcall]
  · refine CallsIn.mono (body_sound C hev (by rw [m12.mu, hm]) H2 (.cons ?_ hvs2) hb) fun e w3 ⟨u, he, g3, H3, m3, _⟩ => ?_
    · simp only [XV.R]
      refine ⟨K_new_self _ _, ?_⟩
      rw [hn1, upd_self, hsz]
    · subst he
      have hK : ((h.new .df).new (.lp F.S ps asg bd false)).K (h.n + 1) = true := K_new_self _ _
      have hk3 : g3.σ (h.n + 1) = w.heap.size + 1 := by
        rw [(m3.kn _ hK).2.1]
        show upd (upd g.σ h.n w.heap.size) (h.n + 1) (w.alloc (.deferred (some []))).heap.size (h.n + 1) = _
        rw [upd_self, hsz]
      obtain ⟨fn3, D3, tv3, b1, b2⟩ := H3.blk _ _ hg
      rw [hk3] at b1
      have hend := run_endLoop (P := P) b1 (by simp)
      refine ⟨none, _, hend, rfl, ?_⟩
      have hs := same_putObj (g3.σ (h.n + 1)) (.loop { state := .exhausted, pending := none, fn := fn3, tmps := tv3.toArray, params := ps', assign := as', body := bd', defers := D3 }) w3
      obtain ⟨H4, m4⟩ := H3.kill hg rfl hs
      rw [hk3] at H4 m4
      have mall := (m12.trans m3).trans m4
      refine ⟨g3, H4, mall, (F0.mv mall).tm, ?_, fun id hid => ?_⟩
      · have hKd : ((h.new .df).new (.lp F.S ps asg bd false)).K h.n = true := by rw [XH.K_new, XH.K_new]; simp
        have hkd : g3.σ h.n = w.heap.size := by
          rw [(m3.kn _ hKd).2.1]
          show upd (upd g.σ h.n w.heap.size) (h.n + 1) (w.alloc (.deferred (some []))).heap.size h.n = _
          rw [upd_ne _ _ (by omega), upd_self]
        have := (F0.mv mall).df
        simp only [List.map_cons, markX, hkd, this]
        rfl
      · rcases List.mem_cons.1 hid with rfl | hid
        · refine (m4.kn _ ((m3.kn _ ?_).1)).1
          rw [XH.K_new, XH.K_new]; simp
        · exact (F0.mv mall).dk id hid
theorem ScopeIn.mono {n : Nat} {Fe : Fence} {c d : Code} {Q Q' : Exit → Act → World → Prop} (hs : ScopeIn Fe n P c d Q a w) (hq : ∀ e a w, Q e a w → Q' e a w) : ScopeIn Fe n P c d Q' a w :=
  fun b k cs hro hb hr => let ⟨e, a', w', q, r⟩ := hs b k cs hro hb hr; ⟨e, a', w', hq _ _ _ q, r⟩
theorem BodyIn.mono {n : Nat} {Fe : Fence} {c : Code} {Q Q' : Exit → Act → World → Prop} (hs : BodyIn Fe n P c Q a w) (hq : ∀ e a w, Q e a w → Q' e a w) : BodyIn Fe n P c Q' a w :=
  fun b k cs hro hb hr => let ⟨e, a', w', q, r⟩ := hs b k cs hro hb hr; ⟨e, a', w', hq _ _ _ q, r⟩
theorem jump_sound {ev : Run} {rd : Bool} (hev : EvOk P μ w0 ev rd) (hr : rd = false → ro = none) : ∀ (n : Nat) (c d : Code) (F : XF) (h : XH) (r : XEx × XF × XH) (ex : XEx) (F' : XF) (h' : XH) (a : Act) (w : World) (g : Gx), ev d F h = some r → jumpX ev c n r = some (ex, F', h') →
    g.μ = μ → HR w0 h g w → FR h g w F a → ScopeIn (Wd ro) 0 P c d (PX w0 h g w ex F' h') a w
  | 0, _, _, _, _, _, _, _, _, _, _, _, _, hj, _, _, _ => by simp [jumpX] at hj
  | n + 1, c, d, F, h, (ex1, F1, h1), ex, F', h', a, w, g, he, hj, hm, H, f => by
    refine scopeIn_of (wpIn_mono (hev d F h ex1 F1 h1 he ro a w g hr hm H f) fun e a1 w1 hp => ?_)
    have fin : (∀ l, ex1 ≠ .goto l) → ScopeQ (Wd ro) 0 P c (PX w0 h g w ex F' h') e a1 w1 := by
      intro hne
      have hj2 : some (ex1, F1, h1) = some (ex, F', h') := by
        rw [← hj]
        cases ex1 <;> first | rfl | exact absurd rfl (hne _)
      cases hj2
      have := hp.1
      subst this
      cases ex1 <;> first | exact hp | exact absurd rfl (hne _)
    cases ex1 with
    | goto l =>
      simp only [jumpX] at hj
      split at hj
      · rename_i rest hfl
        split at hj
        · rename_i r2 hr2
          obtain ⟨he1, g1, H1, m1, f1⟩ := hp
          subst he1
          exact ⟨rest, hfl, ScopeIn.mono (jump_sound hev hr n c rest F1 h1 r2 ex F' h' a1 w1 g1 hr2 hj (by rw [m1.mu, hm]) H1 f1) fun e a w hp => hp.mv m1⟩
        · cases hj
      · cases hj
    | normal => exact fin (by simp)
    | ret => exact fin (by simp)
    | exit id => exact fin (by simp)
theorem region_sound (C : XC P E μ w0) {ev : Bool → Run} (h0 : EvOk P μ w0 (ev false) false) (h1 : EvOk P μ w0 (ev true) true) {id : Nat} {ops : Array Oper} {d : Bool} {S' : List XV} {rs : List XRec} (hm : g.μ = μ) (H : HR w0 h g w) (f : FR h g w F a)
    (ho : opsX E ev ops ops.toList F.S h = some (S', h', rs)) (hd : d = true → okDrawX ops rs = true) : (Code.region id ops d).wpIn (Wd ro) 0 P (PX w0 h g w .normal ⟨S', F.dm⟩ h') a w := by
  have hc := call_ok C h0 h1
  have hk : ∀ (w1 : World), Mv (ownX h g) h.K g w (ownX h g) h.K g w1 → ∀ a' w' g', a'.defers = a.defers → HR w0 h' g' w' → Mv (ownX h g) h.K g w1 (ownX h' g') h'.K g' w' → All2 (fun x v => XV.R (ownX h' g') h'.K g' w' x v) S' a'.tmps.toList →
      PX w0 h g w .normal ⟨S', F.dm⟩ h' .normal a' w' := by
    intro w1 m0 a' w' g' hdf H' m hR
    have mm := m0.trans m
    refine ⟨rfl, g', H', mm, hR, ?_, (f.mv mm).dk⟩
    rw [hdf]; exact (f.mv mm).df
  cases d with
  | false => exact wpIn_region_list (opsX_sound C hc _ _ _ _ _ _ _ _ _ hm H f.tm ho (hk w (Mv.refl _ _ _ _)))
  | true =>
    refine wpIn_region_any C.mixed ?_
    have hb : Below w.heap.size w { w with drawn := w.drawn + 1 } := (Below.refl _ w).drew
    obtain ⟨H1, m1⟩ := H.grow hb
    obtain ⟨e1, e2, e3, e4⟩ := opsX_inv _ _ _ _ _ _ ho
    have hfalse : ∀ j, (Array.replicate ops.size false).getD j false = false := fun j => by
      rw [Array.getD_eq_getD_getElem?, Array.getElem?_replicate]; split <;> rfl
    have l1 : laidS (fun j => (Array.replicate ops.size false).getD j false) 0 rs F.S = F.S := laidS_none _ _ _ fun j _ => hfalse j
    have l2 : laidH (fun j => (Array.replicate ops.size false).getD j false) 0 rs h = h := laidH_none _ _ _ fun j _ => hfalse j
    refine draw_x (S := F.S) (hs := h) (a0 := a) (g0 := g) C hc (hd rfl) (by rw [e1]; simp) (fun i o r hi hr => ?_) (by rw [← e2, ← e3]; exact hk _ m1) ops.size _ a _ g (by simp) ?_ (by simp) hm rfl ?_ ?_ ?_
    · have := e4 0 i o r (by simpa using hi) hr
      simp only [Nat.zero_add] at this
      exact this
    · intro j o _ hj
      rw [hfalse] at hj
      cases hj
    · rw [l2]; exact H1
    · rw [l2]; exact Mv.refl _ _ _ _
    · rw [l1, l2]; exact (f.mv m1).tm
theorem evalX_sound (C : XC P E μ w0) : ∀ (k : Nat) (rd : Bool), EvOk P μ w0 (evalX E k rd) rd ∧ LoopOk P μ w0 (evalX E k rd) rd
  | 0, _ => ⟨fun c F h ex F' h' he => by simp [evalX] at he, fun c F h ex F' h' he => by simp [evalX] at he⟩
  | k + 1, rd => by
    have ih := evalX_sound C k
    obtain ⟨ie, il⟩ := ih rd
    have hloop : LoopOk P μ w0 (evalX E (k + 1) rd) rd := by
      intro c F h ex F' h' he ro a w g hr hm H f
      simp only [evalX] at he
      split at he
      · rename_i F1 h1 he1
        refine bodyIn_round (wpIn_mono (ie c F h _ _ _ he1 ro a w g hr hm H f) fun e a1 w1 hp => ?_)
        obtain ⟨rfl, g1, H1, m1, f1⟩ := hp
        exact BodyIn.mono (il c F1 h1 ex F' h' he ro a1 w1 g1 hr (by rw [m1.mu, hm]) H1 f1) fun e a w hp => hp.mv m1
      · rename_i hne
        refine bodyIn_round (wpIn_mono (ie c F h _ _ _ he ro a w g hr hm H f) fun e a1 w1 hp => ?_)
        obtain ⟨rfl, hp⟩ := hp
        cases ex with
        | normal => exact absurd he (hne _ _)
        | _ => exact ⟨rfl, hp⟩
    refine ⟨?_, hloop⟩
    intro c F h ex F' h' he ro a w g hr hm H f
    cases c with
    | skip => simp only [evalX] at he; cases he; exact wpIn_skip ⟨rfl, g, H, Mv.refl _ _ _ _, f⟩
    | label l => simp only [evalX] at he; cases he; exact wpIn_label ⟨rfl, g, H, Mv.refl _ _ _ _, f⟩
    | ret => simp only [evalX] at he; cases he; exact wpIn_ret ⟨rfl, g, H, Mv.refl _ _ _ _, f⟩
    | exit id => simp only [evalX] at he; cases he; exact wpIn_exit ⟨rfl, g, H, Mv.refl _ _ _ _, f⟩
    | goto l => simp only [evalX] at he; cases he; exact wpIn_goto ⟨rfl, g, H, Mv.refl _ _ _ _, f⟩
    | seq x y =>
      simp only [evalX] at he
      split at he
      · rename_i F1 h1 he1
        refine wpIn_seq (wpIn_mono (ie x F h _ _ _ he1 ro a w g hr hm H f) fun e a1 w1 hp => ?_)
        obtain ⟨rfl, g1, H1, m1, f1⟩ := hp
        exact wpIn_mono (ie y F1 h1 _ _ _ he ro a1 w1 g1 hr (by rw [m1.mu, hm]) H1 f1) fun e a w hp => hp.mv m1
      · rename_i hne
        refine wpIn_seq (wpIn_mono (ie x F h _ _ _ he ro a w g hr hm H f) fun e a1 w1 hp => ?_)
        obtain ⟨rfl, hp⟩ := hp
        cases ex with
        | normal => exact absurd he (hne _ _)
        | _ => exact ⟨rfl, hp⟩
    | cond x y z =>
      simp only [evalX] at he
      split at he
      · rename_i hx
        have := getX_R (a := a) f.tm hx
        exact wpIn_cond_true (xbool this) (ie y F h _ _ _ he ro a w g hr hm H f)
      · rename_i hx
        have := getX_R (a := a) f.tm hx
        exact wpIn_cond_false (xbool this) (ie z F h _ _ _ he ro a w g hr hm H f)
      · cases he
    | block id x =>
      simp only [evalX] at he
      split at he
      · rename_i j F1 h1 he1
        refine wpIn_block (wpIn_mono (ie x F h _ _ _ he1 ro a w g hr hm H f) fun e a1 w1 hp => ?_)
        obtain ⟨rfl, hp⟩ := hp
        cases hj : Nat.beq j id with
        | true =>
          rw [hj] at he
          cases he
          simp only [XEx.toExit, Exit.inBlock, if_pos (Nat.eq_of_beq_eq_true hj)]
          exact ⟨rfl, hp⟩
        | false =>
          rw [hj] at he
          cases he
          simp only [XEx.toExit, Exit.inBlock, if_neg (Nat.ne_of_beq_eq_false hj)]
          exact ⟨rfl, hp⟩
      · rename_i hne
        refine wpIn_block (wpIn_mono (ie x F h _ _ _ he ro a w g hr hm H f) fun e a1 w1 hp => ?_)
        obtain ⟨rfl, hp⟩ := hp
        cases ex with
        | exit j => exact absurd he (hne _ _ _)
        | _ => exact ⟨rfl, hp⟩
    | loop x => exact wpIn_loop_body (hloop x F h ex F' h' he ro a w g hr hm H f)
    | scope x =>
      simp only [evalX] at he
      split at he
      · rename_i r hr1
        exact wpIn_scope_of (jump_sound ie hr 1000 x x F h r ex F' h' a w g hr1 he hm H f)
      · cases he
    | region id ops d =>
      simp only [evalX] at he
      split at he
      · rename_i S1 h1 rs ho
        have hd := (bif_some he).1
        replace he := (bif_some he).2
        cases he
        exact region_sound C (ih false).1 (ih true).1 hm H f ho fun hdt => by rw [hdt] at hd; simpa using hd
      · cases he
    | rangeFunc x ps asg bd =>
      simp only [evalX] at he
      split at he
      · rename_i fi cs hx
        split at he
        · rename_i r h1 hb
          split at he
          · rename_i tm' ps' as' bd' hg
            cases he
            rw [hr rfl]
            exact range_sound C (ih false).1 hm H f hx hb hg
          · cases he
        · cases he
      · cases he
    | _ => simp [evalX] at he
end
end Go.Proofs.YtocpmekblkfdiaaGreatDoor
