/- The abstract walk, thirteenth part: how it is reckoned, step by step; balls as arguments. No condition. -/
import Derived.Test.YtdojdghhbjjoeaaAl
namespace Go.Proofs.Ytdojdghhbjjoeaa
open Go.RowKit


inductive It where
  | seq (c : Code)
  | block (id : Nat)
  | loop (φ : AS → Prop)
  | frz (l : List Nat)

/-- what is left to do, as a continuation -/
def contOf (E : Env) (Q : AEx → AS → Prop) : List It → AEx → AS → Prop
  | [] => Q
  | .seq c :: k => thenA (awp E c (contOf E Q k)) (contOf E Q k)
  | .block id :: k => blockA id (contOf E Q k)
  | .loop φ :: k => thenA φ (contOf E Q k)
  | .frz l :: k => thenA (fun s => frzL l s (contOf E Q k .normal)) (contOf E Q k)

/-- code, then what is left to do -/
def codeK (E : Env) (Q : AEx → AS → Prop) (k : List It) (c : Code) (s : AS) : Prop := awp E c (contOf E Q k) s
/-- an end of code, then what is left to do -/
def endK (E : Env) (Q : AEx → AS → Prop) (k : List It) (e : AEx) (s : AS) : Prop := contOf E Q k e s
/-- operations of a region in the text's order, then what is left to do -/
def opsK (E : Env) (Q : AEx → AS → Prop) (k : List It) (ops : Array Oper) (l : List Oper) (s : AS) : Prop := awpOps E ops l s (contOf E Q k .normal)
/-- operations of a region that draws, then what is left to do -/
def drawK (E : Env) (Q : AEx → AS → Prop) (k : List It) (ops : Array Oper) (tr : List Tr) (l : List Oper) (s : AS) : Prop :=
  awpD E ops l s tr fun s' tr => okOrder ops.toList tr = true ∧ contOf E Q k .normal s'
def okDraw (ops : Array Oper) (tr : List Tr) : Bool := okOrder ops.toList tr.reverse

section
variable {E : Env} {Q : AEx → AS → Prop} {k : List It} {s : AS} {ops : Array Oper} {l : List Oper}

@[go_sem] theorem codeK_start {c : Code} : awp E c Q s = codeK E Q [] c s := rfl
@[go_sem] theorem codeK_skip : codeK E Q k .skip s = endK E Q k .normal s := rfl
@[go_sem] theorem codeK_seq {x y : Code} : codeK E Q k (.seq x y) s = codeK E Q (.seq y :: k) x s := rfl
@[go_sem] theorem codeK_block {id : Nat} {x : Code} : codeK E Q k (.block id x) s = codeK E Q (.block id :: k) x s := rfl
@[go_sem] theorem codeK_exit {id : Nat} : codeK E Q k (.exit id) s = endK E Q k (.exit id) s := rfl
@[go_sem] theorem codeK_ret : codeK E Q k .ret s = endK E Q k .ret s := rfl
/-- rows are given up, then a region begins -/
def goK (E : Env) (Q : AEx → AS → Prop) (k : List It) (ops : Array Oper) (draw : Bool) (s : AS) : List Nat → Prop
  | [] => match draw with
    | false => opsK E Q k ops ops.toList s
    | true => drawK E Q k ops [] ops.toList s
  | id :: l => frzL (id :: l) s fun s => match draw with
    | false => opsK E Q k ops ops.toList s
    | true => drawK E Q k ops [] ops.toList s
@[go_sem] theorem codeK_region {id : Nat} {draw : Bool} : codeK E Q k (.region id ops draw) s = goK E Q (.frz (E.fz (2 * id + 1)) :: k) ops draw s (E.fz (2 * id)) := by
  unfold codeK
  simp only [awp]
  cases E.fz (2 * id) <;> cases draw <;> rfl
@[go_sem] theorem goK_ops : goK E Q k ops false s [] = opsK E Q k ops ops.toList s := rfl
@[go_sem] theorem goK_draw : goK E Q k ops true s [] = drawK E Q k ops [] ops.toList s := rfl
/-- a row is given up, if it is one -/
def frzM (id : Nat) (l : List Nat) (s : AS) (K : AS → Prop) : Option RV → Prop
  | some (.row c) => s.frzOk id c.len ∧ frzL l (frz1 id c s ++ s) K
  | _ => frzL l s K
@[go_sem] theorem goK_frz {draw : Bool} {id : Nat} {l : List Nat} : goK E Q k ops draw s (id :: l) = frzM id l s (fun s => goK E Q k ops draw s []) (s.get id 1) := by
  simp only [goK, frzL]
  cases s.get id 1 with
  | none => cases draw <;> rfl
  | some r => cases r <;> cases draw <;> rfl
@[go_sem] theorem frzM_row {id : Nat} {l : List Nat} {K : AS → Prop} {c : RC} : frzM id l s K (some (.row c)) = (s.frzOk id c.len ∧ frzL l (frz1 id c s ++ s) K) := rfl
@[go_sem] theorem frzM_off {id : Nat} {l : List Nat} {K : AS → Prop} : frzM id l s K (some .off) = frzL l s K := rfl
@[go_sem] theorem frzM_none {id : Nat} {l : List Nat} {K : AS → Prop} : frzM id l s K none = frzL l s K := rfl
@[go_sem] theorem frzL_nil {K : AS → Prop} : frzL [] s K = K s := rfl
@[go_sem] theorem frzL_cons {id : Nat} {l : List Nat} {K : AS → Prop} : frzL (id :: l) s K = frzM id l s K (s.get id 1) := by
  simp only [frzL]
  cases s.get id 1 with
  | none => rfl
  | some r => cases r <;> rfl
@[go_sem] theorem endK_frz_normal {l : List Nat} : endK E Q (.frz l :: k) .normal s = frzL l s (endK E Q k .normal) := rfl
@[go_sem] theorem endK_frz_ret {l : List Nat} : endK E Q (.frz l :: k) .ret s = endK E Q k .ret s := rfl
@[go_sem] theorem endK_frz_exit {l : List Nat} {id : Nat} : endK E Q (.frz l :: k) (.exit id) s = endK E Q k (.exit id) s := rfl
@[go_sem] theorem fz_mk {N : Nat} {tt : Nat → Option TI} {fn : Nat → Option Den} {fz : Nat → List Nat} {n : Nat} : Env.fz ⟨N, tt, fn, fz⟩ n = fz n := rfl
@[go_sem] theorem nofz_eq {n : Nat} : nofz n = [] := rfl
@[go_sem] theorem endK_seq_normal {c : Code} : endK E Q (.seq c :: k) .normal s = codeK E Q k c s := rfl
@[go_sem] theorem endK_seq_ret {c : Code} : endK E Q (.seq c :: k) .ret s = endK E Q k .ret s := rfl
@[go_sem] theorem endK_seq_exit {c : Code} {id : Nat} : endK E Q (.seq c :: k) (.exit id) s = endK E Q k (.exit id) s := rfl
@[go_sem] theorem endK_block_normal {id : Nat} : endK E Q (.block id :: k) .normal s = endK E Q k .normal s := rfl
@[go_sem] theorem endK_block_ret {id : Nat} : endK E Q (.block id :: k) .ret s = endK E Q k .ret s := rfl
@[go_sem] theorem endK_block_exit {id j : Nat} : endK E Q (.block id :: k) (.exit j) s = if j = id then endK E Q k .normal s else endK E Q k (.exit j) s := rfl
@[go_sem] theorem endK_loop_normal {φ : AS → Prop} : endK E Q (.loop φ :: k) .normal s = φ s := rfl
@[go_sem] theorem endK_loop_ret {φ : AS → Prop} : endK E Q (.loop φ :: k) .ret s = endK E Q k .ret s := rfl
@[go_sem] theorem endK_loop_exit {φ : AS → Prop} {id : Nat} : endK E Q (.loop φ :: k) (.exit id) s = endK E Q k (.exit id) s := rfl
@[go_sem] theorem endK_nil {e : AEx} : endK E Q [] e s = Q e s := rfl

/-- the end of a round -/
def roundEnd {ι : Type} (inv : ι → AS) (m : ι → Nat) (i : ι) (s' : AS) : Prop := ∃ j, m j < m i ∧ Le s' (inv j)

/-- A LOOP: a family of states and a measure -/
theorem codeK_loop {body : Code} {ι : Type} (inv : ι → AS) (m : ι → Nat) (i0 : ι) (h0 : Le s (inv i0)) (h : ∀ i, codeK E Q (.loop (roundEnd inv m i) :: k) body (inv i)) : codeK E Q k (.loop body) s :=
  ⟨ι, inv, m, i0, h0, h⟩

/-- what each resource of s' says, s says -/
def leL (s : AS) : AS → Prop
  | [] => True
  | (n, k, r) :: s' => (s.get n k = some r ∨ r = .off) ∧ leL s s'

theorem le_of {s' : AS} (h : leL s s') : Le s s' := by
  have key : ∀ (s' : AS), leL s s' → ∀ n k r, s'.get n k = some r → s.get n k = some r ∨ r = .off := by
    intro s'
    induction s' with
    | nil => intro _ n k r hr; simp [AS.get] at hr
    | cons x s' ih =>
      obtain ⟨n', k', r'⟩ := x
      intro h n k r hr
      by_cases hnk : n' = n ∧ k' = k
      · obtain ⟨rfl, rfl⟩ := hnk
        rw [AS.get_cons_self] at hr
        cases hr
        exact h.1
      · rw [AS.get_cons_ne _ _ hnk] at hr
        exact ih h.2 n k r hr
  intro N X0 w0 a w g who H
  refine ⟨g, who, H.defers, H.size, H.below, H.sub, H.sup, H.lt, fun n k r hr => ?_⟩
  rcases key s' h n k r hr with h | rfl
  · exact H.res n k r h
  · trivial

/-- what one resource's knowledge says, another one says too -/
def RVle (x y : RV) : Prop := ∀ B g who a w n k, x.H B g who a w n k → y.H B g who a w n k

def leW (s : AS) : AS → Prop
  | [] => True
  | (n, k, r) :: s' => (∃ x, s.get n k = some x ∧ RVle x r) ∧ leW s s'

theorem le_ofW {s' : AS} (h : leW s s') : Le s s' := by
  have key : ∀ (s' : AS), leW s s' → ∀ n k r, s'.get n k = some r → ∃ x, s.get n k = some x ∧ RVle x r := by
    intro s'
    induction s' with
    | nil => intro _ n k r hr; simp [AS.get] at hr
    | cons x s' ih =>
      obtain ⟨n', k', r'⟩ := x
      intro h n k r hr
      by_cases hnk : n' = n ∧ k' = k
      · obtain ⟨rfl, rfl⟩ := hnk
        rw [AS.get_cons_self] at hr
        cases hr
        exact h.1
      · rw [AS.get_cons_ne _ _ hnk] at hr
        exact ih h.2 n k r hr
  intro N X0 w0 a w g who H
  refine ⟨g, who, H.defers, H.size, H.below, H.sub, H.sup, H.lt, fun n k r hr => ?_⟩
  obtain ⟨x, hx, hle⟩ := key s' h n k r hr
  exact hle _ _ _ _ _ _ _ (H.res n k x hx)

/-- a row is called otherwise -/
theorem le_ren {s' : AS} (id id' : Nat) {c : RC} (hid : s.get id 1 = some (.row c)) (hf : s.fresh id' = true) (h : Le (ren1 id id' c s ++ s) s') : Le s s' := by
  intro N X0 w0 a w g who H
  obtain ⟨g', who', H'⟩ := H.ren hid hf
  exact h _ _ _ _ _ _ _ H'

/-- nil is a row -/
theorem le_nil {s' : AS} (m id' : Nat) (c : RC) (hm : s.get m 0 = some (.av (.cel .nil))) (hf : s.fresh id' = true) (cok : c.ok) (hc : c.len = 0) (h : Le ((m, 0, .av (.cel (.rf id' 0))) :: (id', 1, .row c) :: s) s') : Le s s' := by
  intro N X0 w0 a w g who H
  obtain ⟨g', who', H'⟩ := H.nilRow hm hf cok hc
  exact h _ _ _ _ _ _ _ H'

theorem RVle.refl (x : RV) : RVle x x := fun _ _ _ _ _ _ _ h => h
theorem RVle.of_eq {x y : RV} (h : x = y) : RVle x y := h ▸ RVle.refl x

/-- a branch: what the slot holds -/
def condK (E : Env) (Q : AEx → AS → Prop) (k : List It) (x y : Code) (s : AS) : AV → Prop
  | .one (.cel (.bool b)) => if b = true then codeK E Q k x s else codeK E Q k y s
  | _ => False
@[go_sem] theorem codeK_cond {c : Operand} {x y : Code} : codeK E Q k (.cond c x y) s = condK E Q k x y s (s.ev c) := by
  unfold codeK condK
  simp only [awp, condA]
  split
  · rename_i b hb
    cases b <;> simp [hb, codeK]
  · rename_i h
    split
    · rename_i b hb; exact absurd hb (h b)
    · rfl

@[go_sem] theorem opsK_nil : opsK E Q k ops [] s = endK E Q k .normal s := rfl
/-- an operation's effect: what it asks, what it lays -/
def layK (E : Env) (Q : AEx → AS → Prop) (k : List It) (ops : Array Oper) (l : List Oper) (s : AS) (r : Prop × AS) : Prop := r.1 ∧ opsK E Q k ops l (r.2 ++ s)
@[go_sem] theorem opsK_cons {d : Option Tmp} {op : Op} {t : Nat} {p : String} {af : Array Edge} :
    opsK E Q k ops (⟨d, op, t, p, af, none⟩ :: l) s = layK E Q k ops l s (actOf E ⟨d, op, t, p, af, none⟩ s) := rfl
@[go_sem] theorem layK_pair {p : Prop} {W : AS} : layK E Q k ops l s (p, W) = (p ∧ opsK E Q k ops l (W ++ s)) := rfl

def guardK (E : Env) (Q : AEx → AS → Prop) (k : List It) (ops : Array Oper) (o : Oper) (l : List Oper) (s : AS) (j : Nat) (want : Bool) : Option (Nat × Bool) → Prop
  | some (t, b) => if b = want then layK E Q k ops l (s.setv t (.av (.cel (.bool want)))) (actOf E o (s.setv t (.av (.cel (.bool want)))))
      else dstOk E o ∧ opsK E Q k ops l (skipOf o ++ (s.setv t (.av (.cel (.bool (!want))))))
  | none => undAt s (slotAt ops j) = true ∧ dstOk E o ∧ opsK E Q k ops l (skipOf o ++ s)
@[go_sem] theorem opsK_guard {d : Option Tmp} {op : Op} {t : Nat} {p : String} {af : Array Edge} {j : Nat} {want : Bool} :
    opsK E Q k ops (⟨d, op, t, p, af, some (j, want)⟩ :: l) s = guardK E Q k ops ⟨d, op, t, p, af, some (j, want)⟩ l s j want (boolAt ops s j) := by
  unfold opsK
  simp only [awpOps, stepA]
  cases hb : boolAt ops s j with
  | none => rfl
  | some x =>
    obtain ⟨t', b⟩ := x
    simp only [guardK]
    cases b <;> cases want <;> simp [layK, opsK]

@[go_sem] theorem drawK_nil {tr : List Tr} : drawK E Q k ops tr [] s = (okDraw ops tr = true ∧ endK E Q k .normal s) := rfl
def layD (E : Env) (Q : AEx → AS → Prop) (k : List It) (ops : Array Oper) (tr : List Tr) (l : List Oper) (s : AS) (rd : List (Nat × Nat)) (al : Option Nat) (r : Prop × AS) : Prop :=
  r.1 ∧ drawK E Q k ops (⟨rd, r.2, al⟩ :: tr) l (r.2 ++ s)
@[go_sem] theorem drawK_cons {d : Option Tmp} {op : Op} {t : Nat} {p : String} {af : Array Edge} {tr : List Tr} :
    drawK E Q k ops tr (⟨d, op, t, p, af, none⟩ :: l) s = layD E Q k ops tr l s (rdOf E ⟨d, op, t, p, af, none⟩ s) (alOf ⟨d, op, t, p, af, none⟩) (actOf E ⟨d, op, t, p, af, none⟩ s) := rfl
@[go_sem] theorem layD_pair {p : Prop} {W : AS} {tr : List Tr} {rd : List (Nat × Nat)} {al : Option Nat} : layD E Q k ops tr l s rd al (p, W) = (p ∧ drawK E Q k ops (⟨rd, W, al⟩ :: tr) l (W ++ s)) := rfl
def guardD (E : Env) (Q : AEx → AS → Prop) (k : List It) (ops : Array Oper) (tr : List Tr) (o : Oper) (l : List Oper) (s : AS) (j : Nat) (want : Bool) : Option (Nat × Bool) → Prop
  | some (t, b) => if b = want then layD E Q k ops tr l (s.setv t (.av (.cel (.bool want)))) ((t, 0) :: rdOf E o (s.setv t (.av (.cel (.bool want))))) (alOf o) (actOf E o (s.setv t (.av (.cel (.bool want)))))
      else dstOk E o ∧ drawK E Q k ops (⟨[(t, 0)], skipOf o, none⟩ :: tr) l (skipOf o ++ (s.setv t (.av (.cel (.bool (!want))))))
  | none => undAt s (slotAt ops j) = true ∧ dstOk E o ∧ drawK E Q k ops (⟨slotKey (slotAt ops j), skipOf o, none⟩ :: tr) l (skipOf o ++ s)
@[go_sem] theorem drawK_guard {d : Option Tmp} {op : Op} {t : Nat} {p : String} {af : Array Edge} {j : Nat} {want : Bool} {tr : List Tr} :
    drawK E Q k ops tr (⟨d, op, t, p, af, some (j, want)⟩ :: l) s = guardD E Q k ops tr ⟨d, op, t, p, af, some (j, want)⟩ l s j want (boolAt ops s j) := by
  unfold drawK
  simp only [awpD, stepD]
  cases hb : boolAt ops s j with
  | none => rfl
  | some x =>
    obtain ⟨t', b⟩ := x
    simp only [guardD]
    cases b <;> cases want <;> simp [layD, drawK]

def AS.gets (s : AS) : List (Nat × Nat) → List (Option RV)
  | [] => []
  | (n, k) :: r => s.get n k :: AS.gets s r
theorem gets_eq : ∀ (l : List (Nat × Nat)), (l.map fun r => s.get r.1 r.2) = s.gets l
  | [] => rfl
  | _ :: l => congrArg _ (gets_eq l)
def AS.evs (s : AS) : List Operand → List AV
  | [] => []
  | x :: l => s.ev x :: AS.evs s l
theorem evs_eq : ∀ (l : List Operand), l.map s.ev = s.evs l
  | [] => rfl
  | _ :: l => congrArg _ (evs_eq l)
@[go_sem] theorem act_eq {d : Option Tmp} {op : Op} {t : Nat} {p : String} {af : Array Edge} {g : Option (Nat × Bool)} :
    actOf E ⟨d, op, t, p, af, g⟩ s = effOf E op d s.fresh (s.evs (insOf op)) (s.gets (needsOf E op (s.evs (insOf op)))) := by
  rw [← evs_eq, ← gets_eq]; rfl
def slotsOf : List Operand → List (Nat × Nat)
  | [] => []
  | .tmp t :: l => (t, 0) :: slotsOf l
  | .const _ :: l => slotsOf l
  | .global _ :: l => slotsOf l
  | .func _ :: l => slotsOf l
theorem slots_eq : ∀ (l : List Operand), l.filterMap slotOf = slotsOf l
  | [] => rfl
  | .tmp _ :: l => congrArg _ (slots_eq l)
  | .const _ :: l => slots_eq l
  | .global _ :: l => slots_eq l
  | .func _ :: l => slots_eq l
@[go_sem] theorem rd_eq {d : Option Tmp} {op : Op} {t : Nat} {p : String} {af : Array Edge} {g : Option (Nat × Bool)} :
    rdOf E ⟨d, op, t, p, af, g⟩ s = slotsOf (insOf op) ++ needsOf E op (s.evs (insOf op)) := by
  rw [← evs_eq, ← slots_eq]; rfl

end

/-! the words that the reckoning unfolds -/

attribute [go_sem] undAt slotAt slotKey AS.setv isRange AS.gets AS.evs slotsOf condK guardK guardD insOf effOf valOf AS.ev AS.get constCV mkCells A1.cells AS.fresh RV.men AV.men A1.men CV.men idAV pickOp pickAV nilAV keepI binII isShift binCV binAV unAV convAV idxAV extAV
  buildAV fillCV lay buildSliceAV rowsOf u32sOf allU32 allLen isU32 lenAV isSlice callAV fnOf ofCells cvs boolAt skipOf dstOk alOf keysFrom AV.strip A1.strip CV.strip needsOf
  makeAV emptyAV appAV appTy zeroRC rowAS RC.app RC.len RC.t RC.at RC.takeC RC.setC u32One u32C frz1 AS.sub subC AS.has RV.frz AV.frz A1.frz CV.frz AS.frzOk RV.frzOk A1.frzOk cvsFrz a1sFrz CV.frzOk ren1 RV.ren AV.ren A1.ren CV.ren
  aRat aLim aInt aU64 aU32 aBool ratV ratCells limV natV intV boolV paRat paLim paInt paU64 paU32 paBool cellsRat CV.lims den0 den1 den2 den3 den4 den5 ratOkV natOkV divV no resAV resOf a1Of endsA AV.fit A1.fit CV.fit cvsFit a1sFit nilFit
attribute [go_sem] cond_true cond_false decide_eq_true_eq List.map_cons List.map_nil List.cons_append List.nil_append List.all_cons List.all_nil List.any_cons List.any_nil Bool.and_self Bool.and_true Bool.true_and Bool.false_and Bool.and_false Bool.not_false Bool.not_true Bool.or_self Bool.or_true Bool.true_or Bool.or_false Bool.false_or
  Bool.false_eq_true if_true if_false true_and and_true List.zip_cons_cons List.zip_nil_left List.zip_nil_right List.set_cons_zero List.set_cons_succ List.length_cons List.length_nil and_self List.drop_zero List.drop_succ_cons List.take_succ_cons List.take_zero List.getElem?_toArray List.getElem?_cons_zero List.getElem?_cons_succ List.toList_toArray

/-! balls -/

structure BB where
  lo : RR
  hi : RR
def ballCells (b : BB) : List CV := [.bool b.lo.s, .lim none b.lo.n, .lim none b.lo.d, .bool b.hi.s, .lim none b.hi.n, .lim none b.hi.d]
def ballV (b : BB) : AV := .one (.agg (ballCells b))
def BB.sz (b : BB) : Nat := max b.lo.sz b.hi.sz
def cellsBall : List CV → Option BB
  | [a, b, c, d, e, f] => match cellsRat [a, b, c], cellsRat [d, e, f] with
    | some x, some y => some ⟨x, y⟩
    | _, _ => none
  | _ => none
def paBall : AV → Option BB
  | .one (.agg l) => cellsBall l
  | _ => none
def BB.ok (b : BB) : Prop := b.lo.ok ∧ b.hi.ok
theorem ballV_parts {X : Nat → Nat → Prop} {w : World} {v : Value} {b : BB} (h : (ballV b).P X w v) : ∃ u1 u2, (ratV b.lo).P X w u1 ∧ (ratV b.hi).P X w u2 := by
  obtain ⟨vs, rfl, hl⟩ := h
  exact ⟨_, _, ⟨_, rfl, hl.take 3⟩, ⟨_, rfl, hl.drop 3⟩⟩
def aBall : Arg BB where
  pa := paBall
  un := ballV
  va := BB.ok
  ok := by
    intro v x h X w u hu
    unfold paBall at h
    split at h
    · rename_i l
      obtain ⟨vs, rfl, hl⟩ := hu
      refine ⟨vs, rfl, ?_⟩
      unfold cellsBall at h
      split at h
      · rename_i a b c d e f
        split at h
        · rename_i p q hp hq
          cases h
          have k1 := cellsRat_P hp (hl.take 3)
          have k2 := cellsRat_P hq (hl.drop 3)
          obtain ⟨x1, x2, x3, e1, g1, g2, g3⟩ := k1.three
          obtain ⟨y1, y2, y3, e2, f1, f2, f3⟩ := k2.three
          have : vs = [x1, x2, x3, y1, y2, y3] := by rw [← List.take_append_drop 3 vs, e1, e2]; rfl
          subst this
          exact .cons g1 (.cons g2 (.cons g3 (.cons f1 (.cons f2 (.cons f3 .nil)))))
        · cases h
      · cases h
    · cases h
  st := fun _ => rfl
  vd := fun x X w u hu => by
    obtain ⟨_, _, h1, h2⟩ := ballV_parts hu
    exact ⟨ratV_ok h1, ratV_ok h2⟩

attribute [go_sem] aBall ballV ballCells paBall cellsBall

@[go_sem] theorem eta_rat (r : RR) : (⟨r.s, r.n, r.d⟩ : RR) = r := rfl
@[go_sem] theorem eta_ball (b : BB) : (⟨b.lo, b.hi⟩ : BB) = b := rfl

end Go.Proofs.Ytdojdghhbjjoeaa
