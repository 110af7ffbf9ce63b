/- The abstract walk, thirteenth part: how it is reckoned, step by step; balls as arguments. No condition. The abstract walk, fourteenth part: comparisons, sizes, rows of rationals. No condition. vernierref2: sums, differences, products, quotients, comparisons. Conditions: at most 10^10 limbs. vernierlaw2's helpers: two numbers limb by limb, a half and a third, whether numbers are more than is looked at. Conditions: rows shorter than 10^14. -/
import Derived.Test.YtocpmekblkfdiaaGreatDoorAl
import Derived.Test.YtocpmekblkfdiaaGreatDoorGH
namespace Go.Proofs.YtocpmekblkfdiaaGreatDoor
open Go.RowKit
inductive It where
  | seq (c : Code)
  | block (id : Nat)
  | loop (φ : AS → Prop)
  | frz (l : List Nat)
/-- what is left to do, as a continuation -/
def contOf (E : Env) (Q : AEx → AS → Prop) : List It → AEx → AS → Prop
  | [] => Q
  | .seq c :: k => thenA (awp E c (contOf E Q k)) (contOf E Q k)
  | .block id :: k => blockA id (contOf E Q k)
  | .loop φ :: k => thenA φ (contOf E Q k)
  | .frz l :: k => thenA (fun s => frzL l s (contOf E Q k .normal)) (contOf E Q k)
/-- code, then what is left to do -/
def codeK (E : Env) (Q : AEx → AS → Prop) (k : List It) (c : Code) (s : AS) : Prop := awp E c (contOf E Q k) s
/-- an end of code, then what is left to do -/
def endK (E : Env) (Q : AEx → AS → Prop) (k : List It) (e : AEx) (s : AS) : Prop := contOf E Q k e s
/-- operations of a region in the text's order, then what is left to do -/
def opsK (E : Env) (Q : AEx → AS → Prop) (k : List It) (ops : Array Oper) (l : List Oper) (s : AS) : Prop := awpOps E ops l s (contOf E Q k .normal)
/-- operations of a region that draws, then what is left to do -/
def drawK (E : Env) (Q : AEx → AS → Prop) (k : List It) (ops : Array Oper) (tr : List Tr) (l : List Oper) (s : AS) : Prop :=
  awpD E ops l s tr fun s' tr => okOrder ops.toList tr = true ∧ contOf E Q k .normal s'
def okDraw (ops : Array Oper) (tr : List Tr) : Bool := okOrder ops.toList tr.reverse
section
variable {E : Env} {Q : AEx → AS → Prop} {k : List It} {s : AS} {ops : Array Oper} {l : List Oper}
@[go_sem] theorem codeK_start {c : Code} : awp E c Q s = codeK E Q [] c s := rfl
@[go_sem] theorem codeK_skip : codeK E Q k .skip s = endK E Q k .normal s := rfl
@[go_sem] theorem codeK_seq {x y : Code} : codeK E Q k (.seq x y) s = codeK E Q (.seq y :: k) x s := rfl
@[go_sem] theorem codeK_block {id : Nat} {x : Code} : codeK E Q k (.block id x) s = codeK E Q (.block id :: k) x s := rfl
@[go_sem] theorem codeK_exit {id : Nat} : codeK E Q k (.exit id) s = endK E Q k (.exit id) s := rfl
@[go_sem] theorem codeK_ret : codeK E Q k .ret s = endK E Q k .ret s := rfl
/-- rows are given up, then a region begins -/
def goK (E : Env) (Q : AEx → AS → Prop) (k : List It) (ops : Array Oper) (draw : Bool) (s : AS) : List Nat → Prop
  | [] => match draw with
    | false => opsK E Q k ops ops.toList s
    | true => drawK E Q k ops [] ops.toList s
  | id :: l => frzL (id :: l) s fun s => match draw with
    | false => opsK E Q k ops ops.toList s
    | true => drawK E Q k ops [] ops.toList s
@[go_sem] theorem codeK_region {id : Nat} {draw : Bool} : codeK E Q k (.region id ops draw) s = goK E Q (.frz (E.fz (2 * id + 1)) :: k) ops draw s (E.fz (2 * id)) := by
  unfold codeK
  simp only [awp]
  cases E.fz (2 * id) <;> cases draw <;> rfl
@[go_sem] theorem goK_ops : goK E Q k ops false s [] = opsK E Q k ops ops.toList s := rfl
@[go_sem] theorem goK_draw : goK E Q k ops true s [] = drawK E Q k ops [] ops.toList s := rfl
/-- a row is given up, if it is one -/
def frzM (id : Nat) (l : List Nat) (s : AS) (K : AS → Prop) : Option RV → Prop
  | some (.row c) => s.frzOk id c.len ∧ frzL l (frz1 id c s ++ s) K
  | some (.cv _) => frzL l (bx1 id (boxOf s id 16 1) s ++ s) K
  | _ => frzL l s K
/-- a region, behind what is given up before it: a name, so that nothing is reckoned under it -/
def goK0 (E : Env) (Q : AEx → AS → Prop) (k : List It) (ops : Array Oper) (draw : Bool) (s : AS) : Prop := goK E Q k ops draw s []
@[go_sem] theorem goK0_eq {draw : Bool} : goK0 E Q k ops draw s = goK E Q k ops draw s [] := rfl
@[go_sem] theorem goK_frz0 {draw : Bool} {id : Nat} {l : List Nat} : goK E Q k ops draw s (id :: l) = frzM id l s (goK0 E Q k ops draw) (s.get id 1) := by
  simp only [goK, frzL]
  cases s.get id 1 with
  | none => cases draw <;> rfl
  | some r => cases r <;> cases draw <;> rfl
@[go_sem] theorem frzM_row {id : Nat} {l : List Nat} {K : AS → Prop} {c : RC} : frzM id l s K (some (.row c)) = (s.frzOk id c.len ∧ frzL l (frz1 id c s ++ s) K) := rfl
@[go_sem] theorem frzM_cv {id : Nat} {l : List Nat} {K : AS → Prop} {c : CV} : frzM id l s K (some (.cv c)) = frzL l (bx1 id (boxOf s id 16 1) s ++ s) K := rfl
def boxM (s : AS) (id n k : Nat) : Option RV → List CV
  | some (.cv c) => c.strip :: boxOf s id n (k + 1)
  | _ => []
@[go_sem] theorem boxOf_succ {id n k : Nat} : boxOf s id (n + 1) k = boxM s id n k (s.get id k) := by
  unfold boxOf
  cases s.get id k with
  | none => rfl
  | some r => cases r <;> rfl
@[go_sem] theorem boxM_cv {id n k : Nat} {c : CV} : boxM s id n k (some (.cv c)) = c.strip :: boxOf s id n (k + 1) := rfl
@[go_sem] theorem boxM_none {id n k : Nat} : boxM s id n k none = [] := rfl
@[go_sem] theorem boxM_off {id n k : Nat} : boxM s id n k (some .off) = [] := rfl
@[go_sem] theorem frzM_off {id : Nat} {l : List Nat} {K : AS → Prop} : frzM id l s K (some .off) = frzL l s K := rfl
@[go_sem] theorem frzM_none {id : Nat} {l : List Nat} {K : AS → Prop} : frzM id l s K none = frzL l s K := rfl
@[go_sem] theorem frzL_nil {K : AS → Prop} : frzL [] s K = K s := rfl
@[go_sem] theorem frzL_cons {id : Nat} {l : List Nat} {K : AS → Prop} : frzL (id :: l) s K = frzM id l s K (s.get id 1) := by
  simp only [frzL]
  cases s.get id 1 with
  | none => rfl
  | some r => cases r <;> rfl
@[go_sem] theorem endK_frz_normal {l : List Nat} : endK E Q (.frz l :: k) .normal s = frzL l s (endK E Q k .normal) := rfl
@[go_sem] theorem endK_frz_ret {l : List Nat} : endK E Q (.frz l :: k) .ret s = endK E Q k .ret s := rfl
@[go_sem] theorem endK_frz_exit {l : List Nat} {id : Nat} : endK E Q (.frz l :: k) (.exit id) s = endK E Q k (.exit id) s := rfl
@[go_sem] theorem fz_mk {N : Nat} {tt : Nat → Option TI} {fn : Nat → Option Den} {fz : Nat → List Nat} {n : Nat} : Env.fz ⟨N, tt, fn, fz⟩ n = fz n := rfl
@[go_sem] theorem nofz_eq {n : Nat} : nofz n = [] := rfl
@[go_sem] theorem endK_seq_normal {c : Code} : endK E Q (.seq c :: k) .normal s = codeK E Q k c s := rfl
@[go_sem] theorem endK_seq_ret {c : Code} : endK E Q (.seq c :: k) .ret s = endK E Q k .ret s := rfl
@[go_sem] theorem endK_seq_exit {c : Code} {id : Nat} : endK E Q (.seq c :: k) (.exit id) s = endK E Q k (.exit id) s := rfl
@[go_sem] theorem endK_block_normal {id : Nat} : endK E Q (.block id :: k) .normal s = endK E Q k .normal s := rfl
@[go_sem] theorem endK_block_ret {id : Nat} : endK E Q (.block id :: k) .ret s = endK E Q k .ret s := rfl
@[go_sem] theorem endK_block_exit {id j : Nat} : endK E Q (.block id :: k) (.exit j) s = if j = id then endK E Q k .normal s else endK E Q k (.exit j) s := rfl
@[go_sem] theorem endK_loop_normal {φ : AS → Prop} : endK E Q (.loop φ :: k) .normal s = φ s := rfl
@[go_sem] theorem endK_loop_ret {φ : AS → Prop} : endK E Q (.loop φ :: k) .ret s = endK E Q k .ret s := rfl
@[go_sem] theorem endK_loop_exit {φ : AS → Prop} {id : Nat} : endK E Q (.loop φ :: k) (.exit id) s = endK E Q k (.exit id) s := rfl
@[go_sem] theorem endK_nil {e : AEx} : endK E Q [] e s = Q e s := rfl
/-- the end of a round -/
def roundEnd {ι : Type} (inv : ι → AS) (m : ι → Nat) (i : ι) (s' : AS) : Prop := ∃ j, m j < m i ∧ Le s' (inv j)
/-- A LOOP: a family of states and a measure -/
theorem codeK_loop {body : Code} {ι : Type} (inv : ι → AS) (m : ι → Nat) (i0 : ι) (h0 : Le s (inv i0)) (h : ∀ i, codeK E Q (.loop (roundEnd inv m i) :: k) body (inv i)) : codeK E Q k (.loop body) s :=
  ⟨ι, inv, m, i0, h0, h⟩
/-- what each resource of s' says, s says -/
def leL (s : AS) : AS → Prop
  | [] => True
  | (n, k, r) :: s' => (s.get n k = some r ∨ r = .off) ∧ leL s s'
theorem le_of {s' : AS} (h : leL s s') : Le s s' := by
  have key : ∀ (s' : AS), leL s s' → ∀ n k r, s'.get n k = some r → s.get n k = some r ∨ r = .off := by
    intro s'
    induction s' with
    | nil => intro _ n k r hr; simp [AS.get] at hr
    | cons x s' ih =>
      obtain ⟨n', k', r'⟩ := x
      intro h n k r hr
      by_cases hnk : n' = n ∧ k' = k
      · obtain ⟨rfl, rfl⟩ := hnk
        rw [AS.get_cons_self] at hr
        cases hr
        exact h.1
      · rw [AS.get_cons_ne _ _ hnk] at hr
        exact ih h.2 n k r hr
  intro N X0 w0 a w g who H
  refine ⟨g, who, H.defers, H.size, H.below, H.sub, H.sup, H.lt, H.whole, fun n k r hr => ?_⟩
  rcases key s' h n k r hr with h | rfl
  · exact H.res n k r h
  · trivial
/-- what one resource's knowledge says, another one says too -/
def RVle (x y : RV) : Prop := ∀ B g who a w n k, x.H B g who a w n k → y.H B g who a w n k
def leW (s : AS) : AS → Prop
  | [] => True
  | (n, k, r) :: s' => (∃ x, s.get n k = some x ∧ RVle x r) ∧ leW s s'
theorem le_ofW {s' : AS} (h : leW s s') : Le s s' := by
  have key : ∀ (s' : AS), leW s s' → ∀ n k r, s'.get n k = some r → ∃ x, s.get n k = some x ∧ RVle x r := by
    intro s'
    induction s' with
    | nil => intro _ n k r hr; simp [AS.get] at hr
    | cons x s' ih =>
      obtain ⟨n', k', r'⟩ := x
      intro h n k r hr
      by_cases hnk : n' = n ∧ k' = k
      · obtain ⟨rfl, rfl⟩ := hnk
        rw [AS.get_cons_self] at hr
        cases hr
        exact h.1
      · rw [AS.get_cons_ne _ _ hnk] at hr
        exact ih h.2 n k r hr
  intro N X0 w0 a w g who H
  refine ⟨g, who, H.defers, H.size, H.below, H.sub, H.sup, H.lt, H.whole, fun n k r hr => ?_⟩
  obtain ⟨x, hx, hle⟩ := key s' h n k r hr
  exact hle _ _ _ _ _ _ _ (H.res n k x hx)
/-- a row is called otherwise -/
theorem le_ren {s' : AS} (id id' : Nat) {c : RC} (hid : s.get id 1 = some (.row c)) (hf : s.fresh id' = true) (h : Le (ren1 id id' c s ++ s) s') : Le s s' := by
  intro N X0 w0 a w g who H
  obtain ⟨g', who', H'⟩ := H.ren hid hf
  exact h _ _ _ _ _ _ _ H'
/-- nil is a row -/
theorem le_nil {s' : AS} (m id' : Nat) (c : RC) (hm : s.get m 0 = some (.av (.cel .nil))) (hf : s.fresh id' = true) (cok : c.ok) (hc : c.len = 0) (h : Le ((m, 0, .av (.cel (.rf id' 0))) :: (id', 1, .row c) :: s) s') : Le s s' := by
  intro N X0 w0 a w g who H
  obtain ⟨g', who', H'⟩ := H.nilRow hm hf cok hc
  exact h _ _ _ _ _ _ _ H'
theorem RVle.refl (x : RV) : RVle x x := fun _ _ _ _ _ _ _ h => h
/-- a branch: what the slot holds -/
def condK (E : Env) (Q : AEx → AS → Prop) (k : List It) (x y : Code) (s : AS) : AV → Prop
  | .one (.cel (.bool b)) => if b = true then codeK E Q k x s else codeK E Q k y s
  | _ => False
@[go_sem] theorem codeK_cond {c : Operand} {x y : Code} : codeK E Q k (.cond c x y) s = condK E Q k x y s (s.ev c) := by
  unfold codeK condK
  simp only [awp, condA]
  split
  · rename_i b hb
    cases b <;> simp [hb, codeK]
  · rename_i h
    split
    · rename_i b hb; exact absurd hb (h b)
    · rfl
@[go_sem] theorem opsK_nil : opsK E Q k ops [] s = endK E Q k .normal s := rfl
/-- an operation's effect: what it asks, what it lays -/
def layK (E : Env) (Q : AEx → AS → Prop) (k : List It) (ops : Array Oper) (l : List Oper) (s : AS) (r : Prop × AS) : Prop := r.1 ∧ opsK E Q k ops l (r.2 ++ s)
@[go_sem] theorem opsK_cons {d : Option Tmp} {op : Op} {t : Nat} {p : String} {af : Array Edge} :
    opsK E Q k ops (⟨d, op, t, p, af, none⟩ :: l) s = layK E Q k ops l s (actOf E ⟨d, op, t, p, af, none⟩ s) := rfl
@[go_sem] theorem layK_pair {p : Prop} {W : AS} : layK E Q k ops l s (p, W) = (p ∧ opsK E Q k ops l (W ++ s)) := rfl
def guardK (E : Env) (Q : AEx → AS → Prop) (k : List It) (ops : Array Oper) (o : Oper) (l : List Oper) (s : AS) (j : Nat) (want : Bool) : Option (Nat × Bool) → Prop
  | some (t, b) => if b = want then layK E Q k ops l (s.setv t (.av (.cel (.bool want)))) (actOf E o (s.setv t (.av (.cel (.bool want)))))
      else dstOk E o ∧ opsK E Q k ops l (skipOf o ++ (s.setv t (.av (.cel (.bool (!want))))))
  | none => undAt s (slotAt ops j) = true ∧ dstOk E o ∧ opsK E Q k ops l (skipOf o ++ s)
@[go_sem] theorem opsK_guard {d : Option Tmp} {op : Op} {t : Nat} {p : String} {af : Array Edge} {j : Nat} {want : Bool} :
    opsK E Q k ops (⟨d, op, t, p, af, some (j, want)⟩ :: l) s = guardK E Q k ops ⟨d, op, t, p, af, some (j, want)⟩ l s j want (boolAt ops s j) := by
  unfold opsK
  simp only [awpOps, stepA]
  cases hb : boolAt ops s j with
  | none => rfl
  | some x =>
    obtain ⟨t', b⟩ := x
    simp only [guardK]
    cases b <;> cases want <;> simp [layK, opsK]
@[go_sem] theorem drawK_nil {tr : List Tr} : drawK E Q k ops tr [] s = (okDraw ops tr = true ∧ endK E Q k .normal s) := rfl
def layD (E : Env) (Q : AEx → AS → Prop) (k : List It) (ops : Array Oper) (tr : List Tr) (l : List Oper) (s : AS) (rd : List (Nat × Nat)) (al : Option Nat) (r : Prop × AS) : Prop :=
  r.1 ∧ drawK E Q k ops (⟨rd, r.2, al⟩ :: tr) l (r.2 ++ s)
@[go_sem] theorem drawK_cons {d : Option Tmp} {op : Op} {t : Nat} {p : String} {af : Array Edge} {tr : List Tr} :
    drawK E Q k ops tr (⟨d, op, t, p, af, none⟩ :: l) s = layD E Q k ops tr l s (rdOf E ⟨d, op, t, p, af, none⟩ s) (alOf E ⟨d, op, t, p, af, none⟩) (actOf E ⟨d, op, t, p, af, none⟩ s) := rfl
@[go_sem] theorem layD_pair {p : Prop} {W : AS} {tr : List Tr} {rd : List (Nat × Nat)} {al : Option Nat} : layD E Q k ops tr l s rd al (p, W) = (p ∧ drawK E Q k ops (⟨rd, W, al⟩ :: tr) l (W ++ s)) := rfl
def guardD (E : Env) (Q : AEx → AS → Prop) (k : List It) (ops : Array Oper) (tr : List Tr) (o : Oper) (l : List Oper) (s : AS) (j : Nat) (want : Bool) : Option (Nat × Bool) → Prop
  | some (t, b) => if b = want then layD E Q k ops tr l (s.setv t (.av (.cel (.bool want)))) ((t, 0) :: rdOf E o (s.setv t (.av (.cel (.bool want))))) (alOf E o) (actOf E o (s.setv t (.av (.cel (.bool want)))))
      else dstOk E o ∧ drawK E Q k ops (⟨[(t, 0)], skipOf o, none⟩ :: tr) l (skipOf o ++ (s.setv t (.av (.cel (.bool (!want))))))
  | none => undAt s (slotAt ops j) = true ∧ dstOk E o ∧ drawK E Q k ops (⟨slotKey (slotAt ops j), skipOf o, none⟩ :: tr) l (skipOf o ++ s)
@[go_sem] theorem drawK_guard {d : Option Tmp} {op : Op} {t : Nat} {p : String} {af : Array Edge} {j : Nat} {want : Bool} {tr : List Tr} :
    drawK E Q k ops tr (⟨d, op, t, p, af, some (j, want)⟩ :: l) s = guardD E Q k ops tr ⟨d, op, t, p, af, some (j, want)⟩ l s j want (boolAt ops s j) := by
  unfold drawK
  simp only [awpD, stepD]
  cases hb : boolAt ops s j with
  | none => rfl
  | some x =>
    obtain ⟨t', b⟩ := x
    simp only [guardD]
    cases b <;> cases want <;> simp [layD, drawK]
def AS.gets (s : AS) : List (Nat × Nat) → List (Option RV)
  | [] => []
  | (n, k) :: r => s.get n k :: AS.gets s r
theorem gets_eq : ∀ (l : List (Nat × Nat)), (l.map fun r => s.get r.1 r.2) = s.gets l
  | [] => rfl
  | _ :: l => congrArg _ (gets_eq l)
def AS.evs (s : AS) : List Operand → List AV
  | [] => []
  | x :: l => s.ev x :: AS.evs s l
theorem evs_eq : ∀ (l : List Operand), l.map s.ev = s.evs l
  | [] => rfl
  | _ :: l => congrArg _ (evs_eq l)
@[go_sem] theorem act_eq {d : Option Tmp} {op : Op} {t : Nat} {p : String} {af : Array Edge} {g : Option (Nat × Bool)} :
    actOf E ⟨d, op, t, p, af, g⟩ s = effOf E op d s.fresh (s.evs (insOf op)) (s.gets (needsOf E op (s.evs (insOf op)))) := by
  rw [← evs_eq, ← gets_eq]; rfl
def slotsOf : List Operand → List (Nat × Nat)
  | [] => []
  | .tmp t :: l => (t, 0) :: slotsOf l
  | .const _ :: l => slotsOf l
  | .global _ :: l => slotsOf l
  | .func _ :: l => slotsOf l
theorem slots_eq : ∀ (l : List Operand), l.filterMap slotOf = slotsOf l
  | [] => rfl
  | .tmp _ :: l => congrArg _ (slots_eq l)
  | .const _ :: l => slots_eq l
  | .global _ :: l => slots_eq l
  | .func _ :: l => slots_eq l
@[go_sem] theorem rd_eq {d : Option Tmp} {op : Op} {t : Nat} {p : String} {af : Array Edge} {g : Option (Nat × Bool)} :
    rdOf E ⟨d, op, t, p, af, g⟩ s = slotsOf (insOf op) ++ needsOf E op (s.evs (insOf op)) := by
  rw [← evs_eq, ← slots_eq]; rfl
end
attribute [go_sem] undAt slotAt slotKey AS.setv isRange AS.gets AS.evs slotsOf condK guardK guardD insOf effOf valOf AS.ev AS.get constCV mkCells A1.cells AS.fresh RV.men AV.men A1.men CV.men idAV pickOp pickAV nilAV keepI binII isShift binCV strCV strCut stHi stLo stLH strIxAV lenCV onlyHi slElem slRow slEff bytesTy cvRowA cvEff allU8 isU8 RC.takeR binAV unAV convAV idxAV extAV buildAV fillCV lay buildSliceAV rowsOf u32sOf allU32 allLen isU32 lenAV isSlice callAV fnOf ofCells cvs boolAt skipOf dstOk alOf keysFrom AV.strip A1.strip CV.strip needsOf glbB glK glOut glAV glEff chgB chgK chgOut outOf chgAV chgEff valEff rowOf brwB wrpB binW CV.rfK cvsRfK A1.rfK AV.rfK avsRfK rowIn cvRow lenRow CV.brw CV.brwOk cvsBrw A1.brw A1.brwOk AV.brw AV.brwOk avsBrw CV.dull A1.dull AV.dull brwCall valCall ownB builtAV buildEff makeAV emptyAV appAV appTy zeroRC rowAS RC.app RC.len RC.t RC.at RC.takeC RC.setC u32One u32C frz1 AS.sub subC AS.has RV.frz AV.frz A1.frz CV.frz AS.frzOk RV.frzOk A1.frzOk cvsFrz a1sFrz CV.frzOk ren1 RV.ren AV.ren A1.ren CV.ren bx1 bxOffs RV.bx AV.bx A1.bx CV.bx sliceAV slHi slLo slLH sliceCV rowLen makeFuncAV capOf aRat aLim aInt aU64 aU32 aBool ratV ratCells limV natV intV boolV paRat paLim paInt paU64 paU32 paBool cellsRat CV.lims den0 den1 den2 den3 den4 ratOkV natOkV divV no resAV resOf a1Of endsA AV.fit A1.fit CV.fit cvsFit a1sFit nilFit
attribute [go_sem] cond_true cond_false decide_eq_true_eq List.map_cons List.map_nil List.cons_append List.nil_append List.all_cons List.all_nil List.any_cons List.any_nil Bool.and_self Bool.and_true Bool.true_and Bool.false_and Bool.and_false Bool.not_false Bool.not_true Bool.or_self Bool.or_true Bool.true_or Bool.or_false Bool.false_or Bool.false_eq_true if_true if_false true_and and_true List.zip_cons_cons List.zip_nil_left List.zip_nil_right List.set_cons_zero List.set_cons_succ List.length_cons List.length_nil and_self List.drop_zero List.drop_succ_cons List.take_succ_cons List.take_zero List.getElem?_toArray List.getElem?_cons_zero List.getElem?_cons_succ List.toList_toArray List.isEmpty_nil List.isEmpty_cons Option.isSome_some Option.isSome_none
structure BB where
  lo : RR
  hi : RR
def ballCells (b : BB) : List CV := [.bool b.lo.s, .lim none b.lo.n, .lim none b.lo.d, .bool b.hi.s, .lim none b.hi.n, .lim none b.hi.d]
def ballV (b : BB) : AV := .one (.agg (ballCells b))
def BB.sz (b : BB) : Nat := max b.lo.sz b.hi.sz
def cellsBall : List CV → Option BB
  | [a, b, c, d, e, f] => match cellsRat [a, b, c], cellsRat [d, e, f] with
    | some x, some y => some ⟨x, y⟩
    | _, _ => none
  | _ => none
def paBall : AV → Option BB
  | .one (.agg l) => cellsBall l
  | _ => none
def BB.ok (b : BB) : Prop := b.lo.ok ∧ b.hi.ok
theorem ballV_parts {X : Nat → Nat → Prop} {w : World} {v : Value} {b : BB} (h : (ballV b).P X w v) : ∃ u1 u2, (ratV b.lo).P X w u1 ∧ (ratV b.hi).P X w u2 := by
  obtain ⟨vs, rfl, hl⟩ := h
  exact ⟨_, _, ⟨_, rfl, hl.take 3⟩, ⟨_, rfl, hl.drop 3⟩⟩
def aBall : Arg BB where
  pa := paBall
  un := ballV
  va := BB.ok
  ok := by
    intro v x h X w u hu
    unfold paBall at h
    split at h
    · rename_i l
      obtain ⟨vs, rfl, hl⟩ := hu
      refine ⟨vs, rfl, ?_⟩
      unfold cellsBall at h
      split at h
      · rename_i a b c d e f
        split at h
        · rename_i p q hp hq
          cases h
          have k1 := cellsRat_P hp (hl.take 3)
          have k2 := cellsRat_P hq (hl.drop 3)
          obtain ⟨x1, x2, x3, e1, g1, g2, g3⟩ := k1.three
          obtain ⟨y1, y2, y3, e2, f1, f2, f3⟩ := k2.three
          have : vs = [x1, x2, x3, y1, y2, y3] := by rw [← List.take_append_drop 3 vs, e1, e2]; rfl
          subst this
          exact .cons g1 (.cons g2 (.cons g3 (.cons f1 (.cons f2 (.cons f3 .nil)))))
        · cases h
      · cases h
    · cases h
  st := fun _ => rfl
  vd := fun x X w u hu => by
    obtain ⟨_, _, h1, h2⟩ := ballV_parts hu
    exact ⟨ratV_ok h1, ratV_ok h2⟩
attribute [go_sem] aBall ballV ballCells paBall cellsBall
@[go_sem] theorem eta_rat (r : RR) : (⟨r.s, r.n, r.d⟩ : RR) = r := rfl
@[go_sem] theorem eta_ball (b : BB) : (⟨b.lo, b.hi⟩ : BB) = b := rfl
end Go.Proofs.YtocpmekblkfdiaaGreatDoor
namespace Go.Proofs.YtocpmekblkfdiaaGreatDoor
open Go.RowKit
theorem cmpQ_lt0 (a b : Rat) : (cmpQ a b < 0) = (a < b) := by
  unfold cmpQ
  by_cases h : a < b
  · rw [if_pos h]; simp [h]
  · rw [if_neg h]; split <;> simp [h]
theorem cmpQ_gt0 (a b : Rat) : (0 < cmpQ a b) = (b < a) := by
  unfold cmpQ
  by_cases h : a < b
  · rw [if_pos h]; simp [Rat.not_lt.2 (Rat.le_of_lt h)]
  · rw [if_neg h]; split <;> simp [*]
theorem cmpQ_le0 (a b : Rat) : (cmpQ a b ≤ 0) = (a ≤ b) := by
  have := cmpQ_gt0 a b
  rw [← Int.not_lt, this, Rat.not_lt]
theorem cmpQ_ge0 (a b : Rat) : (0 ≤ cmpQ a b) = (b ≤ a) := by
  have := cmpQ_lt0 a b
  rw [← Int.not_lt, this, Rat.not_lt]
theorem cmpQ_eq0 (a b : Rat) : (cmpQ a b = 0) = (a = b) := propext (cmpQ_zero a b)
theorem cmpI_lt0 (a b : Nat) : (cmpI a b < 0) = (a < b) := propext cmpI_lt_zero
theorem cmpI_eq0 (a b : Nat) : (cmpI a b = 0) = (a = b) := propext cmpI_zero
theorem cmpI_gt0 (a b : Nat) : (0 < cmpI a b) = (b < a) := by
  unfold cmpI
  by_cases h : a < b
  · rw [if_pos h]; simp; omega
  · rw [if_neg h]; split <;> simp [*]
theorem cmpI_le0 (a b : Nat) : (cmpI a b ≤ 0) = (a ≤ b) := by
  have := cmpI_gt0 a b
  rw [← Int.not_lt, this, Nat.not_lt]
theorem cmpI_ge0 (a b : Nat) : (0 ≤ cmpI a b) = (b ≤ a) := by
  have := cmpI_lt0 a b
  rw [← Int.not_lt, this, Nat.not_lt]
theorem cr_s (q : Rat) : (cr q).s = ng q := rfl
theorem cr_n (q : Rat) : (cr q).n = limbs (nm q) := rfl
theorem cr_d (q : Rat) : (cr q).d = limbs q.den := rfl
attribute [go_sem] cmpQ_lt0 cmpQ_gt0 cmpQ_le0 cmpQ_ge0 cmpQ_eq0 cmpI_lt0 cmpI_gt0 cmpI_le0 cmpI_ge0 cmpI_eq0 cr_q cr_sz val_limbs
attribute [go_sem] AV.one.injEq A1.cel.injEq CV.bool.injEq CV.int.injEq A1.agg.injEq List.cons.injEq CV.lim.injEq AV.tup.injEq ne_eq reduceCtorEq not_false_eq_true Option.some.injEq RV.av.injEq RV.cv.injEq eq_self or_false or_true true_or false_or
theorem rsb_add {p q : Rat} {i j K : Nat} (hi : rs p ≤ i) (hj : rs q ≤ j) (h : i + j + 1 ≤ K) : rs (p + q) ≤ K := by have := rs_add p q; omega
theorem rsb_neg {p : Rat} {K : Nat} (hi : rs p ≤ K) : rs (-p) ≤ K := by rw [rs_neg]; exact hi
theorem rsb_sub {p q : Rat} {i j K : Nat} (hi : rs p ≤ i) (hj : rs q ≤ j) (h : i + j + 1 ≤ K) : rs (p - q) ≤ K := by
  rw [Rat.sub_eq_add_neg]; exact rsb_add hi (rsb_neg hj) h
theorem rsb_mul {p q : Rat} {i j K : Nat} (hi : rs p ≤ i) (hj : rs q ≤ j) (h : i + j ≤ K) : rs (p * q) ≤ K := by have := rs_mul p q; omega
theorem rsb_int {n : Int} {K : Nat} (h1 : -9223372036854775808 ≤ n) (h2 : n ≤ 9223372036854775808) (hK : 2 ≤ K) : rs (n : Rat) ≤ K := by
  refine Nat.le_trans ?_ hK
  unfold rs
  rw [(int_parts n).1, (int_parts n).2.1]
  exact Nat.max_le.2 ⟨limbs_len_le (by omega), by decide⟩
theorem rsb_floor {q : Rat} {i K : Nat} (hi : rs q ≤ i) (h : i + 1 ≤ K) : rs ((q.floor : Int) : Rat) ≤ K := by
  have h1 := rs_nm q
  refine Nat.le_trans ?_ h
  unfold rs
  rw [(fl_parts q).1, (int_parts _).2.1]
  refine Nat.max_le.2 ⟨?_, by have : (limbs 1).length = 1 := rfl; omega⟩
  have h2 : flN q ≤ nm q + 1 := by
    have := Nat.div_le_self (nm q) q.den
    unfold flN
    split <;> omega
  refine Nat.le_trans (limbs_len_mono h2) (Nat.le_trans (limbs_len_le (k := (limbs (nm q)).length + 1) ?_) (by omega))
  have h3 := lt_of_limbs_len (n := nm q) (Nat.le_refl _)
  rw [Nat.pow_succ]
  omega
theorem rr_q (r : RR) : qv r.s (val r.n) (val r.d) = r.q := rfl
attribute [go_sem] rr_q
theorem rsb_div {p q : Rat} {i j K : Nat} (hi : rs p ≤ i) (hj : rs q ≤ j) (h : i + j ≤ K) : rs (p / q) ≤ K := by have := rs_div p q; omega
theorem val_one : val [1] = 1 := rfl
attribute [go_sem] val_one List.getD_cons_zero List.getD_cons_succ
theorem toNat_cast (n : Nat) : Int.toNat (n : Int) = n := rfl
attribute [go_sem] toNat_cast Int.natCast_nonneg
attribute [go_sem] List.length_map
theorem getD_mem {α : Type} {l : List α} {i : Nat} {d : α} (h : i < l.length) : l.getD i d ∈ l := by
  simp [List.getD_eq_getElem?_getD, List.getElem?_eq_getElem h]
theorem RR.lens {r : RR} {K : Nat} (h : r.sz ≤ K) : r.n.length ≤ K ∧ r.d.length ≤ K := ⟨Nat.le_trans (Nat.le_max_left _ _) h, Nat.le_trans (Nat.le_max_right _ _) h⟩
theorem RR.sz_le {r : RR} {K : Nat} (h1 : r.n.length ≤ K) (h2 : r.d.length ≤ K) : r.sz ≤ K := Nat.max_le.2 ⟨h1, h2⟩
def noX : Nat → Nat → Prop := fun _ _ => False
theorem nt_P {w : World} {v : Value} {xs : List Nat} {b : Nat} (h : Nt b w v xs) : (limV xs).P noX w v := by
  have h1 : limG noX w v xs := by
    obtain ⟨ao, cap, h1, h2, h3, h4, h5⟩ := h
    refine ⟨ao, cap, h1, h2, h4.2, h3, fun hp => ?_⟩
    obtain ⟨b, off, hb, hc⟩ := h5 hp
    refine ⟨b, off, hb, fun i hi => ⟨?_, fun hx => hx.elim, hc i hi⟩⟩
    have := hc i hi
    unfold World.cell? at this
    split at this
    · rename_i e; exact (Array.getElem?_eq_some_iff.1 e).1
    · cases this
  simpa only [limV, AV.P, A1.P, CV.P] using h1
theorem rat_P {w : World} {s : Bool} {x y : Value} {A B : List Nat} {b c : Nat} (h : Nt b w x A) (k : Nt c w y B) : (ratV ⟨s, A, B⟩).P noX w (.agg #[.bool s, x, y]) :=
  ⟨[.bool s, x, y], rfl, .cons rfl (.cons (nt_P h) (.cons (nt_P k) .nil))⟩
theorem int_P {w : World} {n : Int} : (intV n).P noX w (.int .i64 n) := rfl
end Go.Proofs.YtocpmekblkfdiaaGreatDoor
namespace Go.Proofs.YtocpmekblkfdiaaGreatDoor
open Go.RowKit
set_option linter.unusedSimpArgs false
set_option linter.unusedVariables false
def d_ref2_Add : Den := den2 aRat aRat (fun a b => a.sz ≤ 10000000000 ∧ b.sz ≤ 10000000000) fun a b => ratV (cr (a.q + b.q))
set_option maxRecDepth 100000 in
set_option maxHeartbeats 1000000 in
theorem s_ref2_Add : Sound Tryz.prog 34 d_ref2_Add := by
  refine sound2 (fz := nofz) (l := [(36, d_ref2_Norm), (59, d_ref1_Mul), (19, d_ref1_Add), (13, d_ref2_Of), (86, d_ref1_Cmp), (57, d_ref1_Sub)]) TT_ok ⟨s_ref2_Norm, s_ref1_Mul, s_ref1_Add, s_ref2_Of, s_ref1_Cmp, s_ref1_Sub, trivial⟩ mixed Tryz.func34 Tryz.ntmps34 Tryz.results34 Tryz.call34 rfl (by omega) (fun _ _ => rfl) ?_
  intro a b hp ha hb
  rw [codeK_start]
  simp only [go_sem, d_ref2_Norm, d_ref1_Mul, d_ref1_Add, d_ref2_Of, d_ref1_Cmp, d_ref1_Sub, cr_n, cr_d, val_limbs, Nat.reduceBEq, Nat.reduceBNe, Nat.reduceLT, Nat.reduceLeDiff, Nat.reduceAdd, Nat.reduceSub, Nat.reduceMul, Nat.reduceEqDiff, Int.reduceNeg, Int.reduceAdd, Int.reduceLT, Int.reduceLE, Int.reduceToNat, ↓reduceIte]
  have sa := rs_ok ha hp.1 (by omega)
  have sb := rs_ok hb hp.2 (by omega)
  have na := Nat.le_trans (rs_nm a.q) sa
  have da := Nat.le_trans (rs_den a.q) sa
  have nb := Nat.le_trans (rs_nm b.q) sb
  have db := Nat.le_trans (rs_den b.q) sb
  have m1 := limbs_len_mul (nm a.q) b.q.den
  have m2 := limbs_len_mul (nm b.q) a.q.den
  have m3 := limbs_len_mul a.q.den b.q.den
  have m4 := limbs_len_mul (nm a.q) (nm b.q)
  have m5 := limbs_len_mul a.q.den (nm b.q)
  have m6 := limbs_len_add (nm a.q * b.q.den) (nm b.q * a.q.den)
  have m7 := limbs_len_mono (Nat.sub_le (nm a.q * b.q.den) (nm b.q * a.q.den))
  have m8 := limbs_len_mono (Nat.sub_le (nm b.q * a.q.den) (nm a.q * b.q.den))
  refine ⟨by omega, by omega, by kernel_rfl, ⟨by omega, by omega⟩, ⟨by omega, by omega⟩, by kernel_rfl, ⟨by omega, by omega⟩, ?_⟩
  by_cases h : ng a.q = ng b.q
  · rw [if_pos (show ((cr a.q).s == (cr b.q).s) = true from beq_iff_eq.2 h), show qv (cr a.q).s _ _ = _ from (add_same a.q b.q h).symm]
    and_intros
    all_goals first
    | omega
    | (show okDraw _ _ = true; kernel_rfl)
    | rfl
    | assumption
  · rw [if_neg (show ¬ ((cr a.q).s == (cr b.q).s) = true from fun e => h (beq_iff_eq.1 e))]
    refine ⟨⟨by omega, by omega⟩, ?_⟩
    split
    · rename_i hle
      rw [show qv (cr a.q).s _ _ = _ from (add_left a.q b.q h hle).symm]
      and_intros
      all_goals first
    | omega
    | (show okDraw _ _ = true; kernel_rfl)
    | rfl
    | assumption
    · rename_i hle
      rw [show qv (cr b.q).s _ _ = _ from (add_right a.q b.q h hle).symm]
      and_intros
      all_goals first
    | omega
    | (show okDraw _ _ = true; kernel_rfl)
    | rfl
    | assumption
def d_ref2_Sub : Den := den2 aRat aRat (fun a b => a.sz ≤ 10000000000 ∧ b.sz ≤ 10000000000) fun a b => ratV (cr (a.q - b.q))
set_option maxRecDepth 100000 in
set_option maxHeartbeats 1000000 in
theorem s_ref2_Sub : Sound Tryz.prog 12 d_ref2_Sub := by
  refine sound2 (fz := nofz) (l := [(35, d_ref2_Neg), (34, d_ref2_Add)]) TT_ok ⟨s_ref2_Neg, s_ref2_Add, trivial⟩ mixed Tryz.func12 Tryz.ntmps12 Tryz.results12 Tryz.call12 rfl (by omega) (fun _ _ => rfl) ?_
  intro a b hp ha hb
  rw [codeK_start]
  simp only [go_sem, d_ref2_Neg, d_ref2_Add, cr_n, cr_d, val_limbs, Nat.reduceBEq, Nat.reduceBNe, Nat.reduceLT, Nat.reduceLeDiff, Nat.reduceAdd, Nat.reduceSub, Nat.reduceMul, Nat.reduceEqDiff, Int.reduceNeg, Int.reduceAdd, Int.reduceLT, Int.reduceLE, Int.reduceToNat, ↓reduceIte]
  have sa := rs_ok ha hp.1 (by omega)
  have sb := rs_ok hb hp.2 (by omega)
  have na := Nat.le_trans (rs_nm a.q) sa
  have da := Nat.le_trans (rs_den a.q) sa
  have nb := Nat.le_trans (rs_nm b.q) sb
  have db := Nat.le_trans (rs_den b.q) sb
  have m1 := limbs_len_mul (nm a.q) b.q.den
  have m2 := limbs_len_mul (nm b.q) a.q.den
  have m3 := limbs_len_mul a.q.den b.q.den
  have m4 := limbs_len_mul (nm a.q) (nm b.q)
  have m5 := limbs_len_mul a.q.den (nm b.q)
  have m6 := rs_neg b.q
  have e : ({ s := (cr (-b.q)).s, n := limbs (nm (-b.q)), d := limbs (-b.q).den } : RR) = cr (-b.q) := rfl
  rw [e, cr_q, cr_sz, ← Rat.sub_eq_add_neg]
  and_intros
  all_goals first
    | omega
    | (show okDraw _ _ = true; kernel_rfl)
    | rfl
    | assumption
def d_ref2_Cmp : Den := den2 aRat aRat (fun a b => a.sz ≤ 10000000000 ∧ b.sz ≤ 10000000000) fun a b => intV (cmpQ a.q b.q)
set_option maxRecDepth 100000 in
set_option maxHeartbeats 1000000 in
theorem s_ref2_Cmp : Sound Tryz.prog 4 d_ref2_Cmp := by
  refine sound2 (fz := nofz) (l := [(12, d_ref2_Sub)]) TT_ok ⟨s_ref2_Sub, trivial⟩ mixed Tryz.func4 Tryz.ntmps4 Tryz.results4 Tryz.call4 rfl (by omega) (fun _ _ => rfl) ?_
  intro a b hp ha hb
  rw [codeK_start]
  simp only [go_sem, d_ref2_Sub, cr_n, cr_d, val_limbs, Nat.reduceBEq, Nat.reduceBNe, Nat.reduceLT, Nat.reduceLeDiff, Nat.reduceAdd, Nat.reduceSub, Nat.reduceMul, Nat.reduceEqDiff, Int.reduceNeg, Int.reduceAdd, Int.reduceLT, Int.reduceLE, Int.reduceToNat, ↓reduceIte]
  have sa := rs_ok ha hp.1 (by omega)
  have sb := rs_ok hb hp.2 (by omega)
  have na := Nat.le_trans (rs_nm a.q) sa
  have da := Nat.le_trans (rs_den a.q) sa
  have nb := Nat.le_trans (rs_nm b.q) sb
  have db := Nat.le_trans (rs_den b.q) sb
  have m1 := limbs_len_mul (nm a.q) b.q.den
  have m2 := limbs_len_mul (nm b.q) a.q.den
  have m3 := limbs_len_mul a.q.den b.q.den
  have m4 := limbs_len_mul (nm a.q) (nm b.q)
  have m5 := limbs_len_mul a.q.den (nm b.q)
  refine ⟨hp, ?_⟩
  have h0 := sub_len a.q b.q
  rw [show (cr (a.q - b.q)).s = ng (a.q - b.q) from rfl]
  rcases cmpQ_cases a.q b.q with ⟨h1, h2⟩ | ⟨h1, h2, h3⟩ | ⟨h1, h2, h3⟩
  · have hne : ¬ ((limbs (nm (a.q - b.q))).length : Int) = 0 := fun e => by
      have e2 := h0.1 (by omega)
      rw [e2, Rat.sub_self] at h1
      exact absurd h1 (by decide +kernel)
    rw [if_neg hne, if_pos h1, h2]
  · rw [if_neg (by omega), if_neg (by rw [h1]; decide), h3]
  · rw [if_pos (by omega), h3]
end Go.Proofs.YtocpmekblkfdiaaGreatDoor
namespace Go.Proofs.YtocpmekblkfdiaaGreatDoor
open Go.RowKit
set_option linter.unusedSimpArgs false
set_option linter.unusedVariables false
def oneB (a b : RR) : Bool := a.s == b.s && (decide (a.n = b.n) && decide (a.d = b.d))
theorem oneB_cr (p q : Rat) : oneB (cr p) (cr q) = decide (p = q) := by
  unfold oneB
  rw [Bool.eq_iff_iff]
  simp only [Bool.and_eq_true, beq_iff_eq, decide_eq_true_eq, cr_s, cr_n, cr_d]
  constructor
  · rintro ⟨h1, h2, h3⟩
    rw [← cr_q p, ← cr_q q]
    have h2 := of_decide_eq_true h2
    have h3 := of_decide_eq_true h3
    simp only [RR.q, cr, h1, h2, h3]
  · rintro rfl; exact ⟨rfl, decide_eq_true rfl, decide_eq_true rfl⟩
theorem oneB_self (a : RR) : oneB a a = true := by simp [oneB]
attribute [go_sem] oneB_cr oneB_self
end Go.Proofs.YtocpmekblkfdiaaGreatDoor
