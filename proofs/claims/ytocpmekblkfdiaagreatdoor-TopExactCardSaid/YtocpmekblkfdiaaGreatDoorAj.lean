/- The abstract walk, tenth part: code; functions. No condition. The abstract walk, eleventh part: kinds of arguments, denotations, rationals as rows of limbs. No condition. -/
import Derived.Test.YtocpmekblkfdiaaGreatDoorAh
import Derived.Test.YtocpmekblkfdiaaGreatDoorGD
namespace Go.Proofs.YtocpmekblkfdiaaGreatDoor
open Go.RowKit
inductive AEx where
  | normal
  | ret
  | exit (id : Nat)
def AEx.toExit : AEx → Exit
  | .normal => .normal
  | .ret => .ret
  | .exit id => .exit id
/-- the state s says all that s' says -/
def Le (s s' : AS) : Prop := ∀ N X0 w0 a w g who, Gam N X0 w0 s a w g who → ∃ g' who', Gam N X0 w0 s' a w g' who'
def thenA (K : AS → Prop) (Q : AEx → AS → Prop) : AEx → AS → Prop
  | .normal, s => K s
  | .ret, s => Q .ret s
  | .exit id, s => Q (.exit id) s
def blockA (id : Nat) (Q : AEx → AS → Prop) : AEx → AS → Prop
  | .normal, s => Q .normal s
  | .ret, s => Q .ret s
  | .exit j, s => if j = id then Q .normal s else Q (.exit j) s
/-- a loop: a family of states, a measure -/
def LoopA (body : (AEx → AS → Prop) → AS → Prop) (Q : AEx → AS → Prop) (s : AS) : Prop :=
  ∃ (ι : Type) (inv : ι → AS) (m : ι → Nat) (i0 : ι), Le s (inv i0) ∧ ∀ i, body (thenA (fun s' => ∃ j, m j < m i ∧ Le s' (inv j)) Q) (inv i)
def condA (s : AS) (c : Operand) (A B : AS → Prop) : Prop :=
  match s.ev c with
  | .one (.cel (.bool b)) => (b = true → A s) ∧ (b = false → B s)
  | _ => False
def regionA (E : Env) (ops : Array Oper) (draw : Bool) (s : AS) (K : AS → Prop) : Prop :=
  match draw with
  | false => awpOps E ops ops.toList s K
  | true => awpDraw E ops s K
def awp (E : Env) : Code → (AEx → AS → Prop) → AS → Prop
  | .skip, Q, s => Q .normal s
  | .region id ops draw, Q, s => frzL (E.fz (2 * id)) s fun s => regionA E ops draw s fun s => frzL (E.fz (2 * id + 1)) s (Q .normal)
  | .seq x y, Q, s => awp E x (thenA (awp E y Q) Q) s
  | .cond c x y, Q, s => condA s c (awp E x Q) (awp E y Q)
  | .block id x, Q, s => awp E x (blockA id Q) s
  | .loop x, Q, s => LoopA (awp E x) Q s
  | .exit id, Q, s => Q (.exit id) s
  | .ret, Q, s => Q .ret s
  | _, _, _ => False
section
variable {P : Program} {E : Env} {X0 : Nat → Nat → Prop} {w0 : World}
/-- the states that an exit leaves with -/
def postOf (E : Env) (X0 : Nat → Nat → Prop) (w0 : World) (R : AEx → AS → Prop) (Q : Exit → Act → World → Prop) : Prop :=
  ∀ e s a w g who, R e s → Gam E.N X0 w0 s a w g who → Q e.toExit a w
theorem awp_sound (hE : EnvOk P E) (hm : P.follows .mixedOrders = true) : ∀ (c : Code) {R : AEx → AS → Prop} {Q : Exit → Act → World → Prop} {s : AS} {a : Act} {w : World} {g : Gh} {who : Nat → Option (Nat × Bool)},
    Gam E.N X0 w0 s a w g who → awp E c R s → postOf E X0 w0 R Q → c.wp P Q a w
  | .skip, R, Q, s, a, w, g, who, H, h, hq => wp_skip (hq .normal s a w g who h H)
  | .region id ops draw, R, Q, s, a, w, g, who, H, h, hq => by
    simp only [awp] at h
    obtain ⟨s, g, h, H⟩ := frzL_sound _ H h
    have hend : ∀ (s' : AS) (a' : Act) (w' : World) (g' : Gh) (who' : Nat → Option (Nat × Bool)), frzL (E.fz (2 * id + 1)) s' (R .normal) → Gam E.N X0 w0 s' a' w' g' who' → Q .normal a' w' := by
      intro s' a' w' g' who' hs H'
      obtain ⟨s2, g2, h2, H2⟩ := frzL_sound _ H' hs
      exact hq .normal s2 a' w' g2 who' h2 H2
    cases draw with
    | false => exact wp_region_list (awpOps_sound hE _ H h hend)
    | true => exact awpDraw_sound hE hm H h hend
  | .seq x y, R, Q, s, a, w, g, who, H, h, hq => by
    refine wp_seq (awp_sound hE hm x H h ?_)
    intro e s' a' w' g' who' hr H'
    cases e with
    | normal => exact awp_sound hE hm y H' hr hq
    | ret => exact hq .ret _ _ _ _ _ hr H'
    | exit id => exact hq (.exit id) _ _ _ _ _ hr H'
  | .cond c x y, R, Q, s, a, w, g, who, H, h, hq => by
    simp only [awp, condA] at h
    have hc := H.ev c
    split at h
    · rename_i b hb
      rw [hb] at hc
      have e : a.eval c = .bool b := hc
      refine wp_cond_split e (fun hb => awp_sound hE hm x H (h.1 hb) hq) (fun hb => awp_sound hE hm y H (h.2 hb) hq)
    · exact h.elim
  | .block id x, R, Q, s, a, w, g, who, H, h, hq => by
    refine wp_block (awp_sound hE hm x H h ?_)
    intro e s' a' w' g' who' hr H'
    cases e with
    | normal => exact hq .normal _ _ _ _ _ hr H'
    | ret => exact hq .ret _ _ _ _ _ hr H'
    | exit j =>
      simp only [blockA] at hr
      simp only [AEx.toExit, Exit.inBlock]
      split
      · rename_i hj; rw [if_pos hj] at hr; exact hq .normal _ _ _ _ _ hr H'
      · rename_i hj; rw [if_neg hj] at hr; exact hq (.exit j) _ _ _ _ _ hr H'
  | .loop x, R, Q, s, a, w, g, who, H, h, hq => by
    obtain ⟨ι, inv, m, i0, h0, hround⟩ := h
    have hdec : ∀ (p : Prop), Decidable p := fun p => Classical.propDecidable p
    let I : Act → World → Prop := fun a w => ∃ i g who, Gam E.N X0 w0 (inv i) a w g who
    have hleast : ∀ a w, I a w → ∃ n i g who, m i = n ∧ Gam E.N X0 w0 (inv i) a w g who ∧ ∀ j g' who', Gam E.N X0 w0 (inv j) a w g' who' → n ≤ m j := by
      intro a w ⟨i, g, who, hi⟩
      have : ∀ n i g who, m i = n → Gam E.N X0 w0 (inv i) a w g who → ∃ n i g who, m i = n ∧ Gam E.N X0 w0 (inv i) a w g who ∧ ∀ j g' who', Gam E.N X0 w0 (inv j) a w g' who' → n ≤ m j := by
        intro n
        induction n using Nat.strongRecOn with
        | _ n ih =>
          intro i g who hn hi
          by_cases hh : ∃ j g' who', Gam E.N X0 w0 (inv j) a w g' who' ∧ m j < n
          · obtain ⟨j, g', who', hj, hlt⟩ := hh
            exact ih (m j) hlt j g' who' rfl hj
          · exact ⟨n, i, g, who, hn, hi, fun j g' who' hj => Nat.le_of_not_lt fun hlt => hh ⟨j, g', who', hj, hlt⟩⟩
      exact this (m i) i g who rfl hi
    let μ : Act → World → Nat := fun a w => @dite _ (I a w) (hdec _) (fun h => (hleast a w h).choose) (fun _ => 0)
    have hμ : ∀ a w (h : I a w), ∃ i g who, m i = μ a w ∧ Gam E.N X0 w0 (inv i) a w g who ∧ ∀ j g' who', Gam E.N X0 w0 (inv j) a w g' who' → μ a w ≤ m j := by
      intro a w h
      have := (hleast a w h).choose_spec
      have e : μ a w = (hleast a w h).choose := by simp only [μ]; rw [dif_pos h]
      rw [e]; exact this
    obtain ⟨g0, who0, H0⟩ := h0 _ _ _ _ _ _ _ H
    refine wp_loop I μ ⟨i0, g0, who0, H0⟩ fun a1 w1 hI => ?_
    obtain ⟨i, g1, who1, hmi, H1, _⟩ := hμ a1 w1 hI
    refine awp_sound hE hm x H1 (hround i) ?_
    intro e s' a' w' g' who' hr H'
    cases e with
    | normal =>
      obtain ⟨j, hlt, hle⟩ := hr
      obtain ⟨g2, who2, H2⟩ := hle _ _ _ _ _ _ _ H'
      have hI' : I a' w' := ⟨j, g2, who2, H2⟩
      obtain ⟨_, _, _, _, _, hmin⟩ := hμ a' w' hI'
      exact ⟨hI', Nat.lt_of_le_of_lt (hmin j g2 who2 H2) (by rw [← hmi]; exact hlt)⟩
    | ret => exact hq .ret _ _ _ _ _ hr H'
    | exit id => exact hq (.exit id) _ _ _ _ _ hr H'
  | .exit id, R, Q, s, a, w, g, who, H, h, hq => wp_exit (hq (.exit id) s a w g who h H)
  | .ret, R, Q, s, a, w, g, who, H, h, hq => wp_ret (hq .ret s a w g who h H)
/-- a function's first state -/
def startOf : Nat → List AV → AS
  | _, [] => []
  | k, v :: vs => (k, 0, .av v) :: startOf (k + 1) vs
def a1Of : AV → Option A1
  | .one a => some a
  | _ => none
/-- what a function's state hands back -/
def resOf (E : Env) (s : AS) : ResultVar → Option A1
  | .tmp t => a1Of (s.ev (.tmp t))
  | .cell addr t => match s.ev (.tmp addr) with
    | .one (.cel (.ptr id off)) => match E.tt t with
      | some ti => match cvs ((keysFrom id (off + 1) ti.size).map fun r => s.get r.1 r.2) with
        | some cs => a1Of (ofCells ti.agg cs)
        | none => none
      | none => none
    | _ => none
def resAV (E : Env) (s : AS) (rs : List ResultVar) : AV :=
  match rs with
  | [r] => match resOf E s r with
    | some a => .one a
    | none => .any
  | [r1, r2] => match resOf E s r1, resOf E s r2 with
    | some a, some b => .tup [a, b]
    | _, _ => .any
  | [r1, r2, r3] => match resOf E s r1, resOf E s r2, resOf E s r3 with
    | some a, some b, some c => .tup [a, b, c]
    | _, _, _ => .any
  | [r1, r2, r3, r4] => match resOf E s r1, resOf E s r2, resOf E s r3, resOf E s r4 with
    | some a, some b, some c, some d => .tup [a, b, c, d]
    | _, _, _, _ => .any
  | _ => .any
/-- what one knowledge says, another one says too -/
def AVle (x y : AV) : Prop := ∀ X w v, x.P X w v → y.P X w v
theorem A1.P.evo {X X' : Nat → Nat → Prop} {w w' : World} (e : Evo X w X' w') {x : A1} {v : Value} (h : x.P X w v) : x.P X' w' v := by
  cases x with
  | cel c => exact CV.P.evo e c h
  | agg l =>
    obtain ⟨vs, hv, hl⟩ := h
    exact ⟨vs, hv, hl.imp fun c v hc => hc.evo e c⟩
theorem AV.P.evo {X X' : Nat → Nat → Prop} {w w' : World} (e : Evo X w X' w') {x : AV} {v : Value} (h : x.P X w v) : x.P X' w' v := by
  cases x with
  | one c => exact A1.P.evo e h
  | tup l =>
    obtain ⟨vs, hv, hl⟩ := h
    exact ⟨vs, hv, hl.imp fun c v hc => hc.evo e⟩
  | any => trivial
  | und => exact h
theorem AVle.refl (x : AV) : AVle x x := fun _ _ _ h => h
def oneRes (tmps : Array Value) : ResultVar → Sem Value
  | .tmp t => pure (tmps.getD t undef)
  | .cell a t => do loadVar t (← asAddr (tmps.getD a undef))
theorem resOf_run (hE : EnvOk P E) {N : Nat} {s : AS} {a : Act} {w : World} {g : Gh} {who : Nat → Option (Nat × Bool)} (H : Gam N X0 w0 s a w g who) {r : ResultVar} {x : A1} (h : resOf E s r = some x) :
    ∃ v, (oneRes a.tmps r).run P w = .ok v w ∧ x.G g w v := by
  cases r with
  | tmp t =>
    refine ⟨a.eval (.tmp t), by simp [oneRes, Act.eval], ?_⟩
    have hx := H.ev (.tmp t)
    simp only [resOf] at h
    generalize s.ev (.tmp t) = av at *
    cases av with
    | one y => simp only [a1Of, Option.some.injEq] at h; subst h; exact hx
    | tup _ => simp [a1Of] at h
    | any => simp [a1Of] at h
    | und => simp [a1Of] at h
  | cell addr t =>
    have hx := H.ev (.tmp addr)
    simp only [resOf] at h
    generalize s.ev (.tmp addr) = av at *
    split at h
    · rename_i id off
      split at h
      · rename_i ti ht
        split at h
        · rename_i cs hc
          have hti := hE.tt _ _ ht
          obtain ⟨vs, h1, h2, h3⟩ := cells_G id off 0 cs H.res (by simpa using hc)
          simp only [Nat.add_zero] at h3
          have hp : a.tmps.getD addr undef = .pointer (some ⟨g.σ id, off, none⟩) := hx
          obtain ⟨la, lb⟩ := load_run (P := P) hti h2 h3
          obtain ⟨ga, gb⟩ := ofCells_G (g := g) (w := w) (agg := ti.agg) h1
          cases hag : ti.agg with
          | true =>
            rw [hag] at ga h
            refine ⟨.agg vs.toArray, by simp [oneRes, hp, asAddr, la hag], ?_⟩
            have := ga rfl
            simp only [ofCells, a1Of, Option.some.injEq] at h
            subst h
            exact this
          | false =>
            rw [hag] at gb h
            obtain ⟨v, hv, hl⟩ := lb hag
            refine ⟨v, by simp [oneRes, hp, asAddr, hl], ?_⟩
            have := gb rfl v hv
            generalize ofCells false cs = av2 at *
            cases av2 with
            | one y => simp only [a1Of, Option.some.injEq] at h; subst h; exact this
            | tup _ => simp [a1Of] at h
            | any => simp [a1Of] at h
            | und => simp [a1Of] at h
        · cases h
      · cases h
    · cases h
theorem results_eq (fn : Func) (tmps : Array Value) : results fn tmps = (fn.results.mapM (oneRes tmps)) >>= fun vs => pure (if h : vs.size = 1 then vs[0] else .tuple vs) := by
  unfold results
  rfl
theorem resAV_run (hE : EnvOk P E) {N : Nat} {s : AS} {a : Act} {w : World} {g : Gh} {who : Nat → Option (Nat × Bool)} (H : Gam N X0 w0 s a w g who) (fn : Func) {rs : List ResultVar} (hrs : fn.results = rs.toArray) (hne : resAV E s rs ≠ .any) :
    ∃ v, (results fn a.tmps).run P w = .ok v w ∧ (resAV E s rs).G g w v := by
  rw [results_eq, hrs]
  unfold resAV at hne ⊢
  split at hne
  · rename_i r1
    split at hne
    · rename_i x1 h1
      obtain ⟨v1, e1, g1⟩ := resOf_run hE H h1
      exact ⟨v1, by simp [Array.mapM_eq_mapM_toList, e1], g1⟩
    · exact absurd rfl hne
  · rename_i r1 r2
    split at hne
    · rename_i x1 x2 h1 h2
      obtain ⟨v1, e1, g1⟩ := resOf_run hE H h1
      obtain ⟨v2, e2, g2⟩ := resOf_run hE H h2
      exact ⟨.tuple #[v1, v2], by simp [Array.mapM_eq_mapM_toList, e1, e2, Result.andThen], [v1, v2], rfl, .cons g1 (.cons g2 .nil)⟩
    · exact absurd rfl hne
  · rename_i r1 r2 r3
    split at hne
    · rename_i x1 x2 x3 h1 h2 h3
      obtain ⟨v1, e1, g1⟩ := resOf_run hE H h1
      obtain ⟨v2, e2, g2⟩ := resOf_run hE H h2
      obtain ⟨v3, e3, g3⟩ := resOf_run hE H h3
      exact ⟨.tuple #[v1, v2, v3], by simp [Array.mapM_eq_mapM_toList, e1, e2, e3, Result.andThen], [v1, v2, v3], rfl, .cons g1 (.cons g2 (.cons g3 .nil))⟩
    · exact absurd rfl hne
  · rename_i r1 r2 r3 r4
    split at hne
    · rename_i x1 x2 x3 x4 h1 h2 h3 h4
      obtain ⟨v1, e1, g1⟩ := resOf_run hE H h1
      obtain ⟨v2, e2, g2⟩ := resOf_run hE H h2
      obtain ⟨v3, e3, g3⟩ := resOf_run hE H h3
      obtain ⟨v4, e4, g4⟩ := resOf_run hE H h4
      exact ⟨.tuple #[v1, v2, v3, v4], by simp [Array.mapM_eq_mapM_toList, e1, e2, e3, e4, Result.andThen], [v1, v2, v3, v4], rfl, .cons g1 (.cons g2 (.cons g3 (.cons g4 .nil)))⟩
    · exact absurd rfl hne
  · exact absurd rfl hne
/-- knowledge of arguments, weakened -/
def argsLe (avs avs' : List AV) : Prop := ∀ X w vs, All2 (fun a v => AV.P X w a v) avs vs → All2 (fun a v => AV.P X w a v) avs' vs
theorem get_startOf : ∀ (avs : List AV) (k n k' : Nat) (r : RV), (startOf k avs).get n k' = some r → k' = 0 ∧ k ≤ n ∧ ∃ v, avs[n - k]? = some v ∧ r = .av v
  | [], k, n, k', r, h => by simp [startOf, AS.get] at h
  | v :: vs, k, n, k', r, h => by
    simp only [startOf] at h
    by_cases hnk : k = n ∧ 0 = k'
    · obtain ⟨rfl, rfl⟩ := hnk
      rw [AS.get_cons_self] at h
      cases h
      exact ⟨rfl, Nat.le_refl _, v, by simp, rfl⟩
    · rw [AS.get_cons_ne _ _ hnk] at h
      obtain ⟨h1, h2, u, h3, h4⟩ := get_startOf vs (k + 1) n k' r h
      exact ⟨h1, by omega, u, by rw [show n - k = n - (k + 1) + 1 by omega]; simpa using h3, h4⟩
/-- nil will do for an empty row -/
def nilFit : CV → Prop
  | .lim none xs => xs = []
  | .sl none _ rows => rows = []
  | .nil => True
  | _ => False
def CV.fit : CV → CV → Prop
  | .nil, y => nilFit y
  | x, y => x = y
def cvsFit : List CV → List CV → Prop
  | [], [] => True
  | x :: l, y :: m => x.fit y ∧ cvsFit l m
  | _, _ => False
def A1.fit : A1 → A1 → Prop
  | .cel x, .cel y => x.fit y
  | .agg l, .agg m => cvsFit l m
  | _, _ => False
def a1sFit : List A1 → List A1 → Prop
  | [], [] => True
  | x :: l, y :: m => x.fit y ∧ a1sFit l m
  | _, _ => False
def AV.fit : AV → AV → Prop
  | .one x, .one y => x.fit y
  | .tup l, .tup m => a1sFit l m
  | _, _ => False
theorem CV.fit_G {g : Gh} {w : World} {x y : CV} {v : Value} (h : x.fit y) (hx : x.G g w v) : y.G g w v := by
  unfold CV.fit at h
  split at h
  · have e : v = .slice none 0 0 := hx
    subst e
    unfold nilFit at h
    split at h
    · subst h; exact ⟨⟨none, 0, rfl, by simp, fun _ => rfl, by simp, by simp⟩, trivial⟩
    · subst h; exact ⟨by simp only [CV.P]; exact ⟨none, 0, rfl, by simp, by simp, by simp⟩, trivial⟩
    · exact hx
    · exact h.elim
  · subst h; exact hx
theorem cvsFit_G {g : Gh} {w : World} : ∀ {l m : List CV} {vs : List Value}, cvsFit l m → All2 (fun c v => CV.G g w c v) l vs → All2 (fun c v => CV.G g w c v) m vs
  | [], [], _, _, h => h
  | _ :: _, _ :: _, _, h, .cons hx ht => .cons (CV.fit_G h.1 hx) (cvsFit_G h.2 ht)
theorem A1.fit_G {g : Gh} {w : World} {x y : A1} {v : Value} (h : x.fit y) (hx : x.G g w v) : y.G g w v := by
  cases x <;> cases y <;> first | exact h.elim | skip
  · exact CV.fit_G h hx
  · obtain ⟨vs, hv, hl⟩ := hx; exact ⟨vs, hv, cvsFit_G h hl⟩
theorem a1sFit_G {g : Gh} {w : World} : ∀ {l m : List A1} {vs : List Value}, a1sFit l m → All2 (fun c v => A1.G g w c v) l vs → All2 (fun c v => A1.G g w c v) m vs
  | [], [], _, _, h => h
  | _ :: _, _ :: _, _, h, .cons hx ht => .cons (A1.fit_G h.1 hx) (a1sFit_G h.2 ht)
theorem AV.fit_G {g : Gh} {w : World} {x y : AV} {v : Value} (h : x.fit y) (hx : x.G g w v) : y.G g w v := by
  cases x <;> cases y <;> first | exact h.elim | skip
  · exact A1.fit_G h hx
  · obtain ⟨vs, hv, hl⟩ := hx; exact ⟨vs, hv, a1sFit_G h hl⟩
/-- what is asked of a function's end -/
def endsA (E : Env) (rs : List ResultVar) (v : AV) : AEx → AS → Prop
  | .exit _, _ => False
  | .normal, s => (resAV E s rs).fit v
  | .ret, s => (resAV E s rs).fit v
/-- A FUNCTION: what its code makes of its first state is what the denotation says -/
theorem sound_of_awp (hE : EnvOk P E) (hm : P.follows .mixedOrders = true) {f : Nat} {fn : Func} {c : Code} {d : Den} {rs : List ResultVar} (hf : P.funcs[f]? = some fn) (hc : fn.body = some c) (hn : fn.ntmps = E.N) (hrs : fn.results = rs.toArray)
    (hcall : ∀ (args : Array Value) (w : World), (callFunc f args).run P w = .ok (.enter f args) w) (hflat : ∀ avs, (d avs).1 → (d avs).2.strip = (d avs).2)
    (h : ∀ avs X w vs, (d avs).1 → All2 (fun a v => AV.P X w a v) avs vs → ∃ avs', argsLe avs avs' ∧ avs'.length ≤ E.N ∧ avs'.map AV.strip = avs' ∧
      awp E c (endsA E rs (d avs).2) (startOf 0 avs')) : Sound P f d := by
  refine ⟨hcall, fun avs X w vs hd hX hvs => ?_, hflat⟩
  obtain ⟨avs', hle, hlen, hst, hawp⟩ := h avs X w vs hd hvs
  have hvs' := hle X w vs hvs
  refine calls_of_wp hf hc ?_
  have H : Gam E.N X w (startOf 0 avs') { tmps := vs.toArray ++ Array.replicate (fn.ntmps - vs.toArray.size) undef, defers := [] } w ⟨fun _ => 0, fun _ => 0, X⟩ (fun _ => none) := by
    have hl := hvs'.len
    refine ⟨rfl, ?_, Below.refl _ _, fun b o h => ⟨h, hX b o h⟩, fun _ _ h => .inl h, hX, (fun _ _ h => by cases h), fun n k r hr => ?_⟩
    · simp [hn]; omega
    · obtain ⟨h1, h2, v, h3, h4⟩ := get_startOf _ _ _ _ _ hr
      subst h4 h1
      obtain ⟨u, hu, hP⟩ := hvs'.get h3
      have hu' : vs[n]? = some u := by simpa using hu
      have hlt : n < vs.length := (List.getElem?_eq_some_iff.1 hu').1
      refine ⟨rfl, by simp; omega, ?_⟩
      have : (vs.toArray ++ Array.replicate (fn.ntmps - vs.toArray.size) undef).getD n undef = u := by
        rw [Array.getD_eq_getD_getElem?, Array.getElem?_append_left (by simpa using hlt)]
        simp [hu']
      rw [this]
      exact AV.P.toG' hP (map_self hst _ (List.mem_of_getElem? h3))
  refine awp_sound hE hm c H hawp ?_
  intro e s a' w' g who hr H'
  have key : (resAV E s rs).fit (d avs).2 → a'.defers = [] ∧ ∃ v, (results fn a'.tmps).run P w' = .ok v w' ∧ ∃ u, Ending.returned v = .returned u ∧ (d avs).2.P X w' u ∧ Below w.heap.size w w' := by
    intro hr
    obtain ⟨v, h1, h2⟩ := resAV_run hE H' fn hrs (fun e => by rw [e] at hr; exact hr)
    have h2 := AV.fit_G hr h2
    refine ⟨H'.defers, v, h1, v, rfl, ?_, H'.below⟩
    have := h2.strip
    rw [hflat avs hd] at this
    exact this.evo ⟨Nat.le_refl _, fun b o _ hx => ⟨rfl, fun hX => hx (H'.sub b o hX).1⟩⟩
  cases e with
  | exit id => exact hr.elim
  | normal => exact key hr
  | ret => exact key hr
/-- A LAW, where a variable holds an int: its first state says so -/
theorem soundG_of_awp (hE : EnvOk P E) (hm : P.follows .mixedOrders = true) {f : Nat} {fn : Func} {c : Code} {d : Den} {rs : List ResultVar} (hf : P.funcs[f]? = some fn) (hc : fn.body = some c) (hn : fn.ntmps = E.N) (hrs : fn.results = rs.toArray)
    (hcall : ∀ (args : Array Value) (w : World), (callFunc f args).run P w = .ok (.enter f args) w) (hflat : ∀ avs, (d avs).1 → (d avs).2.strip = (d avs).2)
    (h : ∀ avs X w vs, (d avs).1 → All2 (fun a v => AV.P X w a v) avs vs → ∃ avs', argsLe avs avs' ∧ avs'.length ≤ E.N ∧ avs'.map AV.strip = avs' ∧
      awp E c (endsA E rs (d avs).2) ((999999, 1, .ext glP) :: startOf 0 avs')) : SoundG P f d := by
  refine ⟨hcall, fun avs X w vs hd hX hgl hvs => ?_, hflat⟩
  obtain ⟨avs', hle, hlen, hst, hawp⟩ := h avs X w vs hd hvs
  have hvs' := hle X w vs hvs
  refine calls_of_wp hf hc ?_
  have H : Gam E.N X w ((999999, 1, .ext glP) :: startOf 0 avs') { tmps := vs.toArray ++ Array.replicate (fn.ntmps - vs.toArray.size) undef, defers := [] } w ⟨fun _ => 0, fun _ => 0, X⟩ (fun _ => none) := by
    have hl := hvs'.len
    refine ⟨rfl, ?_, Below.refl _ _, fun b o h => ⟨h, hX b o h⟩, fun _ _ h => .inl h, hX, (fun _ _ h => by cases h), fun n k r hr => ?_⟩
    · simp [hn]; omega
    · by_cases h0 : 999999 = n ∧ 1 = k
      · obtain ⟨rfl, rfl⟩ := h0
        rw [AS.get_cons_self] at hr
        cases hr
        refine ⟨by omega, ⟨rfl, hgl⟩, ?_⟩
        rintro u v X1 who1 w1 X2 who2 w2 ⟨q1, q2, μ, q3⟩ ⟨s1, s2, s3, s4⟩
        refine ⟨?_, Nat.lt_of_lt_of_le q2 s1, μ, ?_⟩
        · cases hw : who2 gmlN with
          | none => rfl
          | some y =>
            rcases s2 gmlN (by rw [hw]; simp) with h | h
            · exact absurd q1 h
            · omega
        · have := s3 gmlN q2 q1
          unfold World.cell? at q3 ⊢
          simp only at q3 ⊢
          rw [this]
          exact q3
      rw [AS.get_cons_ne _ _ h0] at hr
      obtain ⟨h1, h2, v, h3, h4⟩ := get_startOf _ _ _ _ _ hr
      subst h4 h1
      obtain ⟨u, hu, hP⟩ := hvs'.get h3
      have hu' : vs[n]? = some u := by simpa using hu
      have hlt : n < vs.length := (List.getElem?_eq_some_iff.1 hu').1
      refine ⟨rfl, by simp; omega, ?_⟩
      have : (vs.toArray ++ Array.replicate (fn.ntmps - vs.toArray.size) undef).getD n undef = u := by
        rw [Array.getD_eq_getD_getElem?, Array.getElem?_append_left (by simpa using hlt)]
        simp [hu']
      rw [this]
      exact AV.P.toG' hP (map_self hst _ (List.mem_of_getElem? h3))
  refine awp_sound hE hm c H hawp ?_
  intro e s a' w' g who hr H'
  have key : (resAV E s rs).fit (d avs).2 → a'.defers = [] ∧ ∃ v, (results fn a'.tmps).run P w' = .ok v w' ∧ ∃ u, Ending.returned v = .returned u ∧ (d avs).2.P X w' u ∧ Below w.heap.size w w' := by
    intro hr
    obtain ⟨v, h1, h2⟩ := resAV_run hE H' fn hrs (fun e => by rw [e] at hr; exact hr)
    have h2 := AV.fit_G hr h2
    refine ⟨H'.defers, v, h1, v, rfl, ?_, H'.below⟩
    have := h2.strip
    rw [hflat avs hd] at this
    exact this.evo ⟨Nat.le_refl _, fun b o _ hx => ⟨rfl, fun hX => hx (H'.sub b o hX).1⟩⟩
  cases e with
  | exit id => exact hr.elim
  | normal => exact key hr
  | ret => exact key hr
/-- how a function ends that changes a row -/
def endsM (p : Nat → Nat → (Nat → Nat → Prop) → (Nat → Option (Nat × Bool)) → World → Prop) (c : RC) : AEx → AS → Prop
  | .ret, s => s.get 0 1 = some (.row c) ∧ s.get 0 2 = some (.ext p)
  | .normal, s => s.get 0 1 = some (.row c) ∧ s.get 0 2 = some (.ext p)
  | .exit _, _ => False
end
end Go.Proofs.YtocpmekblkfdiaaGreatDoor
namespace Go.Proofs.YtocpmekblkfdiaaGreatDoor
open Go.RowKit
/-- a rational as a struct holds it: sign, limbs above, limbs below -/
structure RR where
  s : Bool
  n : List Nat
  d : List Nat
def RR.q (r : RR) : Rat := qv r.s (val r.n) (val r.d)
def RR.sz (r : RR) : Nat := max r.n.length r.d.length
/-- a rational's normal parts -/
def cr (q : Rat) : RR := ⟨ng q, limbs (nm q), limbs q.den⟩
theorem cr_q (q : Rat) : (cr q).q = q := by simp [RR.q, cr, val_limbs, qv_self]
theorem cr_sz (q : Rat) : (cr q).sz = rs q := rfl
def ratCells (r : RR) : List CV := [.bool r.s, .lim none r.n, .lim none r.d]
def ratV (r : RR) : AV := .one (.agg (ratCells r))
def limV (xs : List Nat) : AV := .one (.cel (.lim none xs))
def natV (n : Nat) : AV := limV (limbs n)
def intV (n : Int) : AV := .one (.cel (.int .i64 n))
def boolV (b : Bool) : AV := .one (.cel (.bool b))
def CV.lims : CV → Option (List Nat)
  | .nil => some []
  | .lim _ xs => some xs
  | _ => none
def cellsRat : List CV → Option RR
  | [.bool s, x, y] => match x.lims, y.lims with
    | some n, some d => some ⟨s, n, d⟩
    | _, _ => none
  | _ => none
theorem limG_nil (X : Nat → Nat → Prop) (w : World) : limG X w (.slice none 0 0) [] := ⟨none, 0, rfl, by simp, fun _ => rfl, by simp, by simp⟩
theorem CV.lims_P {X : Nat → Nat → Prop} {w : World} {c : CV} {v : Value} {xs : List Nat} (h : c.lims = some xs) (hp : c.P X w v) : limG X w v xs := by
  cases c <;> simp only [CV.lims, Option.some.injEq, reduceCtorEq] at h
  case nil => subst h; simp only [CV.P] at hp; subst hp; exact limG_nil X w
  case lim own ys => subst h; simpa only [CV.P] using hp
theorem cellsRat_P {X : Nat → Nat → Prop} {w : World} {l : List CV} {vs : List Value} {r : RR} (h : cellsRat l = some r) (hp : All2 (fun c v => CV.P X w c v) l vs) :
    All2 (fun c v => CV.P X w c v) (ratCells r) vs := by
  unfold cellsRat at h
  split at h
  · rename_i s x y
    split at h
    · rename_i n d hx hy
      cases h
      obtain ⟨u, v, z, rfl, hu, hv, hz⟩ := hp.three
      exact .cons hu (.cons (by simpa only [CV.P] using CV.lims_P hx hv) (.cons (by simpa only [CV.P] using CV.lims_P hy hz) .nil))
    · cases h
  · cases h
def limOk (xs : List Nat) : Prop := ∀ x ∈ xs, x < 4294967296
def RR.ok (r : RR) : Prop := limOk r.n ∧ limOk r.d
structure Arg (α : Type) where
  pa : AV → Option α
  un : α → AV
  va : α → Prop
  ok : ∀ v x, pa v = some x → AVle v (un x)
  st : ∀ x, (un x).strip = un x
  vd : ∀ x X w u, (un x).P X w u → va x
def paRat : AV → Option RR
  | .one (.agg l) => cellsRat l
  | _ => none
def paLim : AV → Option (List Nat)
  | .one (.cel c) => c.lims
  | _ => none
def paInt : AV → Option Int
  | .one (.cel (.int .i64 n)) => some n
  | _ => none
def paU64 : AV → Option Int
  | .one (.cel (.int .u64 n)) => some n
  | _ => none
def paU32 : AV → Option Int
  | .one (.cel (.int .u32 n)) => some n
  | _ => none
def paBool : AV → Option Bool
  | .one (.cel (.bool b)) => some b
  | _ => none
theorem limV_ok {X : Nat → Nat → Prop} {w : World} {v : Value} {xs : List Nat} (h : (limV xs).P X w v) : limOk xs := by
  have h : limG X w v xs := by simpa only [limV, AV.P, A1.P, CV.P] using h
  obtain ⟨_, _, _, _, _, h, _⟩ := h
  exact h
theorem ratV_ok {X : Nat → Nat → Prop} {w : World} {v : Value} {r : RR} (h : (ratV r).P X w v) : r.ok := by
  obtain ⟨vs, rfl, hl⟩ := h
  obtain ⟨u, x, y, rfl, hu, hx, hy⟩ := hl.three
  exact ⟨limV_ok (X := X) (w := w) (v := x) hx, limV_ok (X := X) (w := w) (v := y) hy⟩
def aRat : Arg RR where
  pa := paRat
  un := ratV
  va := RR.ok
  ok := by
    intro v x h X w u hu
    unfold paRat at h
    split at h
    · rename_i l
      obtain ⟨vs, rfl, hl⟩ := hu
      exact ⟨vs, rfl, cellsRat_P h hl⟩
    · cases h
  st := fun _ => rfl
  vd := fun x X w u hu => ratV_ok hu
def aLim : Arg (List Nat) where
  pa := paLim
  un := limV
  va := limOk
  ok := by
    intro v x h X w u hu
    unfold paLim at h
    split at h
    · rename_i c
      have : limG X w u x := CV.lims_P h hu
      show CV.P X w (.lim none x) u
      simpa only [CV.P] using this
    · cases h
  st := fun _ => rfl
  vd := fun x X w u hu => limV_ok hu
def aInt : Arg Int where
  pa := paInt
  un := intV
  va := fun _ => True
  ok := by
    intro v x h X w u hu
    unfold paInt at h
    split at h
    · cases h; exact hu
    · cases h
  st := fun _ => rfl
  vd := fun _ _ _ _ _ => trivial
def aU64 : Arg Int where
  pa := paU64
  un := fun n => .one (.cel (.int .u64 n))
  va := fun _ => True
  ok := by
    intro v x h X w u hu
    unfold paU64 at h
    split at h
    · cases h; exact hu
    · cases h
  st := fun _ => rfl
  vd := fun _ _ _ _ _ => trivial
def aU32 : Arg Int where
  pa := paU32
  un := fun n => .one (.cel (.int .u32 n))
  va := fun _ => True
  ok := by
    intro v x h X w u hu
    unfold paU32 at h
    split at h
    · cases h; exact hu
    · cases h
  st := fun _ => rfl
  vd := fun _ _ _ _ _ => trivial
def aBool : Arg Bool where
  pa := paBool
  un := boolV
  va := fun _ => True
  ok := by
    intro v x h X w u hu
    unfold paBool at h
    split at h
    · cases h; exact hu
    · cases h
  st := fun _ => rfl
  vd := fun _ _ _ _ _ => trivial
def den0 (f : AV) : Den := fun avs => match avs with
  | [] => (True, f)
  | _ => no
def den1 {α : Type} (A : Arg α) (pre : α → Prop) (f : α → AV) : Den := fun avs => match avs with
  | [x] => match A.pa x with
    | some a => (pre a, f a)
    | _ => no
  | _ => no
def den2 {α β : Type} (A : Arg α) (B : Arg β) (pre : α → β → Prop) (f : α → β → AV) : Den := fun avs => match avs with
  | [x, y] => match A.pa x, B.pa y with
    | some a, some b => (pre a b, f a b)
    | _, _ => no
  | _ => no
def den3 {α β γ : Type} (A : Arg α) (B : Arg β) (C : Arg γ) (pre : α → β → γ → Prop) (f : α → β → γ → AV) : Den := fun avs => match avs with
  | [x, y, z] => match A.pa x, B.pa y, C.pa z with
    | some a, some b, some c => (pre a b c, f a b c)
    | _, _, _ => no
  | _ => no
def den4 {α β γ δ : Type} (A : Arg α) (B : Arg β) (C : Arg γ) (D : Arg δ) (pre : α → β → γ → δ → Prop) (f : α → β → γ → δ → AV) : Den := fun avs => match avs with
  | [x, y, z, u] => match A.pa x, B.pa y, C.pa z, D.pa u with
    | some a, some b, some c, some d => (pre a b c d, f a b c d)
    | _, _, _, _ => no
  | _ => no
theorem den1_inv {α : Type} {A : Arg α} {pre : α → Prop} {f : α → AV} {avs : List AV} (h : (den1 A pre f avs).1) :
    ∃ a, argsLe avs [A.un a] ∧ pre a ∧ (den1 A pre f avs).2 = f a := by
  unfold den1 at h ⊢
  split at h
  · rename_i x
    split at h
    · rename_i a ha
      exact ⟨a, fun X w vs hv => by obtain ⟨u, rfl, hu⟩ := hv.one; exact .cons (A.ok _ _ ha _ _ _ hu) .nil, h, rfl⟩
    · exact h.elim
  · exact h.elim
theorem den2_inv {α β : Type} {A : Arg α} {B : Arg β} {pre : α → β → Prop} {f : α → β → AV} {avs : List AV} (h : (den2 A B pre f avs).1) :
    ∃ a b, argsLe avs [A.un a, B.un b] ∧ pre a b ∧ (den2 A B pre f avs).2 = f a b := by
  unfold den2 at h ⊢
  split at h
  · rename_i x y
    split at h
    · rename_i a b ha hb
      exact ⟨a, b, fun X w vs hv => by
        cases hv with | cons h1 t => cases t with | cons h2 t => cases t; exact .cons (A.ok _ _ ha _ _ _ h1) (.cons (B.ok _ _ hb _ _ _ h2) .nil), h, rfl⟩
    · exact h.elim
  · exact h.elim
theorem den3_inv {α β γ : Type} {A : Arg α} {B : Arg β} {C : Arg γ} {pre : α → β → γ → Prop} {f : α → β → γ → AV} {avs : List AV} (h : (den3 A B C pre f avs).1) :
    ∃ a b c, argsLe avs [A.un a, B.un b, C.un c] ∧ pre a b c ∧ (den3 A B C pre f avs).2 = f a b c := by
  unfold den3 at h ⊢
  split at h
  · rename_i x y z
    split at h
    · rename_i a b c ha hb hc
      exact ⟨a, b, c, fun X w vs hv => by
        cases hv with | cons h1 t => cases t with | cons h2 t => cases t with | cons h3 t => cases t; exact .cons (A.ok _ _ ha _ _ _ h1) (.cons (B.ok _ _ hb _ _ _ h2) (.cons (C.ok _ _ hc _ _ _ h3) .nil)), h, rfl⟩
    · exact h.elim
  · exact h.elim
theorem den4_inv {α β γ δ : Type} {A : Arg α} {B : Arg β} {C : Arg γ} {D : Arg δ} {pre : α → β → γ → δ → Prop} {f : α → β → γ → δ → AV} {avs : List AV} (h : (den4 A B C D pre f avs).1) :
    ∃ a b c d, argsLe avs [A.un a, B.un b, C.un c, D.un d] ∧ pre a b c d ∧ (den4 A B C D pre f avs).2 = f a b c d := by
  unfold den4 at h ⊢
  split at h
  · rename_i x y z u
    split at h
    · rename_i a b c d ha hb hc hd
      exact ⟨a, b, c, d, fun X w vs hv => by
        cases hv with | cons h1 t => cases t with | cons h2 t => cases t with | cons h3 t => cases t with | cons h4 t => cases t; exact .cons (A.ok _ _ ha _ _ _ h1) (.cons (B.ok _ _ hb _ _ _ h2) (.cons (C.ok _ _ hc _ _ _ h3) (.cons (D.ok _ _ hd _ _ _ h4) .nil))), h, rfl⟩
    · exact h.elim
  · exact h.elim
def fnOf : List (Nat × Den) → Nat → Option Den
  | [], _ => none
  | (f, d) :: l, n => if (n == f) = true then some d else fnOf l n
/-- an entry of a table: from K on the answers lie in new memory; from twice K on a row is changed -/
def SoundEK (K : Nat) (P : Program) (f : Nat) (d : Den) : Prop := bif Nat.blt f K then Sound P f d else bif Nat.blt f (K + K) then SoundN P (f - K) d else bif Nat.blt f (K + K + K) then SoundM P (f - (K + K)) d else SoundG P (f - (K + K + K)) d
theorem sound_of_EK {K : Nat} {P : Program} {f : Nat} {d : Den} (h : SoundEK K P f d) (hlt : f < K) : Sound P f d := by
  unfold SoundEK at h
  have hb : Nat.blt f K = true := by rw [Nat.blt_eq]; exact hlt
  rw [hb] at h
  exact h
theorem blt_no {a b : Nat} (h : ¬ a < b) : Nat.blt a b = false := by
  cases hx : Nat.blt a b with
  | false => rfl
  | true => rw [Nat.blt_eq] at hx; exact absurd hx h
theorem soundN_of_EK {K : Nat} {P : Program} {f : Nat} {d : Den} (h : SoundEK K P (f + K) d) (hlt : f < K) : SoundN P f d := by
  unfold SoundEK at h
  have hb2 : Nat.blt (f + K) (K + K) = true := by rw [Nat.blt_eq]; omega
  rw [blt_no (show ¬ f + K < K by omega), hb2, Nat.add_sub_cancel] at h
  exact h
theorem soundM_of_EK {K : Nat} {P : Program} {f : Nat} {d : Den} (h : SoundEK K P (f + (K + K)) d) (hlt : f < K) : SoundM P f d := by
  unfold SoundEK at h
  have hb3 : Nat.blt (f + (K + K)) (K + K + K) = true := by rw [Nat.blt_eq]; omega
  rw [blt_no (show ¬ f + (K + K) < K by omega), blt_no (show ¬ f + (K + K) < K + K by omega), hb3, Nat.add_sub_cancel] at h
  exact h
theorem soundG_of_EK {K : Nat} {P : Program} {f : Nat} {d : Den} (h : SoundEK K P (f + (K + K + K)) d) : SoundG P f d := by
  unfold SoundEK at h
  rw [blt_no (show ¬ f + (K + K + K) < K by omega), blt_no (show ¬ f + (K + K + K) < K + K by omega), blt_no (show ¬ f + (K + K + K) < K + K + K by omega), Nat.add_sub_cancel] at h
  exact h
def SoundAllK (K : Nat) (P : Program) : List (Nat × Den) → Prop
  | [] => True
  | (f, d) :: l => SoundEK K P f d ∧ SoundAllK K P l
abbrev SoundAll (P : Program) (l : List (Nat × Den)) : Prop := SoundAllK 1000000 P l
theorem fnOf_soundE {K : Nat} {P : Program} : ∀ {l : List (Nat × Den)}, SoundAllK K P l → ∀ f d, fnOf l f = some d → SoundEK K P f d
  | (f', d') :: l, h, f, d, hf => by
    unfold fnOf at hf
    split at hf
    · rename_i he
      cases hf
      rw [beq_iff_eq.1 he]
      exact h.1
    · exact fnOf_soundE h.2 f d hf
theorem fnOf_sound {K : Nat} {P : Program} {l : List (Nat × Den)} (h : SoundAllK K P l) (f : Nat) (d : Den) (hlt : f < K) (hf : fnOf l f = some d) : Sound P f d := sound_of_EK (fnOf_soundE h f d hf) hlt
theorem fnOf_soundN {K : Nat} {P : Program} {l : List (Nat × Den)} (h : SoundAllK K P l) (f : Nat) (d : Den) (hlt : f < K) (hf : fnOf l (f + K) = some d) : SoundN P f d := soundN_of_EK (fnOf_soundE h (f + K) d hf) hlt
theorem fnOf_soundM {K : Nat} {P : Program} {l : List (Nat × Den)} (h : SoundAllK K P l) (f : Nat) (d : Den) (hlt : f < K) (hf : fnOf l (f + (K + K)) = some d) : SoundM P f d := soundM_of_EK (fnOf_soundE h (f + (K + K)) d hf) hlt
theorem fnOf_soundG {K : Nat} {P : Program} {l : List (Nat × Den)} (h : SoundAllK K P l) (f : Nat) (d : Den) (hf : fnOf l (f + (K + K + K)) = some d) : SoundG P f d := soundG_of_EK (fnOf_soundE h (f + (K + K + K)) d hf)
theorem envOkK {K K2 K3 : Nat} {P : Program} {N : Nat} {tt : Nat → Option TI} {fz : Nat → List Nat} (ht : ∀ t ti, tt t = some ti → TIOk P t ti) {l : List (Nat × Den)} (h : SoundAllK K P l) (hK : K = 1000000) (hK2 : K2 = 2000000) (hKK : K2 = K + K) (hK3 : K3 = 3000000) (hKKK : K3 = K + K + K) : EnvOk P ⟨N, tt, fnOf l, fz⟩ := by
  refine ⟨ht, fun f d hlt hf => fnOf_sound h f d (by rw [hK]; exact hlt) hf, ?_, ?_, ?_⟩
  · rw [← hK]
    exact fun f d hlt hf => fnOf_soundN h f d hlt hf
  · rw [← hK2, hKK]
    exact fun f d hlt hf => fnOf_soundM h f d (by rw [hK]; exact hlt) hf
  · rw [← hK3, hKKK]
    exact fun f d _ hf => fnOf_soundG h f d hf
def TTOk (P : Program) (tt : Nat → Option TI) : Prop := ∀ t ti, tt t = some ti → TIOk P t ti
theorem envOk {P : Program} {N : Nat} {tt : Nat → Option TI} {fz : Nat → List Nat} (ht : TTOk P tt) {l : List (Nat × Den)} (h : SoundAll P l) : EnvOk P ⟨N, tt, fnOf l, fz⟩ := envOkK ht h rfl rfl (by omega) rfl (by omega)
section
variable {P : Program} {N : Nat} {tt : Nat → Option TI} {fz : Nat → List Nat} {l : List (Nat × Den)} {f : Nat} {fn : Func} {c : Code} {rs : List ResultVar}
/-- nothing is given up -/
def nofz : Nat → List Nat := fun _ => []
theorem soundV (ht : TTOk P tt) (hl : SoundAll P l) (hm : P.follows .mixedOrders = true) (hf : P.funcs[f]? = some fn) (hn : fn.ntmps = N) (hrs : fn.results = rs.toArray)
    (hcall : ∀ (args : Array Value) (w : World), (callFunc f args).run P w = .ok (.enter f args) w) (hc : fn.body = some c) {d : Den} (hflat : ∀ avs, (d avs).1 → (d avs).2.strip = (d avs).2)
    (h : ∀ avs X w vs, (d avs).1 → All2 (fun a v => AV.P X w a v) avs vs → ∃ avs', argsLe avs avs' ∧ avs'.length ≤ N ∧ avs'.map AV.strip = avs' ∧ awp ⟨N, tt, fnOf l, fz⟩ c (endsA ⟨N, tt, fnOf l, fz⟩ rs (d avs).2) (startOf 0 avs')) : Sound P f d := by
  exact sound_of_awp (E := ⟨N, tt, fnOf l, fz⟩) (envOk ht hl) hm hf hc hn hrs hcall hflat h
theorem sound1 {α : Type} {A : Arg α} (ht : TTOk P tt) (hl : SoundAll P l) (hm : P.follows .mixedOrders = true) (hf : P.funcs[f]? = some fn) (hn : fn.ntmps = N) (hrs : fn.results = rs.toArray)
    (hcall : ∀ (args : Array Value) (w : World), (callFunc f args).run P w = .ok (.enter f args) w) (hc : fn.body = some c) {pre : α → Prop} {r : α → AV} (hN : 1 ≤ N) (hflat : ∀ a, (r a).strip = r a)
    (h : ∀ a, pre a → A.va a → awp ⟨N, tt, fnOf l, fz⟩ c (endsA ⟨N, tt, fnOf l, fz⟩ rs (r a)) [(0, 0, .av (A.un a))]) : Sound P f (den1 A pre r) := by
  refine soundV (fz := fz) ht hl hm hf hn hrs hcall hc ?_ ?_
  · intro avs hd; obtain ⟨a, _, _, e⟩ := den1_inv hd; rw [e]; exact hflat a
  · intro avs X w vs hd hvs
    obtain ⟨a, h1, h2, e⟩ := den1_inv hd
    rw [e]
    have hvs' := h1 X w vs hvs
    cases hvs' with | cons v1 hvs' => exact ⟨_, h1, by simpa using hN, by simp [A.st], h a h2 (A.vd _ _ _ _ v1)⟩
theorem sound2 {α β : Type} {A : Arg α} {B : Arg β} (ht : TTOk P tt) (hl : SoundAll P l) (hm : P.follows .mixedOrders = true) (hf : P.funcs[f]? = some fn) (hn : fn.ntmps = N) (hrs : fn.results = rs.toArray)
    (hcall : ∀ (args : Array Value) (w : World), (callFunc f args).run P w = .ok (.enter f args) w) (hc : fn.body = some c) {pre : α → β → Prop} {r : α → β → AV} (hN : 2 ≤ N) (hflat : ∀ a b, (r a b).strip = r a b)
    (h : ∀ a b, pre a b → A.va a → B.va b → awp ⟨N, tt, fnOf l, fz⟩ c (endsA ⟨N, tt, fnOf l, fz⟩ rs (r a b)) [(0, 0, .av (A.un a)), (1, 0, .av (B.un b))]) : Sound P f (den2 A B pre r) := by
  refine soundV (fz := fz) ht hl hm hf hn hrs hcall hc ?_ ?_
  · intro avs hd; obtain ⟨a, b, _, _, e⟩ := den2_inv hd; rw [e]; exact hflat a b
  · intro avs X w vs hd hvs
    obtain ⟨a, b, h1, h2, e⟩ := den2_inv hd
    rw [e]
    have hvs' := h1 X w vs hvs
    cases hvs' with | cons v1 hvs' => cases hvs' with | cons v2 hvs' => exact ⟨_, h1, by simpa using hN, by simp [A.st, B.st], h a b h2 (A.vd _ _ _ _ v1) (B.vd _ _ _ _ v2)⟩
theorem sound3 {α β γ : Type} {A : Arg α} {B : Arg β} {C : Arg γ} (ht : TTOk P tt) (hl : SoundAll P l) (hm : P.follows .mixedOrders = true) (hf : P.funcs[f]? = some fn) (hn : fn.ntmps = N) (hrs : fn.results = rs.toArray)
    (hcall : ∀ (args : Array Value) (w : World), (callFunc f args).run P w = .ok (.enter f args) w) (hc : fn.body = some c) {pre : α → β → γ → Prop} {r : α → β → γ → AV} (hN : 3 ≤ N) (hflat : ∀ a b c, (r a b c).strip = r a b c)
    (h : ∀ a b d, pre a b d → A.va a → B.va b → C.va d → awp ⟨N, tt, fnOf l, fz⟩ c (endsA ⟨N, tt, fnOf l, fz⟩ rs (r a b d)) [(0, 0, .av (A.un a)), (1, 0, .av (B.un b)), (2, 0, .av (C.un d))]) : Sound P f (den3 A B C pre r) := by
  refine soundV (fz := fz) ht hl hm hf hn hrs hcall hc ?_ ?_
  · intro avs hd; obtain ⟨a, b, d, _, _, e⟩ := den3_inv hd; rw [e]; exact hflat a b d
  · intro avs X w vs hd hvs
    obtain ⟨a, b, d, h1, h2, e⟩ := den3_inv hd
    rw [e]
    have hvs' := h1 X w vs hvs
    cases hvs' with | cons v1 hvs' => cases hvs' with | cons v2 hvs' => cases hvs' with | cons v3 hvs' => exact ⟨_, h1, by simpa using hN, by simp [A.st, B.st, C.st], h a b d h2 (A.vd _ _ _ _ v1) (B.vd _ _ _ _ v2) (C.vd _ _ _ _ v3)⟩
end
theorem limG_nt {X : Nat → Nat → Prop} {w : World} {v : Value} {xs : List Nat} (h : limG X w v xs) : Nt 0 w v xs := by
  obtain ⟨ao, cap, h1, h2, h3, h4, h5⟩ := h
  exact ⟨ao, cap, h1, h2, h4, ⟨fun _ _ => Nat.zero_le _, h3⟩, fun hp => by obtain ⟨b, off, hb, hc⟩ := h5 hp; exact ⟨b, off, hb, fun i hi => (hc i hi).2.2⟩⟩
theorem nt_limG {X : Nat → Nat → Prop} {w w' : World} {v : Value} {xs : List Nat} (h : Nt w.heap.size w' v xs) (hX : ∀ b o, X b o → b < w.heap.size) : limG X w' v xs := by
  obtain ⟨ao, cap, h1, h2, h3, h4, h5⟩ := h
  refine ⟨ao, cap, h1, h2, h4.2, h3, fun hp => ?_⟩
  obtain ⟨b, off, hb, hc⟩ := h5 hp
  refine ⟨b, off, hb, fun i hi => ⟨?_, fun hx => ?_, hc i hi⟩⟩
  · have := hc i hi
    unfold World.cell? at this
    split at this
    · rename_i e; exact (Array.getElem?_eq_some_iff.1 e).1
    · cases this
  · have := h4.1 _ hb
    have := hX _ _ hx
    simp only at *
    omega
theorem rat_R {X : Nat → Nat → Prop} {w : World} {v : Value} {r : RR} {K : Nat} (h : (ratV r).P X w v) (hs : r.sz ≤ K) : RatR K w v r.q := by
  obtain ⟨vs, rfl, hl⟩ := h
  obtain ⟨u, x, y, rfl, hu, hx, hy⟩ := hl.three
  have e : u = .bool r.s := hu
  subst e
  have h1 : r.n.length ≤ K := Nat.le_trans (Nat.le_max_left _ _) hs
  have h2 : r.d.length ≤ K := Nat.le_trans (Nat.le_max_right _ _) hs
  exact ⟨r.s, x, y, r.n, r.d, rfl, limG_nt (by simpa only [CV.P] using hx), limG_nt (by simpa only [CV.P] using hy), rfl, h1, h2⟩
theorem rs_ok {r : RR} {K : Nat} (h : r.ok) (hs : r.sz ≤ K) (hK : 1 ≤ K) : rs r.q ≤ K :=
  rs_qv _ _ _ _ (Nat.le_trans (limbs_len_val h.1) (Nat.le_trans (Nat.le_max_left _ _) hs)) (Nat.le_trans (limbs_len_val h.2) (Nat.le_trans (Nat.le_max_right _ _) hs)) hK
theorem ratC_P {X : Nat → Nat → Prop} {w w' : World} {v : Value} {q : Rat} (h : RatC w.heap.size w' v q) (hX : ∀ b o, X b o → b < w.heap.size) : (ratV (cr q)).P X w' v := by
  obtain ⟨v1, v2, rfl, h1, h2⟩ := h
  refine ⟨[.bool (ng q), v1, v2], rfl, .cons rfl (.cons ?_ (.cons ?_ .nil))⟩
  · simp only [CV.P]; exact nt_limG h1 hX
  · simp only [CV.P]; exact nt_limG h2 hX
end Go.Proofs.YtocpmekblkfdiaaGreatDoor
