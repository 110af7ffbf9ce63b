/- The abstract walk, tenth part: code; functions. No condition. -/
import Derived.Test.YtdojdghhbjjoeaaAt
namespace Go.Proofs.Ytdojdghhbjjoeaa
open Go.RowKit

inductive AEx where
  | normal
  | ret
  | exit (id : Nat)

def AEx.toExit : AEx → Exit
  | .normal => .normal
  | .ret => .ret
  | .exit id => .exit id

/-- the state s says all that s' says -/
def Le (s s' : AS) : Prop := ∀ N X0 w0 a w g who, Gam N X0 w0 s a w g who → ∃ g' who', Gam N X0 w0 s' a w g' who'

def thenA (K : AS → Prop) (Q : AEx → AS → Prop) : AEx → AS → Prop
  | .normal, s => K s
  | .ret, s => Q .ret s
  | .exit id, s => Q (.exit id) s

def blockA (id : Nat) (Q : AEx → AS → Prop) : AEx → AS → Prop
  | .normal, s => Q .normal s
  | .ret, s => Q .ret s
  | .exit j, s => if j = id then Q .normal s else Q (.exit j) s

/-- a loop: a family of states, a measure -/
def LoopA (body : (AEx → AS → Prop) → AS → Prop) (Q : AEx → AS → Prop) (s : AS) : Prop :=
  ∃ (ι : Type) (inv : ι → AS) (m : ι → Nat) (i0 : ι), Le s (inv i0) ∧ ∀ i, body (thenA (fun s' => ∃ j, m j < m i ∧ Le s' (inv j)) Q) (inv i)

def condA (s : AS) (c : Operand) (A B : AS → Prop) : Prop :=
  match s.ev c with
  | .one (.cel (.bool b)) => (b = true → A s) ∧ (b = false → B s)
  | _ => False

def regionA (E : Env) (ops : Array Oper) (draw : Bool) (s : AS) (K : AS → Prop) : Prop :=
  match draw with
  | false => awpOps E ops ops.toList s K
  | true => awpDraw E ops s K

def awp (E : Env) : Code → (AEx → AS → Prop) → AS → Prop
  | .skip, Q, s => Q .normal s
  | .region id ops draw, Q, s => frzL (E.fz (2 * id)) s fun s => regionA E ops draw s fun s => frzL (E.fz (2 * id + 1)) s (Q .normal)
  | .seq x y, Q, s => awp E x (thenA (awp E y Q) Q) s
  | .cond c x y, Q, s => condA s c (awp E x Q) (awp E y Q)
  | .block id x, Q, s => awp E x (blockA id Q) s
  | .loop x, Q, s => LoopA (awp E x) Q s
  | .exit id, Q, s => Q (.exit id) s
  | .ret, Q, s => Q .ret s
  | _, _, _ => False

section
variable {P : Program} {E : Env} {X0 : Nat → Nat → Prop} {w0 : World}

/-- the states that an exit leaves with -/
def postOf (E : Env) (X0 : Nat → Nat → Prop) (w0 : World) (R : AEx → AS → Prop) (Q : Exit → Act → World → Prop) : Prop :=
  ∀ e s a w g who, R e s → Gam E.N X0 w0 s a w g who → Q e.toExit a w

theorem awp_sound (hE : EnvOk P E) (hm : P.follows .mixedOrders = true) : ∀ (c : Code) {R : AEx → AS → Prop} {Q : Exit → Act → World → Prop} {s : AS} {a : Act} {w : World} {g : Gh} {who : Nat → Option (Nat × Bool)},
    Gam E.N X0 w0 s a w g who → awp E c R s → postOf E X0 w0 R Q → c.wp P Q a w
  | .skip, R, Q, s, a, w, g, who, H, h, hq => wp_skip (hq .normal s a w g who h H)
  | .region id ops draw, R, Q, s, a, w, g, who, H, h, hq => by
    simp only [awp] at h
    obtain ⟨s, g, h, H⟩ := frzL_sound _ H h
    have hend : ∀ (s' : AS) (a' : Act) (w' : World) (g' : Gh) (who' : Nat → Option (Nat × Bool)), frzL (E.fz (2 * id + 1)) s' (R .normal) → Gam E.N X0 w0 s' a' w' g' who' → Q .normal a' w' := by
      intro s' a' w' g' who' hs H'
      obtain ⟨s2, g2, h2, H2⟩ := frzL_sound _ H' hs
      exact hq .normal s2 a' w' g2 who' h2 H2
    cases draw with
    | false => exact wp_region_list (awpOps_sound hE _ H h hend)
    | true => exact awpDraw_sound hE hm H h hend
  | .seq x y, R, Q, s, a, w, g, who, H, h, hq => by
    refine wp_seq (awp_sound hE hm x H h ?_)
    intro e s' a' w' g' who' hr H'
    cases e with
    | normal => exact awp_sound hE hm y H' hr hq
    | ret => exact hq .ret _ _ _ _ _ hr H'
    | exit id => exact hq (.exit id) _ _ _ _ _ hr H'
  | .cond c x y, R, Q, s, a, w, g, who, H, h, hq => by
    simp only [awp, condA] at h
    have hc := H.ev c
    split at h
    · rename_i b hb
      rw [hb] at hc
      have e : a.eval c = .bool b := hc
      refine wp_cond_split e (fun hb => awp_sound hE hm x H (h.1 hb) hq) (fun hb => awp_sound hE hm y H (h.2 hb) hq)
    · exact h.elim
  | .block id x, R, Q, s, a, w, g, who, H, h, hq => by
    refine wp_block (awp_sound hE hm x H h ?_)
    intro e s' a' w' g' who' hr H'
    cases e with
    | normal => exact hq .normal _ _ _ _ _ hr H'
    | ret => exact hq .ret _ _ _ _ _ hr H'
    | exit j =>
      simp only [blockA] at hr
      simp only [AEx.toExit, Exit.inBlock]
      split
      · rename_i hj; rw [if_pos hj] at hr; exact hq .normal _ _ _ _ _ hr H'
      · rename_i hj; rw [if_neg hj] at hr; exact hq (.exit j) _ _ _ _ _ hr H'
  | .loop x, R, Q, s, a, w, g, who, H, h, hq => by
    obtain ⟨ι, inv, m, i0, h0, hround⟩ := h
    have hdec : ∀ (p : Prop), Decidable p := fun p => Classical.propDecidable p
    let I : Act → World → Prop := fun a w => ∃ i g who, Gam E.N X0 w0 (inv i) a w g who
    have hleast : ∀ a w, I a w → ∃ n i g who, m i = n ∧ Gam E.N X0 w0 (inv i) a w g who ∧ ∀ j g' who', Gam E.N X0 w0 (inv j) a w g' who' → n ≤ m j := by
      intro a w ⟨i, g, who, hi⟩
      have : ∀ n i g who, m i = n → Gam E.N X0 w0 (inv i) a w g who → ∃ n i g who, m i = n ∧ Gam E.N X0 w0 (inv i) a w g who ∧ ∀ j g' who', Gam E.N X0 w0 (inv j) a w g' who' → n ≤ m j := by
        intro n
        induction n using Nat.strongRecOn with
        | _ n ih =>
          intro i g who hn hi
          by_cases hh : ∃ j g' who', Gam E.N X0 w0 (inv j) a w g' who' ∧ m j < n
          · obtain ⟨j, g', who', hj, hlt⟩ := hh
            exact ih (m j) hlt j g' who' rfl hj
          · exact ⟨n, i, g, who, hn, hi, fun j g' who' hj => Nat.le_of_not_lt fun hlt => hh ⟨j, g', who', hj, hlt⟩⟩
      exact this (m i) i g who rfl hi
    let μ : Act → World → Nat := fun a w => @dite _ (I a w) (hdec _) (fun h => (hleast a w h).choose) (fun _ => 0)
    have hμ : ∀ a w (h : I a w), ∃ i g who, m i = μ a w ∧ Gam E.N X0 w0 (inv i) a w g who ∧ ∀ j g' who', Gam E.N X0 w0 (inv j) a w g' who' → μ a w ≤ m j := by
      intro a w h
      have := (hleast a w h).choose_spec
      have e : μ a w = (hleast a w h).choose := by simp only [μ]; rw [dif_pos h]
      rw [e]; exact this
    obtain ⟨g0, who0, H0⟩ := h0 _ _ _ _ _ _ _ H
    refine wp_loop I μ ⟨i0, g0, who0, H0⟩ fun a1 w1 hI => ?_
    obtain ⟨i, g1, who1, hmi, H1, _⟩ := hμ a1 w1 hI
    refine awp_sound hE hm x H1 (hround i) ?_
    intro e s' a' w' g' who' hr H'
    cases e with
    | normal =>
      obtain ⟨j, hlt, hle⟩ := hr
      obtain ⟨g2, who2, H2⟩ := hle _ _ _ _ _ _ _ H'
      have hI' : I a' w' := ⟨j, g2, who2, H2⟩
      obtain ⟨_, _, _, _, _, hmin⟩ := hμ a' w' hI'
      exact ⟨hI', Nat.lt_of_le_of_lt (hmin j g2 who2 H2) (by rw [← hmi]; exact hlt)⟩
    | ret => exact hq .ret _ _ _ _ _ hr H'
    | exit id => exact hq (.exit id) _ _ _ _ _ hr H'
  | .exit id, R, Q, s, a, w, g, who, H, h, hq => wp_exit (hq (.exit id) s a w g who h H)
  | .ret, R, Q, s, a, w, g, who, H, h, hq => wp_ret (hq .ret s a w g who h H)

/-- a function's first state -/
def startOf : Nat → List AV → AS
  | _, [] => []
  | k, v :: vs => (k, 0, .av v) :: startOf (k + 1) vs

def a1Of : AV → Option A1
  | .one a => some a
  | _ => none

/-- what a function's state hands back -/
def resOf (E : Env) (s : AS) : ResultVar → Option A1
  | .tmp t => a1Of (s.ev (.tmp t))
  | .cell addr t => match s.ev (.tmp addr) with
    | .one (.cel (.ptr id off)) => match E.tt t with
      | some ti => match cvs ((keysFrom id (off + 1) ti.size).map fun r => s.get r.1 r.2) with
        | some cs => a1Of (ofCells ti.agg cs)
        | none => none
      | none => none
    | _ => none

def resAV (E : Env) (s : AS) (rs : List ResultVar) : AV :=
  match rs with
  | [r] => match resOf E s r with
    | some a => .one a
    | none => .any
  | [r1, r2] => match resOf E s r1, resOf E s r2 with
    | some a, some b => .tup [a, b]
    | _, _ => .any
  | [r1, r2, r3] => match resOf E s r1, resOf E s r2, resOf E s r3 with
    | some a, some b, some c => .tup [a, b, c]
    | _, _, _ => .any
  | [r1, r2, r3, r4] => match resOf E s r1, resOf E s r2, resOf E s r3, resOf E s r4 with
    | some a, some b, some c, some d => .tup [a, b, c, d]
    | _, _, _, _ => .any
  | _ => .any

/-- what one knowledge says, another one says too -/
def AVle (x y : AV) : Prop := ∀ X w v, x.P X w v → y.P X w v

theorem A1.P.evo {X X' : Nat → Nat → Prop} {w w' : World} (e : Evo X w X' w') {x : A1} {v : Value} (h : x.P X w v) : x.P X' w' v := by
  cases x with
  | cel c => exact CV.P.evo e c h
  | agg l =>
    obtain ⟨vs, hv, hl⟩ := h
    exact ⟨vs, hv, hl.imp fun c v hc => hc.evo e c⟩

theorem AV.P.evo {X X' : Nat → Nat → Prop} {w w' : World} (e : Evo X w X' w') {x : AV} {v : Value} (h : x.P X w v) : x.P X' w' v := by
  cases x with
  | one c => exact A1.P.evo e h
  | tup l =>
    obtain ⟨vs, hv, hl⟩ := h
    exact ⟨vs, hv, hl.imp fun c v hc => hc.evo e⟩
  | any => trivial
  | und => exact h

theorem AVle.refl (x : AV) : AVle x x := fun _ _ _ h => h

def oneRes (tmps : Array Value) : ResultVar → Sem Value
  | .tmp t => pure (tmps.getD t undef)
  | .cell a t => do loadVar t (← asAddr (tmps.getD a undef))

theorem resOf_run (hE : EnvOk P E) {N : Nat} {s : AS} {a : Act} {w : World} {g : Gh} {who : Nat → Option (Nat × Bool)} (H : Gam N X0 w0 s a w g who) {r : ResultVar} {x : A1} (h : resOf E s r = some x) :
    ∃ v, (oneRes a.tmps r).run P w = .ok v w ∧ x.G g w v := by
  cases r with
  | tmp t =>
    refine ⟨a.eval (.tmp t), by simp [oneRes, Act.eval], ?_⟩
    have hx := H.ev (.tmp t)
    simp only [resOf] at h
    generalize s.ev (.tmp t) = av at *
    cases av with
    | one y => simp only [a1Of, Option.some.injEq] at h; subst h; exact hx
    | tup _ => simp [a1Of] at h
    | any => simp [a1Of] at h
    | und => simp [a1Of] at h
  | cell addr t =>
    have hx := H.ev (.tmp addr)
    simp only [resOf] at h
    generalize s.ev (.tmp addr) = av at *
    split at h
    · rename_i id off
      split at h
      · rename_i ti ht
        split at h
        · rename_i cs hc
          have hti := hE.tt _ _ ht
          obtain ⟨vs, h1, h2, h3⟩ := cells_G id off 0 cs H.res (by simpa using hc)
          simp only [Nat.add_zero] at h3
          have hp : a.tmps.getD addr undef = .pointer (some ⟨g.σ id, off, none⟩) := hx
          obtain ⟨la, lb⟩ := load_run (P := P) hti h2 h3
          obtain ⟨ga, gb⟩ := ofCells_G (g := g) (w := w) (agg := ti.agg) h1
          cases hag : ti.agg with
          | true =>
            rw [hag] at ga h
            refine ⟨.agg vs.toArray, by simp [oneRes, hp, asAddr, la hag], ?_⟩
            have := ga rfl
            simp only [ofCells, a1Of, Option.some.injEq] at h
            subst h
            exact this
          | false =>
            rw [hag] at gb h
            obtain ⟨v, hv, hl⟩ := lb hag
            refine ⟨v, by simp [oneRes, hp, asAddr, hl], ?_⟩
            have := gb rfl v hv
            generalize ofCells false cs = av2 at *
            cases av2 with
            | one y => simp only [a1Of, Option.some.injEq] at h; subst h; exact this
            | tup _ => simp [a1Of] at h
            | any => simp [a1Of] at h
            | und => simp [a1Of] at h
        · cases h
      · cases h
    · cases h

theorem results_eq (fn : Func) (tmps : Array Value) : results fn tmps = (fn.results.mapM (oneRes tmps)) >>= fun vs => pure (if h : vs.size = 1 then vs[0] else .tuple vs) := by
  unfold results
  rfl

theorem resAV_run (hE : EnvOk P E) {N : Nat} {s : AS} {a : Act} {w : World} {g : Gh} {who : Nat → Option (Nat × Bool)} (H : Gam N X0 w0 s a w g who) (fn : Func) {rs : List ResultVar} (hrs : fn.results = rs.toArray) (hne : resAV E s rs ≠ .any) :
    ∃ v, (results fn a.tmps).run P w = .ok v w ∧ (resAV E s rs).G g w v := by
  rw [results_eq, hrs]
  unfold resAV at hne ⊢
  split at hne
  · rename_i r1
    split at hne
    · rename_i x1 h1
      obtain ⟨v1, e1, g1⟩ := resOf_run hE H h1
      exact ⟨v1, by simp [Array.mapM_eq_mapM_toList, e1], g1⟩
    · exact absurd rfl hne
  · rename_i r1 r2
    split at hne
    · rename_i x1 x2 h1 h2
      obtain ⟨v1, e1, g1⟩ := resOf_run hE H h1
      obtain ⟨v2, e2, g2⟩ := resOf_run hE H h2
      exact ⟨.tuple #[v1, v2], by simp [Array.mapM_eq_mapM_toList, e1, e2, Result.andThen], [v1, v2], rfl, .cons g1 (.cons g2 .nil)⟩
    · exact absurd rfl hne
  · rename_i r1 r2 r3
    split at hne
    · rename_i x1 x2 x3 h1 h2 h3
      obtain ⟨v1, e1, g1⟩ := resOf_run hE H h1
      obtain ⟨v2, e2, g2⟩ := resOf_run hE H h2
      obtain ⟨v3, e3, g3⟩ := resOf_run hE H h3
      exact ⟨.tuple #[v1, v2, v3], by simp [Array.mapM_eq_mapM_toList, e1, e2, e3, Result.andThen], [v1, v2, v3], rfl, .cons g1 (.cons g2 (.cons g3 .nil))⟩
    · exact absurd rfl hne
  · rename_i r1 r2 r3 r4
    split at hne
    · rename_i x1 x2 x3 x4 h1 h2 h3 h4
      obtain ⟨v1, e1, g1⟩ := resOf_run hE H h1
      obtain ⟨v2, e2, g2⟩ := resOf_run hE H h2
      obtain ⟨v3, e3, g3⟩ := resOf_run hE H h3
      obtain ⟨v4, e4, g4⟩ := resOf_run hE H h4
      exact ⟨.tuple #[v1, v2, v3, v4], by simp [Array.mapM_eq_mapM_toList, e1, e2, e3, e4, Result.andThen], [v1, v2, v3, v4], rfl, .cons g1 (.cons g2 (.cons g3 (.cons g4 .nil)))⟩
    · exact absurd rfl hne
  · exact absurd rfl hne

/-- knowledge of arguments, weakened -/
def argsLe (avs avs' : List AV) : Prop := ∀ X w vs, All2 (fun a v => AV.P X w a v) avs vs → All2 (fun a v => AV.P X w a v) avs' vs

theorem get_startOf : ∀ (avs : List AV) (k n k' : Nat) (r : RV), (startOf k avs).get n k' = some r → k' = 0 ∧ k ≤ n ∧ ∃ v, avs[n - k]? = some v ∧ r = .av v
  | [], k, n, k', r, h => by simp [startOf, AS.get] at h
  | v :: vs, k, n, k', r, h => by
    simp only [startOf] at h
    by_cases hnk : k = n ∧ 0 = k'
    · obtain ⟨rfl, rfl⟩ := hnk
      rw [AS.get_cons_self] at h
      cases h
      exact ⟨rfl, Nat.le_refl _, v, by simp, rfl⟩
    · rw [AS.get_cons_ne _ _ hnk] at h
      obtain ⟨h1, h2, u, h3, h4⟩ := get_startOf vs (k + 1) n k' r h
      exact ⟨h1, by omega, u, by rw [show n - k = n - (k + 1) + 1 by omega]; simpa using h3, h4⟩

/-- nil will do for an empty row -/
def nilFit : CV → Prop
  | .lim none xs => xs = []
  | .sl none _ rows => rows = []
  | .nil => True
  | _ => False
def CV.fit : CV → CV → Prop
  | .nil, y => nilFit y
  | x, y => x = y
def cvsFit : List CV → List CV → Prop
  | [], [] => True
  | x :: l, y :: m => x.fit y ∧ cvsFit l m
  | _, _ => False
def A1.fit : A1 → A1 → Prop
  | .cel x, .cel y => x.fit y
  | .agg l, .agg m => cvsFit l m
  | _, _ => False
def a1sFit : List A1 → List A1 → Prop
  | [], [] => True
  | x :: l, y :: m => x.fit y ∧ a1sFit l m
  | _, _ => False
def AV.fit : AV → AV → Prop
  | .one x, .one y => x.fit y
  | .tup l, .tup m => a1sFit l m
  | _, _ => False

theorem CV.fit_G {g : Gh} {w : World} {x y : CV} {v : Value} (h : x.fit y) (hx : x.G g w v) : y.G g w v := by
  unfold CV.fit at h
  split at h
  · have e : v = .slice none 0 0 := hx
    subst e
    unfold nilFit at h
    split at h
    · subst h; exact ⟨⟨none, 0, rfl, by simp, fun _ => rfl, by simp, by simp⟩, trivial⟩
    · subst h; exact ⟨by simp only [CV.P]; exact ⟨none, 0, rfl, by simp, by simp, by simp⟩, trivial⟩
    · exact hx
    · exact h.elim
  · subst h; exact hx

theorem cvsFit_G {g : Gh} {w : World} : ∀ {l m : List CV} {vs : List Value}, cvsFit l m → All2 (fun c v => CV.G g w c v) l vs → All2 (fun c v => CV.G g w c v) m vs
  | [], [], _, _, h => h
  | _ :: _, _ :: _, _, h, .cons hx ht => .cons (CV.fit_G h.1 hx) (cvsFit_G h.2 ht)

theorem A1.fit_G {g : Gh} {w : World} {x y : A1} {v : Value} (h : x.fit y) (hx : x.G g w v) : y.G g w v := by
  cases x <;> cases y <;> first | exact h.elim | skip
  · exact CV.fit_G h hx
  · obtain ⟨vs, hv, hl⟩ := hx; exact ⟨vs, hv, cvsFit_G h hl⟩

theorem a1sFit_G {g : Gh} {w : World} : ∀ {l m : List A1} {vs : List Value}, a1sFit l m → All2 (fun c v => A1.G g w c v) l vs → All2 (fun c v => A1.G g w c v) m vs
  | [], [], _, _, h => h
  | _ :: _, _ :: _, _, h, .cons hx ht => .cons (A1.fit_G h.1 hx) (a1sFit_G h.2 ht)

theorem AV.fit_G {g : Gh} {w : World} {x y : AV} {v : Value} (h : x.fit y) (hx : x.G g w v) : y.G g w v := by
  cases x <;> cases y <;> first | exact h.elim | skip
  · exact A1.fit_G h hx
  · obtain ⟨vs, hv, hl⟩ := hx; exact ⟨vs, hv, a1sFit_G h hl⟩

/-- what is asked of a function's end -/
def endsA (E : Env) (rs : List ResultVar) (v : AV) : AEx → AS → Prop
  | .exit _, _ => False
  | .normal, s => (resAV E s rs).fit v
  | .ret, s => (resAV E s rs).fit v

/-- A FUNCTION: what its code makes of its first state is what the denotation says -/
theorem sound_of_awp (hE : EnvOk P E) (hm : P.follows .mixedOrders = true) {f : Nat} {fn : Func} {c : Code} {d : Den} {rs : List ResultVar} (hf : P.funcs[f]? = some fn) (hc : fn.body = some c) (hn : fn.ntmps = E.N) (hrs : fn.results = rs.toArray)
    (hcall : ∀ (args : Array Value) (w : World), (callFunc f args).run P w = .ok (.enter f args) w) (hflat : ∀ avs, (d avs).1 → (d avs).2.strip = (d avs).2)
    (h : ∀ avs X w vs, (d avs).1 → All2 (fun a v => AV.P X w a v) avs vs → ∃ avs', argsLe avs avs' ∧ avs'.length ≤ E.N ∧ avs'.map AV.strip = avs' ∧
      awp E c (endsA E rs (d avs).2) (startOf 0 avs')) : Sound P f d := by
  refine ⟨hcall, fun avs X w vs hd hX hvs => ?_, hflat⟩
  obtain ⟨avs', hle, hlen, hst, hawp⟩ := h avs X w vs hd hvs
  have hvs' := hle X w vs hvs
  refine calls_of_wp hf hc ?_
  have H : Gam E.N X w (startOf 0 avs') { tmps := vs.toArray ++ Array.replicate (fn.ntmps - vs.toArray.size) undef, defers := [] } w ⟨fun _ => 0, fun _ => 0, X⟩ (fun _ => none) := by
    have hl := hvs'.len
    refine ⟨rfl, ?_, Below.refl _ _, fun b o h => ⟨h, hX b o h⟩, fun _ _ h => .inl h, hX, fun n k r hr => ?_⟩
    · simp [hn]; omega
    · obtain ⟨h1, h2, v, h3, h4⟩ := get_startOf _ _ _ _ _ hr
      subst h4 h1
      obtain ⟨u, hu, hP⟩ := hvs'.get h3
      have hu' : vs[n]? = some u := by simpa using hu
      have hlt : n < vs.length := (List.getElem?_eq_some_iff.1 hu').1
      refine ⟨rfl, by simp; omega, ?_⟩
      have : (vs.toArray ++ Array.replicate (fn.ntmps - vs.toArray.size) undef).getD n undef = u := by
        rw [Array.getD_eq_getD_getElem?, Array.getElem?_append_left (by simpa using hlt)]
        simp [hu']
      rw [this]
      exact AV.P.toG' hP (map_self hst _ (List.mem_of_getElem? h3))
  refine awp_sound hE hm c H hawp ?_
  intro e s a' w' g who hr H'
  have key : (resAV E s rs).fit (d avs).2 → a'.defers = [] ∧ ∃ v, (results fn a'.tmps).run P w' = .ok v w' ∧ ∃ u, Ending.returned v = .returned u ∧ (d avs).2.P X w' u ∧ Below w.heap.size w w' := by
    intro hr
    obtain ⟨v, h1, h2⟩ := resAV_run hE H' fn hrs (fun e => by rw [e] at hr; exact hr)
    have h2 := AV.fit_G hr h2
    refine ⟨H'.defers, v, h1, v, rfl, ?_, H'.below⟩
    have := h2.strip
    rw [hflat avs hd] at this
    exact this.evo ⟨Nat.le_refl _, fun b o _ hx => ⟨rfl, fun hX => hx (H'.sub b o hX).1⟩⟩
  cases e with
  | exit id => exact hr.elim
  | normal => exact key hr
  | ret => exact key hr

end
end Go.Proofs.Ytdojdghhbjjoeaa
