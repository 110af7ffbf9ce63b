/- The abstract walk, eleventh part: kinds of arguments, denotations, rationals as rows of limbs. No condition. -/
import Derived.Test.YtdojdghhbjjoeaaAj
import Derived.Test.YtdojdghhbjjoeaaGD
namespace Go.Proofs.Ytdojdghhbjjoeaa
open Go.RowKit

/-- a rational as a struct holds it: sign, limbs above, limbs below -/
structure RR where
  s : Bool
  n : List Nat
  d : List Nat

def RR.q (r : RR) : Rat := qv r.s (val r.n) (val r.d)
def RR.sz (r : RR) : Nat := max r.n.length r.d.length
/-- a rational's normal parts -/
def cr (q : Rat) : RR := ⟨ng q, limbs (nm q), limbs q.den⟩

theorem cr_q (q : Rat) : (cr q).q = q := by simp [RR.q, cr, val_limbs, qv_self]
theorem cr_sz (q : Rat) : (cr q).sz = rs q := rfl
theorem rr_eta (r : RR) : (⟨r.s, r.n, r.d⟩ : RR) = r := rfl

def ratCells (r : RR) : List CV := [.bool r.s, .lim none r.n, .lim none r.d]
def ratV (r : RR) : AV := .one (.agg (ratCells r))
def limV (xs : List Nat) : AV := .one (.cel (.lim none xs))
def natV (n : Nat) : AV := limV (limbs n)
def intV (n : Int) : AV := .one (.cel (.int .i64 n))
def boolV (b : Bool) : AV := .one (.cel (.bool b))

def CV.lims : CV → Option (List Nat)
  | .nil => some []
  | .lim _ xs => some xs
  | _ => none

def cellsRat : List CV → Option RR
  | [.bool s, x, y] => match x.lims, y.lims with
    | some n, some d => some ⟨s, n, d⟩
    | _, _ => none
  | _ => none

theorem limG_nil (X : Nat → Nat → Prop) (w : World) : limG X w (.slice none 0 0) [] := ⟨none, 0, rfl, by simp, fun _ => rfl, by simp, by simp⟩

theorem CV.lims_P {X : Nat → Nat → Prop} {w : World} {c : CV} {v : Value} {xs : List Nat} (h : c.lims = some xs) (hp : c.P X w v) : limG X w v xs := by
  cases c <;> simp only [CV.lims, Option.some.injEq, reduceCtorEq] at h
  case nil => subst h; simp only [CV.P] at hp; subst hp; exact limG_nil X w
  case lim own ys => subst h; simpa only [CV.P] using hp

theorem cellsRat_P {X : Nat → Nat → Prop} {w : World} {l : List CV} {vs : List Value} {r : RR} (h : cellsRat l = some r) (hp : All2 (fun c v => CV.P X w c v) l vs) :
    All2 (fun c v => CV.P X w c v) (ratCells r) vs := by
  unfold cellsRat at h
  split at h
  · rename_i s x y
    split at h
    · rename_i n d hx hy
      cases h
      obtain ⟨u, v, z, rfl, hu, hv, hz⟩ := hp.three
      exact .cons hu (.cons (by simpa only [CV.P] using CV.lims_P hx hv) (.cons (by simpa only [CV.P] using CV.lims_P hy hz) .nil))
    · cases h
  · cases h

/-! kinds of arguments -/

def limOk (xs : List Nat) : Prop := ∀ x ∈ xs, x < 4294967296
def RR.ok (r : RR) : Prop := limOk r.n ∧ limOk r.d

structure Arg (α : Type) where
  pa : AV → Option α
  un : α → AV
  va : α → Prop
  ok : ∀ v x, pa v = some x → AVle v (un x)
  st : ∀ x, (un x).strip = un x
  vd : ∀ x X w u, (un x).P X w u → va x

def paRat : AV → Option RR
  | .one (.agg l) => cellsRat l
  | _ => none
def paLim : AV → Option (List Nat)
  | .one (.cel c) => c.lims
  | _ => none
def paInt : AV → Option Int
  | .one (.cel (.int .i64 n)) => some n
  | _ => none
def paU64 : AV → Option Int
  | .one (.cel (.int .u64 n)) => some n
  | _ => none
def paU32 : AV → Option Int
  | .one (.cel (.int .u32 n)) => some n
  | _ => none
def paBool : AV → Option Bool
  | .one (.cel (.bool b)) => some b
  | _ => none

theorem limV_ok {X : Nat → Nat → Prop} {w : World} {v : Value} {xs : List Nat} (h : (limV xs).P X w v) : limOk xs := by
  have h : limG X w v xs := by simpa only [limV, AV.P, A1.P, CV.P] using h
  obtain ⟨_, _, _, _, _, h, _⟩ := h
  exact h

theorem ratV_ok {X : Nat → Nat → Prop} {w : World} {v : Value} {r : RR} (h : (ratV r).P X w v) : r.ok := by
  obtain ⟨vs, rfl, hl⟩ := h
  obtain ⟨u, x, y, rfl, hu, hx, hy⟩ := hl.three
  exact ⟨limV_ok (X := X) (w := w) (v := x) hx, limV_ok (X := X) (w := w) (v := y) hy⟩

def aRat : Arg RR where
  pa := paRat
  un := ratV
  va := RR.ok
  ok := by
    intro v x h X w u hu
    unfold paRat at h
    split at h
    · rename_i l
      obtain ⟨vs, rfl, hl⟩ := hu
      exact ⟨vs, rfl, cellsRat_P h hl⟩
    · cases h
  st := fun _ => rfl
  vd := fun x X w u hu => ratV_ok hu

def aLim : Arg (List Nat) where
  pa := paLim
  un := limV
  va := limOk
  ok := by
    intro v x h X w u hu
    unfold paLim at h
    split at h
    · rename_i c
      have : limG X w u x := CV.lims_P h hu
      show CV.P X w (.lim none x) u
      simpa only [CV.P] using this
    · cases h
  st := fun _ => rfl
  vd := fun x X w u hu => limV_ok hu

def aInt : Arg Int where
  pa := paInt
  un := intV
  va := fun _ => True
  ok := by
    intro v x h X w u hu
    unfold paInt at h
    split at h
    · cases h; exact hu
    · cases h
  st := fun _ => rfl
  vd := fun _ _ _ _ _ => trivial

def aU64 : Arg Int where
  pa := paU64
  un := fun n => .one (.cel (.int .u64 n))
  va := fun _ => True
  ok := by
    intro v x h X w u hu
    unfold paU64 at h
    split at h
    · cases h; exact hu
    · cases h
  st := fun _ => rfl
  vd := fun _ _ _ _ _ => trivial

def aU32 : Arg Int where
  pa := paU32
  un := fun n => .one (.cel (.int .u32 n))
  va := fun _ => True
  ok := by
    intro v x h X w u hu
    unfold paU32 at h
    split at h
    · cases h; exact hu
    · cases h
  st := fun _ => rfl
  vd := fun _ _ _ _ _ => trivial

def aBool : Arg Bool where
  pa := paBool
  un := boolV
  va := fun _ => True
  ok := by
    intro v x h X w u hu
    unfold paBool at h
    split at h
    · cases h; exact hu
    · cases h
  st := fun _ => rfl
  vd := fun _ _ _ _ _ => trivial

def den0 (f : AV) : Den := fun avs => match avs with
  | [] => (True, f)
  | _ => no
def den1 {α : Type} (A : Arg α) (pre : α → Prop) (f : α → AV) : Den := fun avs => match avs with
  | [x] => match A.pa x with
    | some a => (pre a, f a)
    | _ => no
  | _ => no
def den2 {α β : Type} (A : Arg α) (B : Arg β) (pre : α → β → Prop) (f : α → β → AV) : Den := fun avs => match avs with
  | [x, y] => match A.pa x, B.pa y with
    | some a, some b => (pre a b, f a b)
    | _, _ => no
  | _ => no
def den3 {α β γ : Type} (A : Arg α) (B : Arg β) (C : Arg γ) (pre : α → β → γ → Prop) (f : α → β → γ → AV) : Den := fun avs => match avs with
  | [x, y, z] => match A.pa x, B.pa y, C.pa z with
    | some a, some b, some c => (pre a b c, f a b c)
    | _, _, _ => no
  | _ => no
def den4 {α β γ δ : Type} (A : Arg α) (B : Arg β) (C : Arg γ) (D : Arg δ) (pre : α → β → γ → δ → Prop) (f : α → β → γ → δ → AV) : Den := fun avs => match avs with
  | [x, y, z, u] => match A.pa x, B.pa y, C.pa z, D.pa u with
    | some a, some b, some c, some d => (pre a b c d, f a b c d)
    | _, _, _, _ => no
  | _ => no
def den5 {α β γ δ ε : Type} (A : Arg α) (B : Arg β) (C : Arg γ) (D : Arg δ) (F : Arg ε) (pre : α → β → γ → δ → ε → Prop) (f : α → β → γ → δ → ε → AV) : Den := fun avs => match avs with
  | [x, y, z, u, v] => match A.pa x, B.pa y, C.pa z, D.pa u, F.pa v with
    | some a, some b, some c, some d, some e => (pre a b c d e, f a b c d e)
    | _, _, _, _, _ => no
  | _ => no

theorem den1_inv {α : Type} {A : Arg α} {pre : α → Prop} {f : α → AV} {avs : List AV} (h : (den1 A pre f avs).1) :
    ∃ a, argsLe avs [A.un a] ∧ pre a ∧ (den1 A pre f avs).2 = f a := by
  unfold den1 at h ⊢
  split at h
  · rename_i x
    split at h
    · rename_i a ha
      exact ⟨a, fun X w vs hv => by obtain ⟨u, rfl, hu⟩ := hv.one; exact .cons (A.ok _ _ ha _ _ _ hu) .nil, h, rfl⟩
    · exact h.elim
  · exact h.elim
theorem den2_inv {α β : Type} {A : Arg α} {B : Arg β} {pre : α → β → Prop} {f : α → β → AV} {avs : List AV} (h : (den2 A B pre f avs).1) :
    ∃ a b, argsLe avs [A.un a, B.un b] ∧ pre a b ∧ (den2 A B pre f avs).2 = f a b := by
  unfold den2 at h ⊢
  split at h
  · rename_i x y
    split at h
    · rename_i a b ha hb
      exact ⟨a, b, fun X w vs hv => by
        cases hv with | cons h1 t => cases t with | cons h2 t => cases t; exact .cons (A.ok _ _ ha _ _ _ h1) (.cons (B.ok _ _ hb _ _ _ h2) .nil), h, rfl⟩
    · exact h.elim
  · exact h.elim
theorem den3_inv {α β γ : Type} {A : Arg α} {B : Arg β} {C : Arg γ} {pre : α → β → γ → Prop} {f : α → β → γ → AV} {avs : List AV} (h : (den3 A B C pre f avs).1) :
    ∃ a b c, argsLe avs [A.un a, B.un b, C.un c] ∧ pre a b c ∧ (den3 A B C pre f avs).2 = f a b c := by
  unfold den3 at h ⊢
  split at h
  · rename_i x y z
    split at h
    · rename_i a b c ha hb hc
      exact ⟨a, b, c, fun X w vs hv => by
        cases hv with | cons h1 t => cases t with | cons h2 t => cases t with | cons h3 t => cases t; exact .cons (A.ok _ _ ha _ _ _ h1) (.cons (B.ok _ _ hb _ _ _ h2) (.cons (C.ok _ _ hc _ _ _ h3) .nil)), h, rfl⟩
    · exact h.elim
  · exact h.elim
theorem den4_inv {α β γ δ : Type} {A : Arg α} {B : Arg β} {C : Arg γ} {D : Arg δ} {pre : α → β → γ → δ → Prop} {f : α → β → γ → δ → AV} {avs : List AV} (h : (den4 A B C D pre f avs).1) :
    ∃ a b c d, argsLe avs [A.un a, B.un b, C.un c, D.un d] ∧ pre a b c d ∧ (den4 A B C D pre f avs).2 = f a b c d := by
  unfold den4 at h ⊢
  split at h
  · rename_i x y z u
    split at h
    · rename_i a b c d ha hb hc hd
      exact ⟨a, b, c, d, fun X w vs hv => by
        cases hv with | cons h1 t => cases t with | cons h2 t => cases t with | cons h3 t => cases t with | cons h4 t => cases t; exact .cons (A.ok _ _ ha _ _ _ h1) (.cons (B.ok _ _ hb _ _ _ h2) (.cons (C.ok _ _ hc _ _ _ h3) (.cons (D.ok _ _ hd _ _ _ h4) .nil))), h, rfl⟩
    · exact h.elim
  · exact h.elim
theorem den5_inv {α β γ δ ε : Type} {A : Arg α} {B : Arg β} {C : Arg γ} {D : Arg δ} {F : Arg ε} {pre : α → β → γ → δ → ε → Prop} {f : α → β → γ → δ → ε → AV} {avs : List AV} (h : (den5 A B C D F pre f avs).1) :
    ∃ a b c d e, argsLe avs [A.un a, B.un b, C.un c, D.un d, F.un e] ∧ pre a b c d e ∧ (den5 A B C D F pre f avs).2 = f a b c d e := by
  unfold den5 at h ⊢
  split at h
  · rename_i x y z u v
    split at h
    · rename_i a b c d e ha hb hc hd he
      exact ⟨a, b, c, d, e, fun X w vs hv => by
        cases hv with | cons h1 t => cases t with | cons h2 t => cases t with | cons h3 t => cases t with | cons h4 t => cases t with | cons h5 t => cases t; exact .cons (A.ok _ _ ha _ _ _ h1) (.cons (B.ok _ _ hb _ _ _ h2) (.cons (C.ok _ _ hc _ _ _ h3) (.cons (D.ok _ _ hd _ _ _ h4) (.cons (F.ok _ _ he _ _ _ h5) .nil)))), h, rfl⟩
    · exact h.elim
  · exact h.elim

/-! tables -/

def fnOf : List (Nat × Den) → Nat → Option Den
  | [], _ => none
  | (f, d) :: l, n => if (n == f) = true then some d else fnOf l n

def SoundAll (P : Program) : List (Nat × Den) → Prop
  | [] => True
  | (f, d) :: l => Sound P f d ∧ SoundAll P l

theorem fnOf_sound {P : Program} : ∀ {l : List (Nat × Den)}, SoundAll P l → ∀ f d, fnOf l f = some d → Sound P f d
  | (f', d') :: l, h, f, d, hf => by
    unfold fnOf at hf
    split at hf
    · rename_i he
      cases hf
      rw [beq_iff_eq.1 he]
      exact h.1
    · exact fnOf_sound h.2 f d hf

def TTOk (P : Program) (tt : Nat → Option TI) : Prop := ∀ t ti, tt t = some ti → TIOk P t ti

theorem envOk {P : Program} {N : Nat} {tt : Nat → Option TI} {fz : Nat → List Nat} (ht : TTOk P tt) {l : List (Nat × Den)} (h : SoundAll P l) : EnvOk P ⟨N, tt, fnOf l, fz⟩ := ⟨ht, fnOf_sound h⟩

section
variable {P : Program} {N : Nat} {tt : Nat → Option TI} {fz : Nat → List Nat} {l : List (Nat × Den)} {f : Nat} {fn : Func} {c : Code} {rs : List ResultVar}

/-- nothing is given up -/
def nofz : Nat → List Nat := fun _ => []

theorem soundV (ht : TTOk P tt) (hl : SoundAll P l) (hm : P.follows .mixedOrders = true) (hf : P.funcs[f]? = some fn) (hn : fn.ntmps = N) (hrs : fn.results = rs.toArray)
    (hcall : ∀ (args : Array Value) (w : World), (callFunc f args).run P w = .ok (.enter f args) w) (hc : fn.body = some c) {d : Den} (hflat : ∀ avs, (d avs).1 → (d avs).2.strip = (d avs).2)
    (h : ∀ avs X w vs, (d avs).1 → All2 (fun a v => AV.P X w a v) avs vs → ∃ avs', argsLe avs avs' ∧ avs'.length ≤ N ∧ avs'.map AV.strip = avs' ∧ awp ⟨N, tt, fnOf l, fz⟩ c (endsA ⟨N, tt, fnOf l, fz⟩ rs (d avs).2) (startOf 0 avs')) : Sound P f d := by
  exact sound_of_awp (E := ⟨N, tt, fnOf l, fz⟩) (envOk ht hl) hm hf hc hn hrs hcall hflat h

theorem sound0 (ht : TTOk P tt) (hl : SoundAll P l) (hm : P.follows .mixedOrders = true) (hf : P.funcs[f]? = some fn) (hn : fn.ntmps = N) (hrs : fn.results = rs.toArray)
    (hcall : ∀ (args : Array Value) (w : World), (callFunc f args).run P w = .ok (.enter f args) w) (hc : fn.body = some c) {r : AV} (hflat : r.strip = r)
    (h : awp ⟨N, tt, fnOf l, fz⟩ c (endsA ⟨N, tt, fnOf l, fz⟩ rs r) []) : Sound P f (den0 r) := by
  refine soundV (fz := fz) ht hl hm hf hn hrs hcall hc ?_ ?_
  · intro avs hd; unfold den0 at hd ⊢; split at hd
    · exact hflat
    · exact hd.elim
  · intro avs _ _ _ hd _
    unfold den0 at hd ⊢
    split at hd
    · exact ⟨[], fun X w vs hv => hv, by simp, rfl, h⟩
    · exact hd.elim

theorem sound1 {α : Type} {A : Arg α} (ht : TTOk P tt) (hl : SoundAll P l) (hm : P.follows .mixedOrders = true) (hf : P.funcs[f]? = some fn) (hn : fn.ntmps = N) (hrs : fn.results = rs.toArray)
    (hcall : ∀ (args : Array Value) (w : World), (callFunc f args).run P w = .ok (.enter f args) w) (hc : fn.body = some c) {pre : α → Prop} {r : α → AV} (hN : 1 ≤ N) (hflat : ∀ a, (r a).strip = r a)
    (h : ∀ a, pre a → A.va a → awp ⟨N, tt, fnOf l, fz⟩ c (endsA ⟨N, tt, fnOf l, fz⟩ rs (r a)) [(0, 0, .av (A.un a))]) : Sound P f (den1 A pre r) := by
  refine soundV (fz := fz) ht hl hm hf hn hrs hcall hc ?_ ?_
  · intro avs hd; obtain ⟨a, _, _, e⟩ := den1_inv hd; rw [e]; exact hflat a
  · intro avs X w vs hd hvs
    obtain ⟨a, h1, h2, e⟩ := den1_inv hd
    rw [e]
    have hvs' := h1 X w vs hvs
    cases hvs' with | cons v1 hvs' => exact ⟨_, h1, by simpa using hN, by simp [A.st], h a h2 (A.vd _ _ _ _ v1)⟩

theorem sound2 {α β : Type} {A : Arg α} {B : Arg β} (ht : TTOk P tt) (hl : SoundAll P l) (hm : P.follows .mixedOrders = true) (hf : P.funcs[f]? = some fn) (hn : fn.ntmps = N) (hrs : fn.results = rs.toArray)
    (hcall : ∀ (args : Array Value) (w : World), (callFunc f args).run P w = .ok (.enter f args) w) (hc : fn.body = some c) {pre : α → β → Prop} {r : α → β → AV} (hN : 2 ≤ N) (hflat : ∀ a b, (r a b).strip = r a b)
    (h : ∀ a b, pre a b → A.va a → B.va b → awp ⟨N, tt, fnOf l, fz⟩ c (endsA ⟨N, tt, fnOf l, fz⟩ rs (r a b)) [(0, 0, .av (A.un a)), (1, 0, .av (B.un b))]) : Sound P f (den2 A B pre r) := by
  refine soundV (fz := fz) ht hl hm hf hn hrs hcall hc ?_ ?_
  · intro avs hd; obtain ⟨a, b, _, _, e⟩ := den2_inv hd; rw [e]; exact hflat a b
  · intro avs X w vs hd hvs
    obtain ⟨a, b, h1, h2, e⟩ := den2_inv hd
    rw [e]
    have hvs' := h1 X w vs hvs
    cases hvs' with | cons v1 hvs' => cases hvs' with | cons v2 hvs' => exact ⟨_, h1, by simpa using hN, by simp [A.st, B.st], h a b h2 (A.vd _ _ _ _ v1) (B.vd _ _ _ _ v2)⟩

theorem sound3 {α β γ : Type} {A : Arg α} {B : Arg β} {C : Arg γ} (ht : TTOk P tt) (hl : SoundAll P l) (hm : P.follows .mixedOrders = true) (hf : P.funcs[f]? = some fn) (hn : fn.ntmps = N) (hrs : fn.results = rs.toArray)
    (hcall : ∀ (args : Array Value) (w : World), (callFunc f args).run P w = .ok (.enter f args) w) (hc : fn.body = some c) {pre : α → β → γ → Prop} {r : α → β → γ → AV} (hN : 3 ≤ N) (hflat : ∀ a b c, (r a b c).strip = r a b c)
    (h : ∀ a b d, pre a b d → A.va a → B.va b → C.va d → awp ⟨N, tt, fnOf l, fz⟩ c (endsA ⟨N, tt, fnOf l, fz⟩ rs (r a b d)) [(0, 0, .av (A.un a)), (1, 0, .av (B.un b)), (2, 0, .av (C.un d))]) : Sound P f (den3 A B C pre r) := by
  refine soundV (fz := fz) ht hl hm hf hn hrs hcall hc ?_ ?_
  · intro avs hd; obtain ⟨a, b, d, _, _, e⟩ := den3_inv hd; rw [e]; exact hflat a b d
  · intro avs X w vs hd hvs
    obtain ⟨a, b, d, h1, h2, e⟩ := den3_inv hd
    rw [e]
    have hvs' := h1 X w vs hvs
    cases hvs' with | cons v1 hvs' => cases hvs' with | cons v2 hvs' => cases hvs' with | cons v3 hvs' => exact ⟨_, h1, by simpa using hN, by simp [A.st, B.st, C.st], h a b d h2 (A.vd _ _ _ _ v1) (B.vd _ _ _ _ v2) (C.vd _ _ _ _ v3)⟩

theorem sound4 {α β γ δ : Type} {A : Arg α} {B : Arg β} {C : Arg γ} {D : Arg δ} (ht : TTOk P tt) (hl : SoundAll P l) (hm : P.follows .mixedOrders = true) (hf : P.funcs[f]? = some fn) (hn : fn.ntmps = N) (hrs : fn.results = rs.toArray)
    (hcall : ∀ (args : Array Value) (w : World), (callFunc f args).run P w = .ok (.enter f args) w) (hc : fn.body = some c) {pre : α → β → γ → δ → Prop} {r : α → β → γ → δ → AV} (hN : 4 ≤ N) (hflat : ∀ a b c d, (r a b c d).strip = r a b c d)
    (h : ∀ a b d e, pre a b d e → A.va a → B.va b → C.va d → D.va e → awp ⟨N, tt, fnOf l, fz⟩ c (endsA ⟨N, tt, fnOf l, fz⟩ rs (r a b d e)) [(0, 0, .av (A.un a)), (1, 0, .av (B.un b)), (2, 0, .av (C.un d)), (3, 0, .av (D.un e))]) : Sound P f (den4 A B C D pre r) := by
  refine soundV (fz := fz) ht hl hm hf hn hrs hcall hc ?_ ?_
  · intro avs hd; obtain ⟨a, b, d, e', _, _, e⟩ := den4_inv hd; rw [e]; exact hflat a b d e'
  · intro avs X w vs hd hvs
    obtain ⟨a, b, d, e', h1, h2, e⟩ := den4_inv hd
    rw [e]
    have hvs' := h1 X w vs hvs
    cases hvs' with | cons v1 hvs' => cases hvs' with | cons v2 hvs' => cases hvs' with | cons v3 hvs' => cases hvs' with | cons v4 hvs' => exact ⟨_, h1, by simpa using hN, by simp [A.st, B.st, C.st, D.st], h a b d e' h2 (A.vd _ _ _ _ v1) (B.vd _ _ _ _ v2) (C.vd _ _ _ _ v3) (D.vd _ _ _ _ v4)⟩

theorem sound5 {α β γ δ ε : Type} {A : Arg α} {B : Arg β} {C : Arg γ} {D : Arg δ} {F : Arg ε} (ht : TTOk P tt) (hl : SoundAll P l) (hm : P.follows .mixedOrders = true) (hf : P.funcs[f]? = some fn) (hn : fn.ntmps = N) (hrs : fn.results = rs.toArray)
    (hcall : ∀ (args : Array Value) (w : World), (callFunc f args).run P w = .ok (.enter f args) w) (hc : fn.body = some c) {pre : α → β → γ → δ → ε → Prop} {r : α → β → γ → δ → ε → AV} (hN : 5 ≤ N) (hflat : ∀ a b c d e, (r a b c d e).strip = r a b c d e)
    (h : ∀ a b d e g, pre a b d e g → A.va a → B.va b → C.va d → D.va e → F.va g → awp ⟨N, tt, fnOf l, fz⟩ c (endsA ⟨N, tt, fnOf l, fz⟩ rs (r a b d e g)) [(0, 0, .av (A.un a)), (1, 0, .av (B.un b)), (2, 0, .av (C.un d)), (3, 0, .av (D.un e)), (4, 0, .av (F.un g))]) : Sound P f (den5 A B C D F pre r) := by
  refine soundV (fz := fz) ht hl hm hf hn hrs hcall hc ?_ ?_
  · intro avs hd; obtain ⟨a, b, d, e', g', _, _, e⟩ := den5_inv hd; rw [e]; exact hflat a b d e' g'
  · intro avs X w vs hd hvs
    obtain ⟨a, b, d, e', g', h1, h2, e⟩ := den5_inv hd
    rw [e]
    have hvs' := h1 X w vs hvs
    cases hvs' with | cons v1 hvs' => cases hvs' with | cons v2 hvs' => cases hvs' with | cons v3 hvs' => cases hvs' with | cons v4 hvs' => cases hvs' with | cons v5 hvs' => exact ⟨_, h1, by simpa using hN, by simp [A.st, B.st, C.st, D.st, F.st], h a b d e' g' h2 (A.vd _ _ _ _ v1) (B.vd _ _ _ _ v2) (C.vd _ _ _ _ v3) (D.vd _ _ _ _ v4) (F.vd _ _ _ _ v5)⟩

end

/-! the elder contracts' words -/

theorem limG_nt {X : Nat → Nat → Prop} {w : World} {v : Value} {xs : List Nat} (h : limG X w v xs) : Nt 0 w v xs := by
  obtain ⟨ao, cap, h1, h2, h3, h4, h5⟩ := h
  exact ⟨ao, cap, h1, h2, h4, ⟨fun _ _ => Nat.zero_le _, h3⟩, fun hp => by obtain ⟨b, off, hb, hc⟩ := h5 hp; exact ⟨b, off, hb, fun i hi => (hc i hi).2.2⟩⟩

theorem nt_limG {X : Nat → Nat → Prop} {w w' : World} {v : Value} {xs : List Nat} (h : Nt w.heap.size w' v xs) (hX : ∀ b o, X b o → b < w.heap.size) : limG X w' v xs := by
  obtain ⟨ao, cap, h1, h2, h3, h4, h5⟩ := h
  refine ⟨ao, cap, h1, h2, h4.2, h3, fun hp => ?_⟩
  obtain ⟨b, off, hb, hc⟩ := h5 hp
  refine ⟨b, off, hb, fun i hi => ⟨?_, fun hx => ?_, hc i hi⟩⟩
  · have := hc i hi
    unfold World.cell? at this
    split at this
    · rename_i e; exact (Array.getElem?_eq_some_iff.1 e).1
    · cases this
  · have := h4.1 _ hb
    have := hX _ _ hx
    simp only at *
    omega

theorem rat_R {X : Nat → Nat → Prop} {w : World} {v : Value} {r : RR} {K : Nat} (h : (ratV r).P X w v) (hs : r.sz ≤ K) : RatR K w v r.q := by
  obtain ⟨vs, rfl, hl⟩ := h
  obtain ⟨u, x, y, rfl, hu, hx, hy⟩ := hl.three
  have e : u = .bool r.s := hu
  subst e
  have h1 : r.n.length ≤ K := Nat.le_trans (Nat.le_max_left _ _) hs
  have h2 : r.d.length ≤ K := Nat.le_trans (Nat.le_max_right _ _) hs
  exact ⟨r.s, x, y, r.n, r.d, rfl, limG_nt (by simpa only [CV.P] using hx), limG_nt (by simpa only [CV.P] using hy), rfl, h1, h2⟩

theorem rs_ok {r : RR} {K : Nat} (h : r.ok) (hs : r.sz ≤ K) (hK : 1 ≤ K) : rs r.q ≤ K :=
  rs_qv _ _ _ _ (Nat.le_trans (limbs_len_val h.1) (Nat.le_trans (Nat.le_max_left _ _) hs)) (Nat.le_trans (limbs_len_val h.2) (Nat.le_trans (Nat.le_max_right _ _) hs)) hK

theorem ratC_P {X : Nat → Nat → Prop} {w w' : World} {v : Value} {q : Rat} (h : RatC w.heap.size w' v q) (hX : ∀ b o, X b o → b < w.heap.size) : (ratV (cr q)).P X w' v := by
  obtain ⟨v1, v2, rfl, h1, h2⟩ := h
  refine ⟨[.bool (ng q), v1, v2], rfl, .cons rfl (.cons ?_ (.cons ?_ .nil))⟩
  · simp only [CV.P]; exact nt_limG h1 hX
  · simp only [CV.P]; exact nt_limG h2 hX

end Go.Proofs.Ytdojdghhbjjoeaa
