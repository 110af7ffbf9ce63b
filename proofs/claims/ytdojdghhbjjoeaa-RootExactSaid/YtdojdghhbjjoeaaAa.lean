/- The abstract walk, first part: abstract values, what they say of values in a world, and that it stays so. No condition. -/
import Derived.Test.YtdojdghhbjjoeaaGA
namespace Go.Proofs.Ytdojdghhbjjoeaa
open Go.RowKit

/-- two lists, place by place -/
inductive All2 {α β : Type} (R : α → β → Prop) : List α → List β → Prop where
  | nil : All2 R [] []
  | cons {a : α} {b : β} {l : List α} {m : List β} : R a b → All2 R l m → All2 R (a :: l) (b :: m)

/-- what is known of one cell's value -/
inductive CV where
  | bool (b : Bool)
  | int (k : IntKind) (n : Int)
  | nil
  | lim (own : Option Nat) (xs : List Nat)
  | sl (own : Option Nat) (t : Nat) (rows : List (List CV))
  | ptr (id off : Nat)
  | rf (id n : Nat)
  | rp (id t i : Nat)
  | pto (cs : List CV)
  | any

/-- what is known of a value -/
inductive A1 where
  | cel (v : CV)
  | agg (l : List CV)

inductive AV where
  | one (a : A1)
  | tup (l : List A1)
  | any
  | und

abbrev AV.cel (v : CV) : AV := .one (.cel v)
abbrev AV.agg (l : List CV) : AV := .one (.agg l)

def notAgg : Value → Prop
  | .agg _ => False
  | .tuple _ => False
  | _ => True

/-- the cell (b, o) is there, outside of X, and holds v -/
def seenAt (X : Nat → Nat → Prop) (w : World) (b o : Nat) (v : Value) : Prop :=
  b < w.heap.size ∧ ¬ X b o ∧ w.cell? ⟨b, o, none⟩ = some v

def limG (X : Nat → Nat → Prop) (w : World) (v : Value) (xs : List Nat) : Prop :=
  ∃ (ao : Option Addr) (cap : Nat), v = .slice ao xs.length cap ∧ xs.length ≤ cap ∧ (ao = none → cap = 0) ∧ (∀ x ∈ xs, x < 4294967296) ∧
    (0 < xs.length → ∃ b off, ao = some ⟨b, off, none⟩ ∧ ∀ i, i < xs.length → seenAt X w b (off + i) (.int .u32 ((xs.getD i 0 : Nat) : Int)))

mutual
/-- what a cell's knowledge says, of memory outside of X alone -/
def CV.P (X : Nat → Nat → Prop) (w : World) : CV → Value → Prop
  | .bool b, v => v = .bool b
  | .int k n, v => v = .int k n
  | .nil, v => v = .slice none 0 0
  | .lim _ xs, v => limG X w v xs
  | .sl _ t rows, v => ∃ (ao : Option Addr) (cap : Nat), v = .slice ao rows.length cap ∧ rows.length ≤ cap ∧ (ao = none → cap = 0) ∧
      (0 < rows.length → ∃ b off, ao = some ⟨b, off, none⟩ ∧ rowsP X w b off t rows)
  | .ptr _ _, _ => False
  | .rf _ _, _ => False
  | .rp _ _ _, _ => False
  | .pto cs, v => ∃ b off, v = .pointer (some ⟨b, off, none⟩) ∧ cellsP X w b off cs
  | .any, v => notAgg v
def rowsP (X : Nat → Nat → Prop) (w : World) (b off t : Nat) : List (List CV) → Prop
  | [] => True
  | r :: rs => r.length = t ∧ cellsP X w b off r ∧ rowsP X w b (off + t) t rs
def cellsP (X : Nat → Nat → Prop) (w : World) (b off : Nat) : List CV → Prop
  | [] => True
  | c :: cs => (∃ v, seenAt X w b off v ∧ CV.P X w c v) ∧ cellsP X w b (off + 1) cs
end

theorem CV.P.flat {X : Nat → Nat → Prop} {w : World} {c : CV} {v : Value} (h : c.P X w v) : notAgg v := by
  cases c <;> simp only [CV.P, limG] at h
  case any => exact h
  case lim => obtain ⟨_, _, rfl, _⟩ := h; trivial
  case sl => obtain ⟨_, _, rfl, _⟩ := h; trivial
  case pto => obtain ⟨_, _, rfl, _⟩ := h; trivial
  all_goals subst h; trivial

/-- memory outside of X stays as it was, and X takes no old cell -/
def Evo (X : Nat → Nat → Prop) (w : World) (X' : Nat → Nat → Prop) (w' : World) : Prop :=
  w.heap.size ≤ w'.heap.size ∧ ∀ b o, b < w.heap.size → ¬ X b o → w'.cell? ⟨b, o, none⟩ = w.cell? ⟨b, o, none⟩ ∧ ¬ X' b o

theorem Evo.refl (X : Nat → Nat → Prop) (w : World) : Evo X w X w := ⟨Nat.le_refl _, fun _ _ _ h => ⟨rfl, h⟩⟩

theorem Evo.trans {X X1 X2 : Nat → Nat → Prop} {w w1 w2 : World} (h : Evo X w X1 w1) (k : Evo X1 w1 X2 w2) : Evo X w X2 w2 :=
  ⟨Nat.le_trans h.1 k.1, fun b o hb hx => by
    obtain ⟨e, hx1⟩ := h.2 b o hb hx
    obtain ⟨e2, hx2⟩ := k.2 b o (Nat.lt_of_lt_of_le hb h.1) hx1
    exact ⟨e2.trans e, hx2⟩⟩

theorem seenAt.evo {X X' : Nat → Nat → Prop} {w w' : World} (e : Evo X w X' w') {b o : Nat} {v : Value} (h : seenAt X w b o v) : seenAt X' w' b o v := by
  obtain ⟨h1, h2, h3⟩ := h
  obtain ⟨e1, e2⟩ := e.2 b o h1 h2
  exact ⟨Nat.lt_of_lt_of_le h1 e.1, e2, e1.trans h3⟩

theorem limG.evo {X X' : Nat → Nat → Prop} {w w' : World} (e : Evo X w X' w') {v : Value} {xs : List Nat} (h : limG X w v xs) : limG X' w' v xs := by
  obtain ⟨ao, cap, h1, h2, h3, h4, h5⟩ := h
  exact ⟨ao, cap, h1, h2, h3, h4, fun hp => by obtain ⟨b, off, hb, hc⟩ := h5 hp; exact ⟨b, off, hb, fun i hi => (hc i hi).evo e⟩⟩

mutual
theorem CV.P.evo {X X' : Nat → Nat → Prop} {w w' : World} (e : Evo X w X' w') : ∀ (c : CV) {v : Value}, c.P X w v → c.P X' w' v
  | .bool b, v, h => by simpa only [CV.P] using h
  | .int k n, v, h => by simpa only [CV.P] using h
  | .nil, v, h => by simpa only [CV.P] using h
  | .lim _ xs, v, h => by simp only [CV.P] at h ⊢; exact h.evo e
  | .sl _ t rows, v, h => by
    simp only [CV.P] at h ⊢
    obtain ⟨ao, cap, h1, h2, h3, h5⟩ := h
    exact ⟨ao, cap, h1, h2, h3, fun hp => by obtain ⟨b, off, hb, hc⟩ := h5 hp; exact ⟨b, off, hb, rowsP.evo e rows b off hc⟩⟩
  | .ptr _ _, v, h => by simp only [CV.P] at h
  | .rf _ _, v, h => by simp only [CV.P] at h
  | .rp _ _ _, v, h => by simp only [CV.P] at h
  | .pto cs, v, h => by
    simp only [CV.P] at h ⊢
    obtain ⟨b, off, h1, h2⟩ := h
    exact ⟨b, off, h1, cellsP.evo e cs b off h2⟩
  | .any, v, h => by simpa only [CV.P] using h
theorem rowsP.evo {X X' : Nat → Nat → Prop} {w w' : World} (e : Evo X w X' w') {t : Nat} : ∀ (rows : List (List CV)) (b off : Nat), rowsP X w b off t rows → rowsP X' w' b off t rows
  | [], b, off, _ => by simp only [rowsP]
  | r :: rs, b, off, h => by
    simp only [rowsP] at h ⊢
    exact ⟨h.1, cellsP.evo e r b off h.2.1, rowsP.evo e rs b (off + t) h.2.2⟩
theorem cellsP.evo {X X' : Nat → Nat → Prop} {w w' : World} (e : Evo X w X' w') : ∀ (cs : List CV) (b off : Nat), cellsP X w b off cs → cellsP X' w' b off cs
  | [], b, off, _ => by simp only [cellsP]
  | c :: cs, b, off, h => by
    simp only [cellsP] at h ⊢
    obtain ⟨⟨v, h1, h2⟩, h3⟩ := h
    exact ⟨⟨v, h1.evo e, CV.P.evo e c h2⟩, cellsP.evo e cs b (off + 1) h3⟩
end

/-- the ghosts of an activation: where its own blocks lie, the caps of its own rows, which cells are its own -/
structure Gh where
  σ : Nat → Nat
  κ : Nat → Nat
  X : Nat → Nat → Prop

def tagG (g : Gh) (own : Option Nat) (v : Value) : Prop :=
  match own with
  | none => True
  | some id => ∃ ao n, v = .slice ao n (g.κ id) ∧ (ao = none ∧ n = 0 ∧ g.κ id = 0 ∨ ao = some ⟨g.σ id, 0, none⟩)

def CV.G (g : Gh) (w : World) (c : CV) (v : Value) : Prop :=
  match c with
  | .ptr id off => v = .pointer (some ⟨g.σ id, off, none⟩)
  | .rf id n => ∃ ao, v = .slice ao n (g.κ id) ∧ (ao = none ∧ n = 0 ∧ g.κ id = 0 ∨ ao = some ⟨g.σ id, 0, none⟩)
  | .rp id t i => v = .pointer (some ⟨g.σ id, i * t, none⟩)
  | .lim own xs => limG g.X w v xs ∧ tagG g own v
  | .sl own t rows => (CV.sl own t rows).P g.X w v ∧ tagG g own v
  | c => c.P g.X w v

def A1.G (g : Gh) (w : World) : A1 → Value → Prop
  | .cel c, v => c.G g w v
  | .agg l, v => ∃ vs : List Value, v = .agg vs.toArray ∧ All2 (fun c v => CV.G g w c v) l vs

def AV.G (g : Gh) (w : World) : AV → Value → Prop
  | .one a, v => a.G g w v
  | .tup l, v => ∃ vs : List Value, v = .tuple vs.toArray ∧ All2 (fun c v => A1.G g w c v) l vs
  | .any, _ => True
  | .und, v => v = undef

def A1.P (X : Nat → Nat → Prop) (w : World) : A1 → Value → Prop
  | .cel c, v => c.P X w v
  | .agg l, v => ∃ vs : List Value, v = .agg vs.toArray ∧ All2 (fun c v => CV.P X w c v) l vs

def AV.P (X : Nat → Nat → Prop) (w : World) : AV → Value → Prop
  | .one a, v => a.P X w v
  | .tup l, v => ∃ vs : List Value, v = .tuple vs.toArray ∧ All2 (fun c v => A1.P X w c v) l vs
  | .any, _ => True
  | .und, v => v = undef

/-- does a cell's knowledge name the own block id? -/
def CV.men (id : Nat) : CV → Bool
  | .ptr i _ => i == id
  | .rf i _ => i == id
  | .rp i _ _ => i == id
  | .lim (some i) _ => i == id
  | .sl (some i) _ _ => i == id
  | _ => false
def A1.men (id : Nat) : A1 → Bool
  | .cel c => c.men id
  | .agg l => l.any (CV.men id)
def AV.men (id : Nat) : AV → Bool
  | .one a => a.men id
  | .tup l => l.any (A1.men id)
  | .any => false
  | .und => false

/-- without what is said of own blocks -/
def CV.strip : CV → CV
  | .ptr _ _ => .any
  | .rf _ _ => .any
  | .rp _ _ _ => .any
  | .lim _ xs => .lim none xs
  | .sl _ t rows => .sl none t rows
  | c => c
def A1.strip : A1 → A1
  | .cel c => .cel c.strip
  | .agg l => .agg (l.map CV.strip)
def AV.strip : AV → AV
  | .one a => .one a.strip
  | .tup l => .tup (l.map A1.strip)
  | .any => .any
  | .und => .und

theorem CV.G.flat {g : Gh} {w : World} {c : CV} {v : Value} (h : c.G g w v) : notAgg v := by
  cases c
  case ptr => simp only [CV.G] at h; subst h; trivial
  case rf => simp only [CV.G] at h; obtain ⟨_, rfl, _⟩ := h; trivial
  case rp => simp only [CV.G] at h; subst h; trivial
  case lim => exact CV.P.flat (c := .lim none _) (X := g.X) (w := w) (by simpa only [CV.P] using h.1)
  case sl => exact CV.P.flat h.1
  all_goals exact CV.P.flat h

theorem CV.G.strip {g : Gh} {w : World} {c : CV} {v : Value} (h : c.G g w v) : c.strip.P g.X w v := by
  cases c
  case ptr => simp only [CV.strip, CV.P]; exact h.flat
  case rf => simp only [CV.strip, CV.P]; exact h.flat
  case rp => simp only [CV.strip, CV.P]; exact h.flat
  case lim => simp only [CV.strip, CV.P]; exact h.1
  case sl => have := h.1; simpa only [CV.strip, CV.P] using this
  all_goals exact h

theorem CV.P.toG {g : Gh} {w : World} {c : CV} {v : Value} (h : c.P g.X w v) (hs : c.strip = c) : c.G g w v := by
  cases c
  case ptr => simp only [CV.P] at h
  case rf => simp only [CV.P] at h
  case rp => simp only [CV.P] at h
  case lim own xs => cases own with
    | none => exact ⟨by simpa only [CV.P] using h, trivial⟩
    | some i => simp [CV.strip] at hs
  case sl own t rows => cases own with
    | none => exact ⟨h, trivial⟩
    | some i => simp [CV.strip] at hs
  all_goals exact h

/-- the ghosts agree upon what is named -/
def Gh.same (g g' : Gh) (id : Nat) : Prop := g'.σ id = g.σ id ∧ g'.κ id = g.κ id

theorem CV.G.evo {g g' : Gh} {w w' : World} (e : Evo g.X w g'.X w') {c : CV} {v : Value} (h : c.G g w v) (hs : ∀ id, c.men id = true → g.same g' id) : c.G g' w' v := by
  cases c
  case ptr id off => simp only [CV.G] at h ⊢; rw [(hs id (by simp [CV.men])).1]; exact h
  case rf id n => simp only [CV.G] at h ⊢; rw [(hs id (by simp [CV.men])).1, (hs id (by simp [CV.men])).2]; exact h
  case rp id t i => simp only [CV.G] at h ⊢; rw [(hs id (by simp [CV.men])).1]; exact h
  case lim own xs =>
    refine ⟨h.1.evo e, ?_⟩
    cases own with
    | none => trivial
    | some i =>
      have := hs i (by simp [CV.men])
      obtain ⟨ao, n, h1, h2⟩ := h.2
      exact ⟨ao, n, by rw [this.2]; exact h1, by rw [this.1, this.2]; exact h2⟩
  case sl own t rows =>
    refine ⟨CV.P.evo e _ h.1, ?_⟩
    cases own with
    | none => trivial
    | some i =>
      have := hs i (by simp [CV.men])
      obtain ⟨ao, n, h1, h2⟩ := h.2
      exact ⟨ao, n, by rw [this.2]; exact h1, by rw [this.1, this.2]; exact h2⟩
  all_goals exact CV.P.evo e _ h

theorem forall2_imp {α β : Type} {R S : α → β → Prop} : ∀ {l : List α} {vs : List β}, All2 R l vs → (∀ a ∈ l, ∀ b, R a b → S a b) → All2 S l vs
  | _, _, .nil, _ => .nil
  | _, _, .cons h t, k => .cons (k _ (by simp) _ h) (forall2_imp t fun a ha => k a (by simp [ha]))

theorem A1.G.evo {g g' : Gh} {w w' : World} (e : Evo g.X w g'.X w') {c : A1} {v : Value} (h : c.G g w v) (hs : ∀ id, c.men id = true → g.same g' id) : c.G g' w' v := by
  cases c with
  | cel c => exact CV.G.evo e h hs
  | agg l =>
    obtain ⟨vs, hv, hl⟩ := h
    exact ⟨vs, hv, forall2_imp hl fun c hc v hv => hv.evo e fun id hm => hs id (by simp only [A1.men, List.any_eq_true]; exact ⟨c, hc, hm⟩)⟩

theorem AV.G.evo {g g' : Gh} {w w' : World} (e : Evo g.X w g'.X w') {c : AV} {v : Value} (h : c.G g w v) (hs : ∀ id, c.men id = true → g.same g' id) : c.G g' w' v := by
  cases c with
  | one a => exact A1.G.evo e h hs
  | tup l =>
    obtain ⟨vs, hv, hl⟩ := h
    exact ⟨vs, hv, forall2_imp hl fun c hc v hv => hv.evo e fun id hm => hs id (by simp only [AV.men, List.any_eq_true]; exact ⟨c, hc, hm⟩)⟩
  | any => trivial
  | und => exact h

theorem A1.G.strip {g : Gh} {w : World} {c : A1} {v : Value} (h : c.G g w v) : c.strip.P g.X w v := by
  cases c with
  | cel c => exact CV.G.strip h
  | agg l =>
    obtain ⟨vs, hv, hl⟩ := h
    refine ⟨vs, hv, ?_⟩
    clear hv
    induction hl with
    | nil => exact .nil
    | cons h _ ih => exact .cons h.strip ih

theorem AV.G.strip {g : Gh} {w : World} {c : AV} {v : Value} (h : c.G g w v) : c.strip.P g.X w v := by
  cases c with
  | one c => exact A1.G.strip h
  | tup l =>
    obtain ⟨vs, hv, hl⟩ := h
    refine ⟨vs, hv, ?_⟩
    clear hv
    induction hl with
    | nil => exact .nil
    | cons h _ ih => exact .cons h.strip ih
  | any => trivial
  | und => exact h

theorem CV.strip_strip (c : CV) : c.strip.strip = c.strip := by cases c <;> rfl

theorem CV.P.stripped {X : Nat → Nat → Prop} {w : World} {c : CV} {v : Value} (h : c.P X w v) : c.strip.P X w v := by
  cases c <;> first | exact h | (simp only [CV.P] at h)

theorem A1.P.stripped {X : Nat → Nat → Prop} {w : World} {c : A1} {v : Value} (h : c.P X w v) : c.strip.P X w v := by
  cases c with
  | cel c => exact CV.P.stripped h
  | agg l =>
    obtain ⟨vs, hv, hl⟩ := h
    refine ⟨vs, hv, ?_⟩
    clear hv
    induction hl with
    | nil => exact .nil
    | cons h _ ih => exact .cons h.stripped ih

theorem A1.P.toG {g : Gh} {w : World} {c : A1} {v : Value} (h : c.P g.X w v) : c.strip.G g w v := by
  cases c with
  | cel c => exact CV.P.toG (CV.P.stripped h) (CV.strip_strip c)
  | agg l =>
    obtain ⟨vs, hv, hl⟩ := h
    refine ⟨vs, hv, ?_⟩
    clear hv
    induction hl with
    | nil => exact .nil
    | cons h _ ih => exact .cons (h.stripped.toG (CV.strip_strip _)) ih

theorem AV.P.toG {g : Gh} {w : World} {c : AV} {v : Value} (h : c.P g.X w v) : c.strip.G g w v := by
  cases c with
  | one c => exact A1.P.toG h
  | tup l =>
    obtain ⟨vs, hv, hl⟩ := h
    refine ⟨vs, hv, ?_⟩
    clear hv
    induction hl with
    | nil => exact .nil
    | cons h _ ih => exact .cons h.toG ih
  | any => trivial
  | und => exact h

end Go.Proofs.Ytdojdghhbjjoeaa
