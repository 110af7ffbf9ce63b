/- The abstract walk, first part: abstract values, what they say of values in a world, and that it stays so. No condition. The abstract walk, second part: abstract states, what an operation does to them, and that it does so. No condition. The abstract walk, third part: the values that operations make are as the abstract state says. No condition. -/
import Derived.Test.YtocpmekblkfdiaaGreatDoorGA
import Derived.Lib.Strings
import Derived.Lib.ReflectliteSwap
namespace Go.Proofs.YtocpmekblkfdiaaGreatDoor
open Go.RowKit
/-- bytes -/
def byt (l : List Nat) : ByteArray := ⟨(l.map UInt8.ofNat).toArray⟩
def unbyt (s : ByteArray) : List Nat := s.data.toList.map UInt8.toNat
theorem byt_unbyt (s : ByteArray) : byt (unbyt s) = s := by
  obtain ⟨d⟩ := s
  obtain ⟨l⟩ := d
  simp [byt, unbyt, Function.comp_def]
theorem unbyt_lt (s : ByteArray) : ∀ x ∈ unbyt s, x < 256 := by
  intro x hx
  simp only [unbyt, List.mem_map] at hx
  obtain ⟨y, _, rfl⟩ := hx
  exact y.toNat_lt
theorem byt_size (l : List Nat) : (byt l).size = l.length := by simp [byt, ByteArray.size]
theorem byt_data (l : List Nat) : (byt l).data.toList = l.map UInt8.ofNat := by simp [byt]
theorem byt_append (l m : List Nat) : byt l ++ byt m = byt (l ++ m) := by
  apply ByteArray.ext
  apply Array.ext'
  simp [byt]
theorem byt_extract (l : List Nat) (i j : Nat) : (byt l).extract i j = byt ((l.take j).drop i) := by
  apply ByteArray.ext
  apply Array.ext'
  simp [byt, List.extract_eq_take_drop, List.drop_take]
theorem ofNat_inj {x y : Nat} (hx : x < 256) (hy : y < 256) (h : UInt8.ofNat x = UInt8.ofNat y) : x = y := by
  have := congrArg UInt8.toNat h
  simp [UInt8.toNat_ofNat'] at this
  omega
theorem map_ofNat_inj : ∀ {l m : List Nat}, (∀ x ∈ l, x < 256) → (∀ x ∈ m, x < 256) → l.map UInt8.ofNat = m.map UInt8.ofNat → l = m
  | [], [], _, _, _ => rfl
  | [], _ :: _, _, _, h => by simp at h
  | _ :: _, [], _, _, h => by simp at h
  | x :: l, y :: m, hl, hm, h => by
    simp only [List.map_cons, List.cons.injEq] at h
    rw [ofNat_inj (hl x (by simp)) (hm y (by simp)) h.1, map_ofNat_inj (fun z hz => hl z (by simp [hz])) (fun z hz => hm z (by simp [hz])) h.2]
theorem byt_beqD {l m : List Nat} (hl : ∀ x ∈ l, x < 256) (hm : ∀ x ∈ m, x < 256) : ((byt l).toList == (byt m).toList) = decide (l = m) := by
  rw [Lib.toList_data, Lib.toList_data, byt_data, byt_data]
  by_cases h : l = m
  · subst h; simp
  · rw [decide_eq_false h, beq_eq_false_iff_ne]
    exact fun e => h (map_ofNat_inj hl hm e)
theorem byt_get {l : List Nat} {i c : Nat} (hl : ∀ x ∈ l, x < 256) (h : l[i]? = some c) : (byt l)[i]? = some (UInt8.ofNat c) ∧ (UInt8.ofNat c).toNat = c := by
  have hc := hl c (List.mem_of_getElem? h)
  refine ⟨?_, by simp [UInt8.toNat_ofNat']; omega⟩
  have hi : i < l.length := (List.getElem?_eq_some_iff.1 h).1
  have hs : i < (byt l).size := by rw [byt_size]; exact hi
  rw [getElem?_pos (byt l) i hs]
  simp only [Option.some.injEq]
  rw [List.getElem?_eq_getElem hi] at h
  cases h
  simp [byt, ByteArray.getElem_eq_getElem_data]
/-- two lists, place by place -/
inductive All2 {α β : Type} (R : α → β → Prop) : List α → List β → Prop where
  | nil : All2 R [] []
  | cons {a : α} {b : β} {l : List α} {m : List β} : R a b → All2 R l m → All2 R (a :: l) (b :: m)
/-- what is known of one cell's value -/
inductive CV where
  | bool (b : Bool)
  | int (k : IntKind) (n : Int)
  | nil
  | lim (own : Option Nat) (xs : List Nat)
  | sl (own : Option Nat) (t : Nat) (rows : List (List CV))
  | ptr (id off : Nat)
  | rf (id n : Nat)
  | rp (id t i : Nat)
  | pto (cs : List CV)
  | fn (f : Nat)
  | clo (f : Nat) (cs : List CV)
  | str (l : List Nat)
  | any
/-- what is known of a value -/
inductive A1 where
  | cel (v : CV)
  | agg (l : List CV)
inductive AV where
  | one (a : A1)
  | tup (l : List A1)
  | any
  | und
abbrev AV.cel (v : CV) : AV := .one (.cel v)
abbrev AV.agg (l : List CV) : AV := .one (.agg l)
def notAgg : Value → Prop
  | .agg _ => False
  | .tuple _ => False
  | _ => True
/-- the cell (b, o) is there, outside of X, and holds v -/
def seenAt (X : Nat → Nat → Prop) (w : World) (b o : Nat) (v : Value) : Prop :=
  b < w.heap.size ∧ ¬ X b o ∧ w.cell? ⟨b, o, none⟩ = some v
def limG (X : Nat → Nat → Prop) (w : World) (v : Value) (xs : List Nat) : Prop :=
  ∃ (ao : Option Addr) (cap : Nat), v = .slice ao xs.length cap ∧ xs.length ≤ cap ∧ (ao = none → cap = 0) ∧ (∀ x ∈ xs, x < 4294967296) ∧
    (0 < xs.length → ∃ b off, ao = some ⟨b, off, none⟩ ∧ ∀ i, i < xs.length → seenAt X w b (off + i) (.int .u32 ((xs.getD i 0 : Nat) : Int)))
mutual
/-- what a cell's knowledge says, of memory outside of X alone -/
def CV.P (X : Nat → Nat → Prop) (w : World) : CV → Value → Prop
  | .bool b, v => v = .bool b
  | .int k n, v => v = .int k n
  | .nil, v => v = .slice none 0 0
  | .lim _ xs, v => limG X w v xs
  | .sl _ t rows, v => ∃ (ao : Option Addr) (cap : Nat), v = .slice ao rows.length cap ∧ rows.length ≤ cap ∧ (ao = none → cap = 0) ∧
      (0 < rows.length → ∃ b off, ao = some ⟨b, off, none⟩ ∧ rowsP X w b off t rows)
  | .ptr _ _, _ => False
  | .rf _ _, _ => False
  | .rp _ _ _, _ => False
  | .pto cs, v => ∃ b off, v = .pointer (some ⟨b, off, none⟩) ∧ cellsP X w b off cs
  | .fn f, v => v = .func (.func f) #[] #[]
  | .clo f cs, v => ∃ vs : List Value, v = .func (.func f) #[] vs.toArray ∧ valsP X w cs vs
  | .str l, v => v = .string (byt l) ∧ ∀ x ∈ l, x < 256
  | .any, v => notAgg v
def valsP (X : Nat → Nat → Prop) (w : World) : List CV → List Value → Prop
  | [], vs => vs = []
  | c :: cs, vs => ∃ u us, vs = u :: us ∧ CV.P X w c u ∧ valsP X w cs us
def rowsP (X : Nat → Nat → Prop) (w : World) (b off t : Nat) : List (List CV) → Prop
  | [] => True
  | r :: rs => r.length = t ∧ cellsP X w b off r ∧ rowsP X w b (off + t) t rs
def cellsP (X : Nat → Nat → Prop) (w : World) (b off : Nat) : List CV → Prop
  | [] => True
  | c :: cs => (∃ v, seenAt X w b off v ∧ CV.P X w c v) ∧ cellsP X w b (off + 1) cs
end
theorem CV.P.flat {X : Nat → Nat → Prop} {w : World} {c : CV} {v : Value} (h : c.P X w v) : notAgg v := by
  cases c <;> simp only [CV.P, limG] at h
  case any => exact h
  case lim => obtain ⟨_, _, rfl, _⟩ := h; trivial
  case sl => obtain ⟨_, _, rfl, _⟩ := h; trivial
  case pto => obtain ⟨_, _, rfl, _⟩ := h; trivial
  case clo => obtain ⟨_, rfl, _⟩ := h; trivial
  case str => obtain ⟨rfl, _⟩ := h; trivial
  all_goals subst h; trivial
/-- memory outside of X stays as it was, and X takes no old cell -/
def Evo (X : Nat → Nat → Prop) (w : World) (X' : Nat → Nat → Prop) (w' : World) : Prop :=
  w.heap.size ≤ w'.heap.size ∧ ∀ b o, b < w.heap.size → ¬ X b o → w'.cell? ⟨b, o, none⟩ = w.cell? ⟨b, o, none⟩ ∧ ¬ X' b o
theorem Evo.refl (X : Nat → Nat → Prop) (w : World) : Evo X w X w := ⟨Nat.le_refl _, fun _ _ _ h => ⟨rfl, h⟩⟩
theorem Evo.trans {X X1 X2 : Nat → Nat → Prop} {w w1 w2 : World} (h : Evo X w X1 w1) (k : Evo X1 w1 X2 w2) : Evo X w X2 w2 :=
  ⟨Nat.le_trans h.1 k.1, fun b o hb hx => by
    obtain ⟨e, hx1⟩ := h.2 b o hb hx
    obtain ⟨e2, hx2⟩ := k.2 b o (Nat.lt_of_lt_of_le hb h.1) hx1
    exact ⟨e2.trans e, hx2⟩⟩
theorem seenAt.evo {X X' : Nat → Nat → Prop} {w w' : World} (e : Evo X w X' w') {b o : Nat} {v : Value} (h : seenAt X w b o v) : seenAt X' w' b o v := by
  obtain ⟨h1, h2, h3⟩ := h
  obtain ⟨e1, e2⟩ := e.2 b o h1 h2
  exact ⟨Nat.lt_of_lt_of_le h1 e.1, e2, e1.trans h3⟩
theorem limG.evo {X X' : Nat → Nat → Prop} {w w' : World} (e : Evo X w X' w') {v : Value} {xs : List Nat} (h : limG X w v xs) : limG X' w' v xs := by
  obtain ⟨ao, cap, h1, h2, h3, h4, h5⟩ := h
  exact ⟨ao, cap, h1, h2, h3, h4, fun hp => by obtain ⟨b, off, hb, hc⟩ := h5 hp; exact ⟨b, off, hb, fun i hi => (hc i hi).evo e⟩⟩
mutual
theorem CV.P.evo {X X' : Nat → Nat → Prop} {w w' : World} (e : Evo X w X' w') : ∀ (c : CV) {v : Value}, c.P X w v → c.P X' w' v
  | .bool b, v, h => by simpa only [CV.P] using h
  | .int k n, v, h => by simpa only [CV.P] using h
  | .nil, v, h => by simpa only [CV.P] using h
  | .lim _ xs, v, h => by simp only [CV.P] at h ⊢; exact h.evo e
  | .sl _ t rows, v, h => by
    simp only [CV.P] at h ⊢
    obtain ⟨ao, cap, h1, h2, h3, h5⟩ := h
    exact ⟨ao, cap, h1, h2, h3, fun hp => by obtain ⟨b, off, hb, hc⟩ := h5 hp; exact ⟨b, off, hb, rowsP.evo e rows b off hc⟩⟩
  | .ptr _ _, v, h => by simp only [CV.P] at h
  | .rf _ _, v, h => by simp only [CV.P] at h
  | .rp _ _ _, v, h => by simp only [CV.P] at h
  | .pto cs, v, h => by
    simp only [CV.P] at h ⊢
    obtain ⟨b, off, h1, h2⟩ := h
    exact ⟨b, off, h1, cellsP.evo e cs b off h2⟩
  | .fn f, v, h => by simpa only [CV.P] using h
  | .clo f cs, v, h => by
    simp only [CV.P] at h ⊢
    obtain ⟨vs, h1, h2⟩ := h
    exact ⟨vs, h1, valsP.evo e cs h2⟩
  | .str l, v, h => by simpa only [CV.P] using h
  | .any, v, h => by simpa only [CV.P] using h
theorem rowsP.evo {X X' : Nat → Nat → Prop} {w w' : World} (e : Evo X w X' w') {t : Nat} : ∀ (rows : List (List CV)) (b off : Nat), rowsP X w b off t rows → rowsP X' w' b off t rows
  | [], b, off, _ => by simp only [rowsP]
  | r :: rs, b, off, h => by
    simp only [rowsP] at h ⊢
    exact ⟨h.1, cellsP.evo e r b off h.2.1, rowsP.evo e rs b (off + t) h.2.2⟩
theorem cellsP.evo {X X' : Nat → Nat → Prop} {w w' : World} (e : Evo X w X' w') : ∀ (cs : List CV) (b off : Nat), cellsP X w b off cs → cellsP X' w' b off cs
  | [], b, off, _ => by simp only [cellsP]
  | c :: cs, b, off, h => by
    simp only [cellsP] at h ⊢
    obtain ⟨⟨v, h1, h2⟩, h3⟩ := h
    exact ⟨⟨v, h1.evo e, CV.P.evo e c h2⟩, cellsP.evo e cs b (off + 1) h3⟩
theorem valsP.evo {X X' : Nat → Nat → Prop} {w w' : World} (e : Evo X w X' w') : ∀ (cs : List CV) {vs : List Value}, valsP X w cs vs → valsP X' w' cs vs
  | [], vs, h => by simpa only [valsP] using h
  | c :: cs, vs, h => by
    simp only [valsP] at h ⊢
    obtain ⟨u, us, h1, h2, h3⟩ := h
    exact ⟨u, us, h1, CV.P.evo e c h2, valsP.evo e cs h3⟩
end
/-- the ghosts of an activation: where its own blocks lie, the caps of its own rows, which cells are its own -/
structure Gh where
  σ : Nat → Nat
  κ : Nat → Nat
  X : Nat → Nat → Prop
def tagG (g : Gh) (own : Option Nat) (v : Value) : Prop :=
  match own with
  | none => True
  | some id => ∃ ao n, v = .slice ao n (g.κ id) ∧ (ao = none ∧ n = 0 ∧ g.κ id = 0 ∨ ao = some ⟨g.σ id, 0, none⟩)
def CV.G (g : Gh) (w : World) (c : CV) (v : Value) : Prop :=
  match c with
  | .ptr id off => v = .pointer (some ⟨g.σ id, off, none⟩)
  | .rf id n => ∃ ao, v = .slice ao n (g.κ id) ∧ (ao = none ∧ n = 0 ∧ g.κ id = 0 ∨ ao = some ⟨g.σ id, 0, none⟩)
  | .rp id t i => v = .pointer (some ⟨g.σ id, i * t, none⟩)
  | .lim own xs => limG g.X w v xs ∧ tagG g own v
  | .sl own t rows => (CV.sl own t rows).P g.X w v ∧ tagG g own v
  | c => c.P g.X w v
def A1.G (g : Gh) (w : World) : A1 → Value → Prop
  | .cel c, v => c.G g w v
  | .agg l, v => ∃ vs : List Value, v = .agg vs.toArray ∧ All2 (fun c v => CV.G g w c v) l vs
def AV.G (g : Gh) (w : World) : AV → Value → Prop
  | .one a, v => a.G g w v
  | .tup l, v => ∃ vs : List Value, v = .tuple vs.toArray ∧ All2 (fun c v => A1.G g w c v) l vs
  | .any, _ => True
  | .und, v => v = undef
def A1.P (X : Nat → Nat → Prop) (w : World) : A1 → Value → Prop
  | .cel c, v => c.P X w v
  | .agg l, v => ∃ vs : List Value, v = .agg vs.toArray ∧ All2 (fun c v => CV.P X w c v) l vs
def AV.P (X : Nat → Nat → Prop) (w : World) : AV → Value → Prop
  | .one a, v => a.P X w v
  | .tup l, v => ∃ vs : List Value, v = .tuple vs.toArray ∧ All2 (fun c v => A1.P X w c v) l vs
  | .any, _ => True
  | .und, v => v = undef
/-- does a cell's knowledge name the own block id? -/
def CV.men (id : Nat) : CV → Bool
  | .ptr i _ => i == id
  | .rf i _ => i == id
  | .rp i _ _ => i == id
  | .lim (some i) _ => i == id
  | .sl (some i) _ _ => i == id
  | _ => false
def A1.men (id : Nat) : A1 → Bool
  | .cel c => c.men id
  | .agg l => l.any (CV.men id)
def AV.men (id : Nat) : AV → Bool
  | .one a => a.men id
  | .tup l => l.any (A1.men id)
  | .any => false
  | .und => false
/-- without what is said of own blocks -/
def CV.strip : CV → CV
  | .ptr _ _ => .any
  | .rf _ _ => .any
  | .rp _ _ _ => .any
  | .lim _ xs => .lim none xs
  | .sl _ t rows => .sl none t rows
  | c => c
def A1.strip : A1 → A1
  | .cel c => .cel c.strip
  | .agg l => .agg (l.map CV.strip)
def AV.strip : AV → AV
  | .one a => .one a.strip
  | .tup l => .tup (l.map A1.strip)
  | .any => .any
  | .und => .und
theorem CV.G.flat {g : Gh} {w : World} {c : CV} {v : Value} (h : c.G g w v) : notAgg v := by
  cases c
  case ptr => simp only [CV.G] at h; subst h; trivial
  case rf => simp only [CV.G] at h; obtain ⟨_, rfl, _⟩ := h; trivial
  case rp => simp only [CV.G] at h; subst h; trivial
  case lim => exact CV.P.flat (c := .lim none _) (X := g.X) (w := w) (by simpa only [CV.P] using h.1)
  case sl => exact CV.P.flat h.1
  all_goals exact CV.P.flat h
theorem CV.G.strip {g : Gh} {w : World} {c : CV} {v : Value} (h : c.G g w v) : c.strip.P g.X w v := by
  cases c
  case ptr => simp only [CV.strip, CV.P]; exact h.flat
  case rf => simp only [CV.strip, CV.P]; exact h.flat
  case rp => simp only [CV.strip, CV.P]; exact h.flat
  case lim => simp only [CV.strip, CV.P]; exact h.1
  case sl => have := h.1; simpa only [CV.strip, CV.P] using this
  all_goals exact h
theorem CV.P.toG {g : Gh} {w : World} {c : CV} {v : Value} (h : c.P g.X w v) (hs : c.strip = c) : c.G g w v := by
  cases c
  case ptr => simp only [CV.P] at h
  case rf => simp only [CV.P] at h
  case rp => simp only [CV.P] at h
  case lim own xs => cases own with
    | none => exact ⟨by simpa only [CV.P] using h, trivial⟩
    | some i => simp [CV.strip] at hs
  case sl own t rows => cases own with
    | none => exact ⟨h, trivial⟩
    | some i => simp [CV.strip] at hs
  all_goals exact h
/-- the ghosts agree upon what is named -/
def Gh.same (g g' : Gh) (id : Nat) : Prop := g'.σ id = g.σ id ∧ g'.κ id = g.κ id
theorem CV.G.evo {g g' : Gh} {w w' : World} (e : Evo g.X w g'.X w') {c : CV} {v : Value} (h : c.G g w v) (hs : ∀ id, c.men id = true → g.same g' id) : c.G g' w' v := by
  cases c
  case ptr id off => simp only [CV.G] at h ⊢; rw [(hs id (by simp [CV.men])).1]; exact h
  case rf id n => simp only [CV.G] at h ⊢; rw [(hs id (by simp [CV.men])).1, (hs id (by simp [CV.men])).2]; exact h
  case rp id t i => simp only [CV.G] at h ⊢; rw [(hs id (by simp [CV.men])).1]; exact h
  case lim own xs =>
    refine ⟨h.1.evo e, ?_⟩
    cases own with
    | none => trivial
    | some i =>
      have := hs i (by simp [CV.men])
      obtain ⟨ao, n, h1, h2⟩ := h.2
      exact ⟨ao, n, by rw [this.2]; exact h1, by rw [this.1, this.2]; exact h2⟩
  case sl own t rows =>
    refine ⟨CV.P.evo e _ h.1, ?_⟩
    cases own with
    | none => trivial
    | some i =>
      have := hs i (by simp [CV.men])
      obtain ⟨ao, n, h1, h2⟩ := h.2
      exact ⟨ao, n, by rw [this.2]; exact h1, by rw [this.1, this.2]; exact h2⟩
  all_goals exact CV.P.evo e _ h
theorem forall2_imp {α β : Type} {R S : α → β → Prop} : ∀ {l : List α} {vs : List β}, All2 R l vs → (∀ a ∈ l, ∀ b, R a b → S a b) → All2 S l vs
  | _, _, .nil, _ => .nil
  | _, _, .cons h t, k => .cons (k _ (by simp) _ h) (forall2_imp t fun a ha => k a (by simp [ha]))
theorem A1.G.evo {g g' : Gh} {w w' : World} (e : Evo g.X w g'.X w') {c : A1} {v : Value} (h : c.G g w v) (hs : ∀ id, c.men id = true → g.same g' id) : c.G g' w' v := by
  cases c with
  | cel c => exact CV.G.evo e h hs
  | agg l =>
    obtain ⟨vs, hv, hl⟩ := h
    exact ⟨vs, hv, forall2_imp hl fun c hc v hv => hv.evo e fun id hm => hs id (by simp only [A1.men, List.any_eq_true]; exact ⟨c, hc, hm⟩)⟩
theorem AV.G.evo {g g' : Gh} {w w' : World} (e : Evo g.X w g'.X w') {c : AV} {v : Value} (h : c.G g w v) (hs : ∀ id, c.men id = true → g.same g' id) : c.G g' w' v := by
  cases c with
  | one a => exact A1.G.evo e h hs
  | tup l =>
    obtain ⟨vs, hv, hl⟩ := h
    exact ⟨vs, hv, forall2_imp hl fun c hc v hv => hv.evo e fun id hm => hs id (by simp only [AV.men, List.any_eq_true]; exact ⟨c, hc, hm⟩)⟩
  | any => trivial
  | und => exact h
theorem A1.G.strip {g : Gh} {w : World} {c : A1} {v : Value} (h : c.G g w v) : c.strip.P g.X w v := by
  cases c with
  | cel c => exact CV.G.strip h
  | agg l =>
    obtain ⟨vs, hv, hl⟩ := h
    refine ⟨vs, hv, ?_⟩
    clear hv
    induction hl with
    | nil => exact .nil
    | cons h _ ih => exact .cons h.strip ih
theorem AV.G.strip {g : Gh} {w : World} {c : AV} {v : Value} (h : c.G g w v) : c.strip.P g.X w v := by
  cases c with
  | one c => exact A1.G.strip h
  | tup l =>
    obtain ⟨vs, hv, hl⟩ := h
    refine ⟨vs, hv, ?_⟩
    clear hv
    induction hl with
    | nil => exact .nil
    | cons h _ ih => exact .cons h.strip ih
  | any => trivial
  | und => exact h
theorem CV.strip_strip (c : CV) : c.strip.strip = c.strip := by cases c <;> rfl
theorem CV.P.stripped {X : Nat → Nat → Prop} {w : World} {c : CV} {v : Value} (h : c.P X w v) : c.strip.P X w v := by
  cases c <;> first | exact h | (simp only [CV.P] at h)
theorem A1.P.stripped {X : Nat → Nat → Prop} {w : World} {c : A1} {v : Value} (h : c.P X w v) : c.strip.P X w v := by
  cases c with
  | cel c => exact CV.P.stripped h
  | agg l =>
    obtain ⟨vs, hv, hl⟩ := h
    refine ⟨vs, hv, ?_⟩
    clear hv
    induction hl with
    | nil => exact .nil
    | cons h _ ih => exact .cons h.stripped ih
theorem A1.P.toG {g : Gh} {w : World} {c : A1} {v : Value} (h : c.P g.X w v) : c.strip.G g w v := by
  cases c with
  | cel c => exact CV.P.toG (CV.P.stripped h) (CV.strip_strip c)
  | agg l =>
    obtain ⟨vs, hv, hl⟩ := h
    refine ⟨vs, hv, ?_⟩
    clear hv
    induction hl with
    | nil => exact .nil
    | cons h _ ih => exact .cons (h.stripped.toG (CV.strip_strip _)) ih
theorem AV.P.toG {g : Gh} {w : World} {c : AV} {v : Value} (h : c.P g.X w v) : c.strip.G g w v := by
  cases c with
  | one c => exact A1.P.toG h
  | tup l =>
    obtain ⟨vs, hv, hl⟩ := h
    refine ⟨vs, hv, ?_⟩
    clear hv
    induction hl with
    | nil => exact .nil
    | cons h _ ih => exact .cons h.toG ih
  | any => trivial
  | und => exact h
end Go.Proofs.YtocpmekblkfdiaaGreatDoor
namespace Go.Proofs.YtocpmekblkfdiaaGreatDoor
open Go.RowKit
/-- what an own row holds: numbers, or rows of t cells -/
inductive RC where
  | u32 (xs : List Nat)
  | gen (t : Nat) (rows : List (List CV))
def u32C (x : Nat) : CV := .int .u32 (x : Int)
def RC.t : RC → Nat
  | .u32 _ => 1
  | .gen t _ => t
def RC.len : RC → Nat
  | .u32 xs => xs.length
  | .gen _ rows => rows.length
def RC.flat : RC → List CV
  | .u32 xs => xs.map u32C
  | .gen _ rows => rows.flatten
def allLen (n : Nat) : List (List CV) → Prop
  | [] => True
  | r :: rs => r.length = n ∧ allLen n rs
def RC.ok : RC → Prop
  | .u32 xs => ∀ x ∈ xs, x < 4294967296
  | .gen t rows => 0 < t ∧ allLen t rows
/-- the cells at one place of a row -/
def RC.at : RC → Nat → List CV
  | .u32 xs, i => [u32C (xs.getD i 0)]
  | .gen _ rows, i => rows.getD i []
/-- the first n, no longer one's own -/
def RC.takeC : RC → Nat → CV
  | .u32 xs, n => .lim none (xs.take n)
  | .gen t rows, n => .sl none t (rows.take n)
/-- one place laid anew -/
def u32One : List CV → Option Int
  | [.int .u32 v] => some v
  | _ => none
def RC.setC : RC → Nat → List CV → Prop × RC
  | .u32 xs, i, cs => match u32One cs with
    | some v => (0 ≤ v ∧ v < 4294967296, .u32 (xs.set i v.toNat))
    | none => (False, .u32 xs)
  | .gen t rows, i, cs => (cs.length = t, .gen t (rows.set i (cs.map CV.strip)))
/-- a row put behind a row -/
def RC.app : RC → CV → Prop × RC
  | .u32 xs, .lim _ ys => (xs.length + ys.length ≤ 1000000000000, .u32 (xs ++ ys))
  | .gen t rows, .sl _ t' rs => (t' = t ∧ rows.length + rs.length ≤ 1000000000000, .gen t (rows ++ rs))
  | c, .nil => (True, c)
  | c, _ => (False, c)
/-- what is known of a resource: a slot (n, 0), a cell of an own block (n, off + 1), an own row (n, 1) -/
inductive RV where
  | av (a : AV)
  | cv (c : CV)
  | row (c : RC)
  | off
  /-- what is so of the world, and stays so -/
  | ext (p : Nat → Nat → (Nat → Nat → Prop) → (Nat → Option (Nat × Bool)) → World → Prop)
abbrev AS := List (Nat × Nat × RV)
def AS.get : AS → Nat → Nat → Option RV
  | [], _, _ => none
  | (n, k, v) :: s, n', k' => if (n == n' && k == k') = true then some v else AS.get s n' k'
theorem AS.get_cons_self (n k : Nat) (v : RV) (s : AS) : AS.get ((n, k, v) :: s) n k = some v := by simp [AS.get]
theorem AS.get_cons_ne {n k n' k' : Nat} (v : RV) (s : AS) (h : ¬ (n = n' ∧ k = k')) : AS.get ((n, k, v) :: s) n' k' = AS.get s n' k' := by
  simp only [AS.get, Bool.and_eq_true, beq_iff_eq]; rw [if_neg h]
/-- the same, a slot's value laid anew in its place -/
def AS.setv (t : Nat) (v : RV) : AS → AS
  | [] => []
  | (n, k, r) :: s => if (n == t && k == 0) = true then (n, k, v) :: s else (n, k, r) :: AS.setv t v s
theorem AS.setv_eq {t : Nat} {v : RV} : ∀ {s : AS}, s.get t 0 = some v → s.setv t v = s
  | [], h => by simp [AS.get] at h
  | (n, k, r) :: s, h => by
    unfold AS.get at h
    unfold AS.setv
    split at h
    · rename_i hc; cases h; rw [if_pos hc]
    · rename_i hc; rw [if_neg hc, AS.setv_eq h]
structure TI where
  size : Nat
  agg : Bool
  zero : Value
  z1 : A1
  desc : TypeDesc
def A1.cells : A1 → List CV
  | .cel c => [c]
  | .agg l => l
structure TIOk (P : Program) (t : Nat) (ti : TI) : Prop where
  info : ∃ i, P.info? t = some i ∧ i.zero = some ti.zero ∧ i.size = ti.size ∧ i.bytes ≤ 136
  size : ∀ w, (sizeOf t).run P w = .ok ti.size w
  agg : ∀ w, (isAgg t).run P w = .ok ti.agg w
  zero : ∀ w, (zeroValue t).run P w = .ok ti.zero w
  und : P.underlying t = some ti.desc
  z1 : ∀ X w, ti.z1.P X w ti.zero
  z1s : ti.z1.strip = ti.z1
  one : ti.agg = false → ti.size = 1
abbrev Den := List AV → Prop × AV
structure Env where
  N : Nat
  tt : Nat → Option TI
  fn : Nat → Option Den
  /-- which rows are given up before the region n (2 n) and behind it (2 n + 1) -/
  fz : Nat → List Nat
/-- the denotation d is the function's: of values that are as the arguments' knowledge says, the answer is as d says -/
structure Sound (P : Program) (f : Nat) (d : Den) : Prop where
  call : ∀ (args : Array Value) (w : World), (callFunc f args).run P w = .ok (.enter f args) w
  runs : ∀ (avs : List AV) (X : Nat → Nat → Prop) (w : World) (vs : List Value), (d avs).1 → (∀ b o, X b o → b < w.heap.size) → All2 (fun a v => AV.P X w a v) avs vs →
    Calls P f vs.toArray w fun e w' => ∃ v, e = .returned v ∧ (d avs).2.P X w' v ∧ Below w.heap.size w w'
  flat : ∀ avs, (d avs).1 → (d avs).2.strip = (d avs).2
/-- the denotation d is the function's, and what it answers lies in new memory -/
structure SoundN (P : Program) (f : Nat) (d : Den) : Prop where
  call : ∀ (args : Array Value) (w : World), (callFunc f args).run P w = .ok (.enter f args) w
  runs : ∀ (avs : List AV) (X : Nat → Nat → Prop) (w : World) (vs : List Value), (d avs).1 → (∀ b o, X b o → b < w.heap.size) → All2 (fun a v => AV.P X w a v) avs vs →
    Calls P f vs.toArray w fun e w' => ∃ v, e = .returned v ∧ (d avs).2.P (fun b o => X b o ∨ b < w.heap.size) w' v ∧ Below w.heap.size w w'
  flat : ∀ avs, (d avs).1 → (d avs).2.strip = (d avs).2
def cvRow : Option RC → CV
  | some (.u32 xs) => .lim none xs
  | some (.gen t rows) => .sl none t rows
  | none => .any
/-- the row that a function has made of c -/
def rowOf (c : RC) : AV → Option RC
  | .one (.cel (.sl _ t rows)) => match c with
    | .gen _ _ => some (.gen t rows)
    | _ => none
  | .one (.cel (.lim _ xs)) => match c with
    | .u32 _ => some (.u32 xs)
    | _ => none
  | _ => none
/-- the row that a function leaves, and what it answers -/
def outOf : AV → AV × AV
  | .tup [r, a] => (.one r, .one a)
  | .tup [r] => (.one r, .any)
  | .tup [] => (.tup [], .tup [])
  | v => (v, .tup [])
/-- a row lies in block b, whole and one's own -/
def rowAt (X : Nat → Nat → Prop) (w : World) (b cap : Nat) (ao : Option Addr) (c : RC) : Prop :=
  c.len ≤ cap ∧ (ao = none ∧ c.len = 0 ∧ cap = 0 ∨ ao = some ⟨b, 0, none⟩) ∧
  (0 < cap → b < w.heap.size ∧ (∀ o, X b o) ∧ ∀ j, j < cap * c.t → w.frozen? ⟨b, j, none⟩ = false ∧ (w.cell? ⟨b, j, none⟩).isSome = true) ∧
  ∀ j x, c.flat[j]? = some x → ∃ v, w.cell? ⟨b, j, none⟩ = some v ∧ x.P X w v
/-- the denotation d is the function's, that changes the row that is its first argument, and nothing else -/
structure SoundM (P : Program) (f : Nat) (d : Den) : Prop where
  call : ∀ (args : Array Value) (w : World), (callFunc f args).run P w = .ok (.enter f args) w
  runs : ∀ (c : RC) (avs : List AV) (X : Nat → Nat → Prop) (w : World) (vs : List Value) (b cap : Nat) (ao : Option Addr), (d (.one (.cel (cvRow (some c))) :: avs)).1 → c.ok → (∀ b o, X b o → b < w.heap.size) → rowAt X w b cap ao c → All2 (fun a v => AV.P X w a v) avs vs →
    Calls P f (.slice ao c.len cap :: vs).toArray w fun e w' => ∃ v, e = .returned v ∧ (outOf (d (.one (.cel (cvRow (some c))) :: avs)).2).2.P X w' v ∧ ∃ c', rowOf c (outOf (d (.one (.cel (cvRow (some c))) :: avs)).2).1 = some c' ∧ c'.ok ∧ c'.len = c.len ∧ c'.t = c.t ∧ rowAt X w' b cap ao c' ∧
      w'.os = w.os ∧ w'.tape = w.tape ∧ w'.output = w.output ∧ w.heap.size ≤ w'.heap.size ∧ ∀ k, k < w.heap.size → ¬ (0 < cap ∧ k = b) → w'.heap[k]? = w.heap[k]?
/-- the number of a variable of the program's that a law leans on -/
def gmlN : Nat := 3
/-- that variable holds an int -/
def glW (w : World) : Prop := gmlN < w.heap.size ∧ ∃ μ : Int, w.cell? ⟨gmlN, 0, none⟩ = some (.int .i64 μ)
def glP : Nat → Nat → (Nat → Nat → Prop) → (Nat → Option (Nat × Bool)) → World → Prop := fun _ _ _ who w => who gmlN = none ∧ glW w
/-- the denotation d is the function's, where that variable holds an int -/
structure SoundG (P : Program) (f : Nat) (d : Den) : Prop where
  call : ∀ (args : Array Value) (w : World), (callFunc f args).run P w = .ok (.enter f args) w
  runs : ∀ (avs : List AV) (X : Nat → Nat → Prop) (w : World) (vs : List Value), (d avs).1 → (∀ b o, X b o → b < w.heap.size) → glW w → All2 (fun a v => AV.P X w a v) avs vs →
    Calls P f vs.toArray w fun e w' => ∃ v, e = .returned v ∧ (d avs).2.P X w' v ∧ Below w.heap.size w w'
  flat : ∀ avs, (d avs).1 → (d avs).2.strip = (d avs).2
structure EnvOk (P : Program) (E : Env) : Prop where
  tt : ∀ t ti, E.tt t = some ti → TIOk P t ti
  fn : ∀ f d, f < 1000000 → E.fn f = some d → Sound P f d
  fnN : ∀ f d, f < 1000000 → E.fn (f + 1000000) = some d → SoundN P f d
  fnM : ∀ f d, f < 1000000 → E.fn (f + 2000000) = some d → SoundM P f d
  fnG : ∀ f d, f < 1000000 → E.fn (f + 3000000) = some d → SoundG P f d
def CV.rfK : CV → List (Nat × Nat)
  | .rf id _ => [(id, 1)]
  | _ => []
def cvsRfK : List CV → List (Nat × Nat)
  | [] => []
  | c :: l => c.rfK ++ cvsRfK l
def A1.rfK : A1 → List (Nat × Nat)
  | .cel c => c.rfK
  | .agg l => cvsRfK l
def AV.rfK : AV → List (Nat × Nat)
  | .one a => a.rfK
  | _ => []
def avsRfK : List AV → List (Nat × Nat)
  | [] => []
  | a :: l => a.rfK ++ avsRfK l
/-- may calls look at rows of one's own? (told at a number that no region has) -/
def brwB (E : Env) : Bool := !(E.fz 1000005).isEmpty
def chgK : List AV → List (Nat × Nat)
  | .one (.cel (.rf id _)) :: _ => [(id, 1)]
  | _ => []
/-- does the function change a row of one's own? (looked at only if told at a number that no region has) -/
def chgB (E : Env) (f : Nat) : Bool := !(E.fz 1000011).isEmpty && (E.fn (f + 2000000)).isSome
/-- does the function lean on that variable? (looked at only if told at a number that no region has) -/
def glbB (E : Env) (f : Nat) : Bool := !(E.fz 1000015).isEmpty && (E.fn (f + 3000000)).isSome
def glK : Bool → List (Nat × Nat)
  | true => [(999999, 1)]
  | false => []
/-- does a difference run over as it does? (told at a number that no region has) -/
def wrpB (E : Env) : Bool := !(E.fz 1000009).isEmpty
def constCV : Value → Option CV
  | .bool b => some (.bool b)
  | .int k n => some (.int k n)
  | .slice none 0 0 => some .nil
  | .string s => some (.str (unbyt s))
  | _ => none
def AS.ev (s : AS) : Operand → AV
  | .tmp t => match s.get t 0 with
    | some (.av a) => a
    | _ => .any
  | .const v => match constCV v with
    | some c => .cel c
    | none => .any
  | .func f => .cel (.fn f)
  | _ => .any
def insOf : Op → List Operand
  | .move x | .assign x | .box _ x | .load _ x | .nilCheck x | .unOp _ _ x | .convert _ _ x | .fieldAddr _ x _ | .field _ x _ | .extract x _ => [x]
  | .pick c a b => [c, a, b]
  | .build _ ps | .buildSlice _ _ ps => ps.toList.map (·.2)
  | .store _ a x => [a, x]
  | .binOp _ _ x y _ => [x, y]
  | .makeSlice _ l c => [l, c]
  | .slice _ x lo hi _ => x :: (lo.toList ++ hi.toList)
  | .indexAddr _ x i => [x, i]
  | .index _ x i => [x, i]
  | .call c => c.args.toList
  | .makeFunc _ _ cs => cs.toList
  | _ => []
def Env.sz (E : Env) (t : Nat) : Nat := match E.tt t with | some ti => ti.size | none => 0
def Env.desc (E : Env) (t : Nat) : TypeDesc := match E.tt t with | some ti => ti.desc | none => .invalid
/-- the keys of n cells from k on -/
def keysFrom (id : Nat) : Nat → Nat → List (Nat × Nat)
  | _, 0 => []
  | k, n + 1 => (id, k) :: keysFrom id (k + 1) n
/-- which cells an operation looks at -/
def needsOf (E : Env) : Op → List AV → List (Nat × Nat)
  | .call ⟨.value (.func f), _, _⟩, ins => bif chgB E f then chgK ins else bif brwB E then avsRfK ins else glK (glbB E f)
  | .call ⟨.value (.tmp t), _, _⟩, _ => [(t, 0)]
  | .load t _, [.one (.cel (.ptr id off))] => keysFrom id (off + 1) (E.sz t)
  | .store t _ _, [.one (.cel (.ptr id off)), _] => keysFrom id (off + 1) (E.sz t)
  | .load _ _, [.one (.cel (.rp id _ _))] => [(id, 1)]
  | .store _ _ _, [.one (.cel (.rp id _ _)), _] => [(id, 1)]
  | .call ⟨.builtin .append, _, _⟩, [.one (.cel (.rf id _)), _] => [(id, 1)]
  | .slice _ _ _ _ _, [.one (.cel (.rf id _)), _] => [(id, 1)]
  | .convert _ _ _, [.one (.cel (.rf id _))] => [(id, 1)]
  | _, _ => []
def cvs : List (Option RV) → Option (List CV)
  | [] => some []
  | some (.cv c) :: r => match cvs r with
    | some cs => some (c :: cs)
    | none => none
  | _ => none
def no : Prop × AV := (False, .any)
def ofCells (agg : Bool) (cs : List CV) : AV :=
  match agg, cs with
  | true, cs => .agg cs
  | false, [c] => .cel c
  | false, _ => .any
def idAV : List AV → Prop × AV
  | [v] => (True, v)
  | _ => no
def pickAV : Bool → AV → AV → AV
  | x, .one (.cel (.bool p)), .one (.cel (.bool q)) => .cel (.bool (bif x then p else q))
  | true, a, _ => a
  | false, _, b => b
def pickOp : List AV → Prop × AV
  | [.one (.cel (.bool x)), a, b] => (True, pickAV x a b)
  | _ => no
/-- what is read of a row: one element; of rows of three also one cell -/
def loadRow (ti : TI) (t i : Nat) : RC → Prop × AV
  | .gen 3 rows => bif Nat.beq t 1 then (ti.size = 1 ∧ i < 3 * rows.length, ofCells ti.agg [((rows.getD (i / 3) []).getD (i % 3) .any).strip]) else (t = 3 ∧ ti.size = 3 ∧ i < rows.length, ofCells ti.agg ((rows.getD i []).map CV.strip))
  | c => (t = c.t ∧ ti.size = c.t ∧ i < c.len, ofCells ti.agg ((c.at i).map CV.strip))
theorem loadRow_old {ti : TI} {t i : Nat} {c : RC} (h : ¬ (t = 1 ∧ ∃ rows, c = .gen 3 rows)) : loadRow ti t i c = (t = c.t ∧ ti.size = c.t ∧ i < c.len, ofCells ti.agg ((c.at i).map CV.strip)) := by
  unfold loadRow
  split
  · rename_i rows
    have : Nat.beq t 1 = false := by
      cases hb : Nat.beq t 1 with
      | false => rfl
      | true => exact absurd ⟨Nat.eq_of_beq_eq_true hb, rows, rfl⟩ h
    rw [this]
    rfl
  · rfl
def loadAV (ti : Option TI) (ins : List AV) (fs : List (Option RV)) : Prop × AV :=
  match ti, ins with
  | some ti, [.one (.cel (.ptr _ _))] => match cvs fs with
    | some cs => (True, ofCells ti.agg cs)
    | none => no
  | some ti, [.one (.cel (.pto cs))] => (ti.size ≤ cs.length, ofCells ti.agg ((cs.take ti.size).map CV.strip))
  | some ti, [.one (.cel (.rp _ t i))] => match fs with
    | [some (.row c)] => loadRow ti t i c
    | _ => no
  | _, _ => no
def nilAV : List AV → Prop × AV
  | [.one (.cel (.ptr id off))] => (True, .cel (.ptr id off))
  | [.one (.cel (.pto cs))] => (True, .cel (.pto cs))
  | _ => no
/-- a number of this kind that has not run over -/
def keepI (k : IntKind) (n : Int) : Prop × CV :=
  match k with
  | .i64 => (-9223372036854775808 ≤ n ∧ n ≤ 9223372036854775807, .int .i64 n)
  | k => (True, .int k (k.wrap n))
def bitsI (op : BinOp) (k : IntKind) (x y : Int) : Int :=
  match op with
  | .and => k.wrap ((BitVec.ofInt k.bits x &&& BitVec.ofInt k.bits y).toNat : Nat)
  | .or => k.wrap ((BitVec.ofInt k.bits x ||| BitVec.ofInt k.bits y).toNat : Nat)
  | .xor => k.wrap ((BitVec.ofInt k.bits x ^^^ BitVec.ofInt k.bits y).toNat : Nat)
  | _ => k.wrap ((BitVec.ofInt k.bits x &&& ~~~(BitVec.ofInt k.bits y)).toNat : Nat)
def binII (op : BinOp) (k : IntKind) (x y : Int) : Prop × CV :=
  match op with
  | .add => keepI k (x + y)
  | .sub => keepI k (x - y)
  | .mul => keepI k (x * y)
  | .quo => (y ≠ 0 ∧ (keepI k (x.tdiv y)).1, (keepI k (x.tdiv y)).2)
  | .rem => (y ≠ 0, .int k (x.tmod y))
  | .and | .or | .xor | .andNot => (True, .int k (bitsI op k x y))
  | .eql => (True, .bool (decide (x = y)))
  | .neq => (True, .bool (!decide (x = y)))
  | .lss => (True, .bool (decide (x < y)))
  | .leq => (True, .bool (decide (x ≤ y)))
  | .gtr => (True, .bool (decide (y < x)))
  | .geq => (True, .bool (decide (y ≤ x)))
  | _ => (False, .any)
def shiftII (op : BinOp) (k : IntKind) (x y : Int) : Prop × CV :=
  match op with
  | .shl => (0 ≤ y, .int k (k.wrap (x * 2 ^ (min y.toNat k.bits))))
  | .shr => (0 ≤ y, .int k (x.fdiv (2 ^ (min y.toNat k.bits))))
  | _ => (False, .any)
def isShift : BinOp → Bool
  | .shl | .shr => true
  | _ => false
/-- strings -/
def strCV (op : BinOp) (a b : List Nat) : Prop × CV :=
  match op with
  | .add => (a.length + b.length ≤ 1000000, .str (a ++ b))
  | .eql => (True, .bool (decide (a = b)))
  | .neq => (True, .bool (!decide (a = b)))
  | _ => (False, .any)
def strCut (l : List Nat) (m h : Int) : Prop × AV := (0 ≤ m ∧ m ≤ h ∧ h ≤ l.length, .cel (.str ((l.take h.toNat).drop m.toNat)))
def stHi : List AV → Prop × AV
  | [.one (.cel (.str l)), .one (.cel (.int _ h))] => strCut l 0 h
  | _ => no
def stLo : List AV → Prop × AV
  | [.one (.cel (.str l)), .one (.cel (.int _ m))] => strCut l m l.length
  | _ => no
def stLH : List AV → Prop × AV
  | [.one (.cel (.str l)), .one (.cel (.int _ m)), .one (.cel (.int _ h))] => strCut l m h
  | _ => no
def strIxAV (desc : TypeDesc) : List AV → Prop × AV
  | [.one (.cel (.str l)), .one (.cel (.int _ i))] => (desc = .string ∧ 0 ≤ i ∧ i < l.length, .cel (.int .u8 ((l.getD i.toNat 0 : Nat) : Int)))
  | _ => no
def binCV (op : BinOp) (desc : TypeDesc) (x y : CV) : Prop × CV :=
  match x, y with
  | .int k a, .int k' b => if isShift op = true then shiftII op k a b else if k = k' then binII op k a b else (False, .any)
  | .bool a, .bool b => match op with
    | .eql => (desc = .bool, .bool (a == b))
    | .neq => (desc = .bool, .bool (!(a == b)))
    | _ => (False, .any)
  | .str a, .str b => strCV op a b
  | _, _ => (False, .any)
def binAV (op : BinOp) (desc : TypeDesc) : List AV → Prop × AV
  | [.one (.cel x), .one (.cel y)] => ((binCV op desc x y).1, .cel (binCV op desc x y).2)
  | _ => no
def binW (op : BinOp) (desc : TypeDesc) (ins : List AV) : Prop × AV :=
  match op, ins with
  | .sub, [.one (.cel (.int k a)), .one (.cel (.int k' b))] => (k = k', .cel (.int k (k.wrap (a - b))))
  | op, ins => binAV op desc ins
def unAV (op : UnOp) : List AV → Prop × AV
  | [.one (.cel (.bool b))] => match op with
    | .not => (True, .cel (.bool (!b)))
    | _ => no
  | [.one (.cel (.int k n))] => match op with
    | .neg => ((keepI k (0 - n)).1, .cel (keepI k (0 - n)).2)
    | _ => no
  | _ => no
def convAV (s d : TypeDesc) : List AV → Prop × AV
  | [.one (.cel (.int _ n))] => match d with
    | .int k' => (s ≠ .invalid, .cel (.int k' (k'.wrap n)))
    | _ => no
  | _ => no
def fieldAddrAV (E : Env) (desc : TypeDesc) (f : Nat) : List AV → Prop × AV
  | [.one (.cel p)] => match desc with
    | .struct fields => match fields[f]? with
      | some fd => match p with
        | .ptr id off => (E.sz fd.type ≠ 0, .cel (.ptr id (off + fd.offset)))
        | .pto cs => (E.sz fd.type ≠ 0 ∧ fd.offset ≤ cs.length, .cel (.pto (cs.drop fd.offset)))
        | .rp id t i => (E.sz fd.type ≠ 0, .cel (.rp id 1 (i * t + fd.offset)))
        | _ => no
      | none => no
    | _ => no
  | _ => no
def fieldAV (E : Env) (desc : TypeDesc) (f : Nat) : List AV → Prop × AV
  | [.one (.agg cs)] => match desc with
    | .struct fields => match fields[f]? with
      | some fd => match E.tt fd.type with
        | some ti => (fd.offset + ti.size ≤ cs.length, ofCells ti.agg ((cs.drop fd.offset).take ti.size))
        | none => no
      | none => no
    | _ => no
  | _ => no
def idxAV (desc : TypeDesc) (E : Env) : List AV → Prop × AV
  | [.one (.cel x), .one (.cel (.int _ i))] => match desc with
    | .slice e => match E.tt e with
      | some te => match x with
        | .sl _ t rows => (te.size = t ∧ 0 ≤ i ∧ i < rows.length, .cel (.pto (rows.getD i.toNat [])))
        | .lim _ xs => (te.size = 1 ∧ 0 ≤ i ∧ i < xs.length, .cel (.pto [.int .u32 ((xs.getD i.toNat 0 : Nat) : Int)]))
        | .rf id n => (0 ≤ i ∧ i < n, .cel (.rp id te.size i.toNat))
        | _ => no
      | none => no
    | _ => no
  | _ => no
/-- a part of a row that stays -/
def sliceCV (te : TI) (x : CV) (l h : Int) : Prop × AV :=
  match x with
  | .sl _ t rows => (te.size = t ∧ 0 ≤ l ∧ l ≤ h ∧ h ≤ rows.length, .cel (.sl none t ((rows.take h.toNat).drop l.toNat)))
  | .lim _ xs => (te.size = 1 ∧ 0 ≤ l ∧ l ≤ h ∧ h ≤ xs.length, .cel (.lim none ((xs.take h.toNat).drop l.toNat)))
  | _ => no
def rowLen : CV → Int
  | .sl _ _ rows => rows.length
  | .lim _ xs => xs.length
  | _ => 0
def slHi (te : TI) : List AV → Prop × AV
  | [.one (.cel x), .one (.cel (.int _ h))] => sliceCV te x 0 h
  | _ => no
def slLo (te : TI) : List AV → Prop × AV
  | [.one (.cel x), .one (.cel (.int _ l))] => sliceCV te x l (rowLen x)
  | _ => no
def slLH (te : TI) : List AV → Prop × AV
  | [.one (.cel x), .one (.cel (.int _ l)), .one (.cel (.int _ h))] => sliceCV te x l h
  | _ => no
def sliceAV (desc : TypeDesc) (E : Env) (lo hi : Bool) (ins : List AV) : Prop × AV :=
  match desc with
  | .slice e => match E.tt e with
    | some te => bif lo then bif hi then slLH te ins else slLo te ins else bif hi then slHi te ins else no
    | none => no
  | .string => bif lo then bif hi then stLH ins else stLo ins else bif hi then stHi ins else no
  | _ => no
def capOf : List AV → Option (List CV)
  | [] => some []
  | .one (.cel c) :: r => match capOf r with
    | some cs => some (c.strip :: cs)
    | none => none
  | _ => none
def makeFuncAV (fn : Fn) (first : Array Operand) (ins : List AV) : Prop × AV :=
  match fn, capOf ins with
  | .func f, some cs => (first = #[], .cel (.clo f cs))
  | _, _ => no
def extAV (i : Nat) : List AV → Prop × AV
  | [.tup l] => match l[i]? with
    | some a => (True, .one a)
    | none => no
  | _ => no
/-- cells laid over cells -/
def lay : List CV → Nat → List CV → List CV
  | cs, _, [] => cs
  | cs, o, n :: ns => lay (cs.set o n) (o + 1) ns
def fillCV (place : Nat → Option (Nat × Nat)) (cells : List CV) : List (Nat × AV) → Option (List CV)
  | [] => some cells
  | (i, .one a) :: rest => match place i with
    | none => none
    | some (off, size) => if a.cells.length = size ∧ off + size ≤ cells.length then fillCV place (lay cells off a.cells) rest else none
  | _ => none
def placeOf (E : Env) (fields : Array Field) (i : Nat) : Option (Nat × Nat) :=
  match fields[i]? with
  | some f => match E.tt f.type with
    | some tf => some (f.offset, tf.size)
    | none => none
  | none => none
def buildAV (E : Env) (ti : Option TI) (ixs : List Nat) (ins : List AV) : Prop × AV :=
  match ti with
  | some ti => match ti.desc with
    | .struct fields => match fillCV (placeOf E fields) ti.z1.cells (ixs.zip ins) with
      | some cs => (fields.all (fun f => (E.tt f.type).isSome) = true, .agg cs)
      | none => no
    | _ => no
  | none => no
def rowsOf : List AV → Option (List (List CV))
  | [] => some []
  | .one a :: r => match rowsOf r with
    | some rs => some (a.cells.map CV.strip :: rs)
    | none => none
  | _ => none
def u32sOf : List (List CV) → Option (List Int)
  | [] => some []
  | [.int .u32 x] :: r => match u32sOf r with
    | some xs => some (x :: xs)
    | none => none
  | _ => none
def allU32 : List Int → Prop
  | [] => True
  | x :: xs => (0 ≤ x ∧ x < 4294967296) ∧ allU32 xs
def isU32 : TypeDesc → Bool
  | .int .u32 => true
  | _ => false
def isRange : Nat → List Nat → Bool
  | _, [] => true
  | k, x :: xs => x == k && isRange (k + 1) xs
def buildSliceAV (E : Env) (desc : TypeDesc) (n : Nat) (ixs : List Nat) (ins : List AV) : Prop × AV :=
  match desc with
  | .slice e => match E.tt e with
    | some te => match rowsOf ins with
      | some rows => match isU32 te.desc with
        | true => match u32sOf rows with
          | some xs => (te.size = 1 ∧ (isRange 0 ixs = true ∧ ixs.length = n) ∧ ins.length = n ∧ n ≤ 16777216 ∧ allU32 xs, .cel (.lim none (xs.map Int.toNat)))
          | none => no
        | false => (0 < te.size ∧ (isRange 0 ixs = true ∧ ixs.length = n) ∧ ins.length = n ∧ n * te.size ≤ 16777216 ∧ allLen te.size rows, .cel (.sl none te.size rows))
      | none => no
    | none => no
  | _ => no
def isSlice : TypeDesc → Bool
  | .slice _ => true
  | _ => false
def lenCV (desc : TypeDesc) : CV → Prop × AV
  | .nil => (isSlice desc = true, .cel (.int .i64 0))
  | .lim _ xs => (isSlice desc = true, .cel (.int .i64 xs.length))
  | .sl _ _ rows => (isSlice desc = true, .cel (.int .i64 rows.length))
  | .rf _ n => (isSlice desc = true, .cel (.int .i64 n))
  | .str l => (desc = .string, .cel (.int .i64 l.length))
  | _ => no
def lenAV (desc : TypeDesc) : List AV → Prop × AV
  | [.one (.cel c)] => lenCV desc c
  | _ => no
/-- the row id, among what is looked at -/
def rowIn : List (Nat × Nat) → List (Option RV) → Nat → Option RC
  | k :: ks, some (.row c) :: fs, i => bif k.1 == i then some c else rowIn ks fs i
  | _ :: ks, _ :: fs, i => rowIn ks fs i
  | _, _, _ => none
def lenRow (n : Nat) : Option RC → Prop
  | some c => n = c.len
  | none => True
def CV.brw (L : Nat → Option RC) : CV → CV
  | .rf id _ => cvRow (L id)
  | c => c.strip
def CV.brwOk (L : Nat → Option RC) : CV → Prop
  | .rf id n => lenRow n (L id)
  | _ => True
def cvsBrw (L : Nat → Option RC) : List CV → Prop
  | [] => True
  | c :: l => c.brwOk L ∧ cvsBrw L l
def A1.brw (L : Nat → Option RC) : A1 → A1
  | .cel c => .cel (c.brw L)
  | .agg l => .agg (l.map (CV.brw L))
def A1.brwOk (L : Nat → Option RC) : A1 → Prop
  | .cel c => c.brwOk L
  | .agg l => cvsBrw L l
def AV.brw (L : Nat → Option RC) : AV → AV
  | .one a => .one (a.brw L)
  | .tup l => .tup (l.map A1.strip)
  | .any => .any
  | .und => .und
def AV.brwOk (L : Nat → Option RC) : AV → Prop
  | .one a => a.brwOk L
  | _ => True
def avsBrw (L : Nat → Option RC) : List AV → Prop
  | [] => True
  | a :: l => a.brwOk L ∧ avsBrw L l
/-- numbers and yes-or-no alone -/
def CV.dull : CV → CV
  | .bool b => .bool b
  | .int k n => .int k n
  | _ => .any
def A1.dull : A1 → A1
  | .cel c => .cel c.dull
  | .agg l => .agg (l.map CV.dull)
def AV.dull : AV → AV
  | .one a => .one a.dull
  | .tup l => .tup (l.map A1.dull)
  | .any => .any
  | .und => .any
def brwCall (L : Nat → Option RC) (ins : List AV) (dn d : Option Den) : Prop × AV :=
  match dn with
  | some d => (avsBrw L ins ∧ (d (ins.map (AV.brw L))).1, (d (ins.map (AV.brw L))).2)
  | none => match d with
    | some d => (avsBrw L ins ∧ (d (ins.map (AV.brw L))).1, (d (ins.map (AV.brw L))).2.dull)
    | none => no
def valCall (E : Env) (f : Nat) (ins : List AV) (fs : List (Option RV)) : Bool → Prop × AV
  | false => match E.fn f with
    | some d => d (ins.map AV.strip)
    | none => no
  | true => bif (avsRfK ins).isEmpty then (match E.fn f with
      | some d => d (ins.map AV.strip)
      | none => no) else brwCall (rowIn (avsRfK ins) fs) ins (E.fn (f + 1000000)) (E.fn f)
def callAV (E : Env) (c : Call) (ins : List AV) (fs : List (Option RV)) : Prop × AV :=
  match c.callee with
  | .value (.func f) => (f < 1000000 ∧ chgB E f = false ∧ (valCall E f ins fs (brwB E)).1, (valCall E f ins fs (brwB E)).2)
  | .value (.tmp _) => match fs with
    | [some (.av (.one (.cel (.fn f))))] => match E.fn f with
      | some d => (f < 1000000 ∧ (d (ins.map AV.strip)).1, (d (ins.map AV.strip)).2)
      | none => no
    | [some (.av (.one (.cel (.clo f cs))))] => match E.fn f with
      | some d => (f < 1000000 ∧ (d (ins.map AV.strip ++ cs.map AV.cel)).1, (d (ins.map AV.strip ++ cs.map AV.cel)).2)
      | none => no
    | _ => no
  | .builtin .len => match c.argTypes[0]? with
    | some t => lenAV (E.desc t) ins
    | none => no
  | .builtin .max => match ins with
    | [.one (.cel (.int k x)), .one (.cel (.int _ y))] => (True, .cel (.int k (max x y)))
    | _ => no
  | .builtin .min => match ins with
    | [.one (.cel (.int k x)), .one (.cel (.int _ y))] => (True, .cel (.int k (min x y)))
    | _ => no
  | _ => no
def valOf (E : Env) (op : Op) (ins : List AV) (fs : List (Option RV)) : Prop × AV :=
  match op with
  | .move _ => idAV ins
  | .assign _ => idAV ins
  | .pick _ _ _ => pickOp ins
  | .load t _ => loadAV (E.tt t) ins fs
  | .nilCheck _ => nilAV ins
  | .binOp op t _ _ _ => bif wrpB E then binW op (E.desc t) ins else binAV op (E.desc t) ins
  | .unOp op _ _ => unAV op ins
  | .convert s d _ => convAV (E.desc s) (E.desc d) ins
  | .fieldAddr s _ f => fieldAddrAV E (E.desc s) f ins
  | .field s _ f => fieldAV E (E.desc s) f ins
  | .indexAddr t _ _ => idxAV (E.desc t) E ins
  | .index t _ _ => strIxAV (E.desc t) ins
  | .extract _ i => extAV i ins
  | .build t ps => buildAV E (E.tt t) (ps.toList.map (·.1)) ins
  | .buildSlice t n ps => buildSliceAV E (E.desc t) n (ps.toList.map (·.1)) ins
  | .call c => callAV E c ins fs
  | .slice t _ lo hi none => sliceAV (E.desc t) E lo.isSome hi.isSome ins
  | .makeFunc fn first _ => makeFuncAV fn first ins
  | _ => no
def mkCells (id : Nat) : Nat → List CV → AS
  | _, [] => []
  | k, c :: cs => (id, k, .cv c) :: mkCells id (k + 1) cs
def RV.men (id : Nat) : RV → Bool
  | .av a => a.men id
  | .cv c => c.men id
  | .row _ => false
  | .off => false
  | .ext _ => false
/-- nothing in s names the block d -/
def AS.fresh (s : AS) (d : Nat) : Bool := s.all fun r => !(r.2.2.men d) && (r.1 != d || r.2.1 == 0)
/-- a new row of n places, all zero -/
def zeroRC (te : TI) (n : Nat) : Prop × RC :=
  match isU32 te.desc with
  | true => match te.z1 with
    | .cel (.int .u32 0) => (te.size = 1, .u32 (List.replicate n 0))
    | _ => (False, .u32 [])
  | false => (0 < te.size ∧ te.z1.cells.length = te.size, .gen te.size (List.replicate n te.z1.cells))
/-- a row of n places put into slot d, as its own -/
def rowAS (d n : Nat) (c : RC) : AS := [(d, 0, .av (.cel (.rf d n))), (d, 1, .row c)]
def makeAV (E : Env) (t d : Nat) (fresh : Nat → Bool) : List AV → Prop × AS
  | [.one (.cel (.int _ n)), .one (.cel (.int _ m))] => match E.desc t with
    | .slice e => match E.tt e with
      | some te => (d < E.N ∧ fresh d = true ∧ m = n ∧ 0 ≤ n ∧ n ≤ 1000000000000 ∧ (zeroRC te n.toNat).1, rowAS d n.toNat (zeroRC te n.toNat).2)
      | none => (False, [])
    | _ => (False, [])
  | _ => (False, [])
def emptyAV (E : Env) (t d : Nat) (fresh : Nat → Bool) : Prop × AS :=
  match E.desc t with
  | .slice e => match E.tt e with
    | some te => (d < E.N ∧ fresh d = true ∧ (zeroRC te 0).1, rowAS d 0 (zeroRC te 0).2)
    | none => (False, [])
  | _ => (False, [])
/-- is the slice literal that slot d takes a row of one's own? (named among what is given up at a number that no region has) -/
def ownB (E : Env) (d : Nat) : Bool := (E.fz 1000003).any (fun x => x == d)
def builtAV (E : Env) (t d n : Nat) (fresh : Nat → Bool) (ixs : List Nat) (ins : List AV) : Prop × AS :=
  match E.desc t with
  | .slice e => match E.tt e with
    | some te => match isU32 te.desc with
      | true => (False, [])
      | false => match rowsOf ins with
        | some rows => (d < E.N ∧ fresh d = true ∧ 0 < te.size ∧ (isRange 0 ixs = true ∧ ixs.length = n) ∧ ins.length = n ∧ n * te.size ≤ 16777216 ∧ allLen te.size rows, rowAS d rows.length (.gen te.size rows))
        | none => (False, [])
    | none => (False, [])
  | _ => (False, [])
def buildEff (E : Env) (t d n : Nat) (fresh : Nat → Bool) (ps : Array (Nat × Operand)) (ins : List AV) : Bool → Bool → Prop × AS
  | true, _ => (ps = #[] ∧ (emptyAV E t d fresh).1, (emptyAV E t d fresh).2)
  | false, true => (builtAV E t d n fresh (ps.toList.map (·.1)) ins)
  | false, false => (d < E.N ∧ (buildSliceAV E (E.desc t) n (ps.toList.map (·.1)) ins).1, [(d, 0, .av (buildSliceAV E (E.desc t) n (ps.toList.map (·.1)) ins).2)])
/-- what append is told of its types: both are rows of te -/
def appTy (E : Env) (ts : List Nat) : Option TI :=
  match ts with
  | [t, t'] => if (t == t') = true then match E.desc t with
      | .slice e => E.tt e
      | _ => none
    else none
  | _ => none
def appAV (E : Env) (ts : List Nat) (d : Nat) (fresh : Nat → Bool) (ins : List AV) (fs : List (Option RV)) : Prop × AS :=
  match appTy E ts with
  | some te => match ins with
    | [.one (.cel (.rf id n)), .one (.cel x)] => match fs with
      | [some (.row c)] => (d < E.N ∧ fresh d = true ∧ n = c.len ∧ te.size = c.t ∧ (zeroRC te 0).1 ∧ (c.app x).1, (id, 1, .off) :: rowAS d (c.app x).2.len (c.app x).2)
      | _ => (False, [])
    | [.one (.cel .nil), .one (.cel x)] => (d < E.N ∧ fresh d = true ∧ (zeroRC te 0).1 ∧ ((zeroRC te 0).2.app x).1, rowAS d ((zeroRC te 0).2.app x).2.len ((zeroRC te 0).2.app x).2)
    | _ => (False, [])
  | none => (False, [])
def chgOut (E : Env) (f d id n : Nat) (c : RC) (r : Prop × AV) : Prop × AS :=
  match rowOf c (outOf r.2).1 with
  | some c' => (d < E.N ∧ f < 1000000 ∧ n = c.len ∧ r.1, [(d, 0, .av (outOf r.2).2.strip), (id, 1, .row c')])
  | none => (False, [])
def chgAV (E : Env) (f d : Nat) (dm : Option Den) (ins : List AV) (fs : List (Option RV)) : Prop × AS :=
  match dm with
  | some dm => match ins with
    | .one (.cel (.rf id n)) :: rest => match fs with
      | [some (.row c)] => chgOut E f d id n c (dm (.one (.cel (cvRow (some c))) :: rest.map AV.strip))
      | _ => (False, [])
    | _ => (False, [])
  | none => (False, [])
def glOut (E : Env) (f d : Nat) (ins : List AV) (p : Nat → Nat → (Nat → Nat → Prop) → (Nat → Option (Nat × Bool)) → World → Prop) : Option Den → Prop × AS
  | some g => (d < E.N ∧ f < 1000000 ∧ p = glP ∧ (g (ins.map AV.strip)).1, [(d, 0, .av (g (ins.map AV.strip)).2)])
  | none => (False, [])
def glAV (E : Env) (f d : Nat) (ins : List AV) : List (Option RV) → Prop × AS
  | [some (.ext p)] => glOut E f d ins p (E.fn (f + 3000000))
  | _ => (False, [])
def glEff (E : Env) (f d : Nat) (c : Call) (ins : List AV) (fs : List (Option RV)) : Bool → Prop × AS
  | false => (d < E.N ∧ (callAV E c ins fs).1, [(d, 0, .av (callAV E c ins fs).2)])
  | true => glAV E f d ins fs
def chgEff (E : Env) (f d : Nat) (c : Call) (ins : List AV) (fs : List (Option RV)) : Bool → Prop × AS
  | false => glEff E f d c ins fs (glbB E f && !brwB E)
  | true => chgAV E f d (E.fn (f + 2000000)) ins fs
def valEff (E : Env) (x : Operand) (d : Nat) (c : Call) (ins : List AV) (fs : List (Option RV)) : Prop × AS :=
  match x with
  | .func f => chgEff E f d c ins fs (chgB E f)
  | _ => (d < E.N ∧ (callAV E c ins fs).1, [(d, 0, .av (callAV E c ins fs).2)])
/-- the first n of a row of one's own, as that row -/
def RC.takeR : RC → Nat → RC
  | .u32 xs, n => .u32 (xs.take n)
  | .gen t rows, n => .gen t (rows.take n)
def onlyHi (lo hi : Bool) (mx : Option Operand) : Bool := !lo && hi && mx.isNone
def slElem (E : Env) : TypeDesc → Bool
  | .slice e => (E.tt e).isSome
  | _ => false
def slRow (E : Env) (t d id n : Nat) (lo hi : Bool) (mx : Option Operand) (h : Int) : List (Option RV) → Prop × AS
  | [some (.row c)] => (d < E.N ∧ onlyHi lo hi mx = true ∧ slElem E (E.desc t) = true ∧ n = c.len ∧ 0 ≤ h ∧ h ≤ n, [(d, 0, .av (.cel (.rf id h.toNat))), (id, 1, .row (c.takeR h.toNat))])
  | _ => (False, [])
/-- a row of one's own is made shorter; or what slicing gives -/
def slEff (E : Env) (t d : Nat) (lo hi : Bool) (mx : Option Operand) (r : Prop × AV) (ins : List AV) (fs : List (Option RV)) : Prop × AS :=
  match ins with
  | [.one (.cel (.rf id n)), .one (.cel (.int _ h))] => slRow E t d id n lo hi mx h fs
  | _ => (d < E.N ∧ r.1, [(d, 0, .av r.2)])
def u8C (x : Nat) : List CV := [.int .u8 (x : Int)]
def u8N : List CV → Nat
  | [.int .u8 x] => x.toNat
  | _ => 0
def isU8 : List CV → Prop
  | [.int .u8 x] => 0 ≤ x ∧ x < 256
  | _ => False
def allU8 : List (List CV) → Prop
  | [] => True
  | r :: rs => isU8 r ∧ allU8 rs
def bytesTy (E : Env) : TypeDesc → TypeDesc → Bool
  | .slice e, .string => match E.desc e with
    | .int .u8 => true
    | _ => false
  | _, _ => false
def cvRowA (E : Env) (sd dd : TypeDesc) (d n : Nat) : List (Option RV) → Prop × AS
  | [some (.row (.gen _ rows))] => (d < E.N ∧ bytesTy E sd dd = true ∧ n = rows.length ∧ 0 < rows.length ∧ allU8 rows, [(d, 0, .av (.cel (.str (rows.map u8N))))])
  | _ => (False, [])
/-- a row of bytes as a string; or what converting gives -/
def cvEff (E : Env) (sd dd : TypeDesc) (d : Nat) (r : Prop × AV) (ins : List AV) (fs : List (Option RV)) : Prop × AS :=
  match ins with
  | [.one (.cel (.rf _ n))] => cvRowA E sd dd d n fs
  | _ => (d < E.N ∧ r.1, [(d, 0, .av r.2)])
def effOf (E : Env) (op : Op) (dst : Option Nat) (fresh : Nat → Bool) (ins : List AV) (fs : List (Option RV)) : Prop × AS :=
  match op, dst with
  | .alloc t, some d => match E.tt t with
    | some ti => (d < E.N ∧ fresh d = true, (d, 0, .av (.cel (.ptr d 0))) :: mkCells d 1 ti.z1.cells)
    | none => (False, [])
  | .box _ _, some d => match ins with
    | [.one a] => (d < E.N ∧ fresh d = true ∧ a.men d = false, (d, 0, .av (.cel (.ptr d 0))) :: mkCells d 1 a.cells)
    | _ => (False, [])
  | .store t _ _, none => match E.tt t, ins with
    | some ti, [.one (.cel (.ptr id off)), .one a] => match cvs fs with
      | some _ => (a.cells.length = ti.size, mkCells id (off + 1) a.cells)
      | none => (False, [])
    | some ti, [.one (.cel (.rp id t' i)), .one a] => match fs with
      | [some (.row c)] => (t' = c.t ∧ ti.size = c.t ∧ i < c.len ∧ (c.setC i a.cells).1, [(id, 1, .row (c.setC i a.cells).2)])
      | _ => (False, [])
    | _, _ => (False, [])
  | .makeSlice t _ _, some d => makeAV E t d fresh ins
  | .buildSlice t n ps, some d => buildEff E t d n fresh ps ins (n == 0) (ownB E d)
  | .call ⟨.builtin .append, _, ts⟩, some d => appAV E ts.toList d fresh ins fs
  | .call ⟨.value x, args, ts⟩, some d => valEff E x d ⟨.value x, args, ts⟩ ins fs
  | .slice t x lo hi mx, some d => slEff E t d lo.isSome hi.isSome mx (valOf E (.slice t x lo hi mx) ins fs) ins fs
  | .convert sd dd x, some d => cvEff E (E.desc sd) (E.desc dd) d (valOf E (.convert sd dd x) ins fs) ins fs
  | op, some d => (d < E.N ∧ (valOf E op ins fs).1, [(d, 0, .av (valOf E op ins fs).2)])
  | op, none => ((valOf E op ins fs).1, [])
/-- one operation: what it asks of the state, and what it lays over it -/
def actOf (E : Env) (o : Oper) (s : AS) : Prop × AS :=
  let ins := (insOf o.op).map s.ev
  effOf E o.op o.dst s.fresh ins ((needsOf E o.op ins).map fun r => s.get r.1 r.2)
end Go.Proofs.YtocpmekblkfdiaaGreatDoor
namespace Go.Proofs.YtocpmekblkfdiaaGreatDoor
open Go.RowKit
/-- from one moment to a later one: blocks that are nobody's stay -/
def Step (X : Nat → Nat → Prop) (who : Nat → Option (Nat × Bool)) (w : World) (X' : Nat → Nat → Prop) (who' : Nat → Option (Nat × Bool)) (w' : World) : Prop :=
  w.heap.size ≤ w'.heap.size ∧ (∀ k, who' k ≠ none → who k ≠ none ∨ w.heap.size ≤ k) ∧ (∀ k, k < w.heap.size → who k = none → w'.heap[k]? = w.heap[k]?) ∧ ∀ k o, who k = none → X k o → X' k o
/-- what a resource's knowledge says (B: the heap's size when the activation began) -/
def RV.H (B : Nat) (g : Gh) (who : Nat → Option (Nat × Bool)) (a : Act) (w : World) (n k : Nat) : RV → Prop
  | .av v => k = 0 ∧ n < a.tmps.size ∧ v.G g w (a.tmps.getD n undef)
  | .cv c => 0 < k ∧ B ≤ g.σ n ∧ g.σ n < w.heap.size ∧ who (g.σ n) = some (n, false) ∧ g.X (g.σ n) (k - 1) ∧ w.frozen? ⟨g.σ n, k - 1, none⟩ = false ∧ ∃ v, w.cell? ⟨g.σ n, k - 1, none⟩ = some v ∧ c.G g w v
  | .row c => k = 1 ∧ c.ok ∧ c.len ≤ g.κ n ∧
      (0 < g.κ n → B ≤ g.σ n ∧ g.σ n < w.heap.size ∧ who (g.σ n) = some (n, true) ∧ ∀ j, j < g.κ n * c.t → g.X (g.σ n) j ∧ w.frozen? ⟨g.σ n, j, none⟩ = false ∧ (w.cell? ⟨g.σ n, j, none⟩).isSome = true) ∧
      ∀ j x, c.flat[j]? = some x → ∃ v, w.cell? ⟨g.σ n, j, none⟩ = some v ∧ x.P g.X w v
  | .off => True
  | .ext p => 0 < k ∧ p (g.σ n) (g.κ n) g.X who w ∧ ∀ u v X who w X' who' w', p u v X who w → Step X who w X' who' w' → p u v X' who' w'
/-- the state s says of the activation a in the world w (N slots, outer cells X0, begun in w0) -/
structure Gam (N : Nat) (X0 : Nat → Nat → Prop) (w0 : World) (s : AS) (a : Act) (w : World) (g : Gh) (who : Nat → Option (Nat × Bool)) : Prop where
  defers : a.defers = []
  size : a.tmps.size = N
  below : Below w0.heap.size w0 w
  sub : ∀ b o, X0 b o → g.X b o ∧ b < w0.heap.size
  sup : ∀ b o, g.X b o → X0 b o ∨ w0.heap.size ≤ b
  lt : ∀ b o, g.X b o → b < w.heap.size
  whole : ∀ b x, who b = some (x, true) → (∀ o, g.X b o) ∨ ∀ o, ¬ g.X b o
  res : ∀ n k rv, s.get n k = some rv → rv.H w0.heap.size g who a w n k
section
variable {P : Program} {E : Env} {N : Nat} {X0 : Nat → Nat → Prop} {w0 : World} {s : AS} {a : Act} {w : World} {g : Gh} {who : Nat → Option (Nat × Bool)}
theorem constCV_G {v : Value} {c : CV} (h : constCV v = some c) : c.G g w v := by
  unfold constCV at h
  split at h
  · cases h; rfl
  · cases h; rfl
  · cases h; rfl
  · cases h; exact ⟨by rw [byt_unbyt], unbyt_lt _⟩
  · cases h
theorem Gam.ev (H : Gam N X0 w0 s a w g who) (x : Operand) : (s.ev x).G g w (a.eval x) := by
  cases x with
  | tmp t =>
    simp only [AS.ev, Act.eval]
    split
    · rename_i v hv; exact (H.res _ _ _ hv).2.2
    · trivial
  | const v =>
    simp only [AS.ev, Act.eval]
    split
    · rename_i c hc; exact constCV_G hc
    · trivial
  | func f => exact (show Value.func (.func f) #[] #[] = _ from rfl)
  | _ => trivial
theorem Gam.ins (H : Gam N X0 w0 s a w g who) (l : List Operand) : All2 (fun c v => AV.G g w c v) (l.map s.ev) (l.map a.eval) := by
  induction l with
  | nil => exact .nil
  | cons x l ih => exact .cons (H.ev x) ih
theorem All2.one {α β : Type} {R : α → β → Prop} {l : List β} {x : α} (h : All2 R [x] l) : ∃ y, l = [y] ∧ R x y := by
  cases h with | cons h t => cases t; exact ⟨_, rfl, h⟩
theorem All2.two {α β : Type} {R : α → β → Prop} {l : List β} {x y : α} (h : All2 R [x, y] l) : ∃ u v, l = [u, v] ∧ R x u ∧ R y v := by
  cases h with | cons h t => obtain ⟨v, rfl, hv⟩ := t.one; exact ⟨_, _, rfl, h, hv⟩
theorem All2.three {α β : Type} {R : α → β → Prop} {l : List β} {x y z : α} (h : All2 R [x, y, z] l) : ∃ u v q, l = [u, v, q] ∧ R x u ∧ R y v ∧ R z q := by
  cases h with | cons h t => obtain ⟨v, q, rfl, hv, hq⟩ := t.two; exact ⟨_, _, _, rfl, h, hv, hq⟩
theorem All2.len {α β : Type} {R : α → β → Prop} {l : List α} {m : List β} (h : All2 R l m) : l.length = m.length := by
  induction h with
  | nil => rfl
  | cons _ _ ih => simp [ih]
theorem All2.imp {α β : Type} {R S : α → β → Prop} {l : List α} {m : List β} (h : All2 R l m) (k : ∀ a b, R a b → S a b) : All2 S l m := by
  induction h with
  | nil => exact .nil
  | cons h _ ih => exact .cons (k _ _ h) ih
theorem All2.map_left {α β γ : Type} {R : α → β → Prop} {f : γ → α} {l : List γ} {m : List β} : All2 R (l.map f) m ↔ All2 (fun c b => R (f c) b) l m := by
  constructor
  · intro h
    induction l generalizing m with
    | nil => cases h; exact .nil
    | cons x l ih => cases h with | cons h t => exact .cons h (ih t)
  · intro h
    induction h with
    | nil => exact .nil
    | cons h _ ih => exact .cons h ih
theorem All2.get {α β : Type} {R : α → β → Prop} {l : List α} {m : List β} (h : All2 R l m) {i : Nat} {x : α} (hx : l[i]? = some x) : ∃ y, m[i]? = some y ∧ R x y := by
  induction h generalizing i with
  | nil => simp at hx
  | cons h _ ih =>
    cases i with
    | zero => simp at hx; subst hx; exact ⟨_, rfl, h⟩
    | succ i => simpa using ih (by simpa using hx)
theorem All2.take {α β : Type} {R : α → β → Prop} {l : List α} {m : List β} (h : All2 R l m) (n : Nat) : All2 R (l.take n) (m.take n) := by
  induction h generalizing n with
  | nil => simp; exact .nil
  | cons h _ ih => cases n with
    | zero => exact .nil
    | succ n => exact .cons h (ih n)
theorem All2.drop {α β : Type} {R : α → β → Prop} {l : List α} {m : List β} (h : All2 R l m) (n : Nat) : All2 R (l.drop n) (m.drop n) := by
  induction h generalizing n with
  | nil => simp; exact .nil
  | cons h t ih => cases n with
    | zero => exact .cons h t
    | succ n => exact ih n
theorem wp_value {o : Oper} {K : Act → World → Prop} {Q : Exit → Act → World → Prop} {v : Value} (h : (execOp a.eval o).run P w = .ok (.value v) w) (hk : K (a.put o.dst v) w) : o.wp P a w K Q := by
  unfold Oper.wp
  rw [h]
  exact hk
/-- an operation's answer: a value in a world that has not lost what it held -/
def Gives (P : Program) (a : Act) (w : World) (o : Oper) (R : Value → World → Prop) : Prop :=
  ∀ (K : Act → World → Prop) (Q : Exit → Act → World → Prop), (∀ v w', Below w.heap.size w w' → R v w' → K (a.put o.dst v) w') → o.wp P a w K Q
theorem gives_value {o : Oper} {R : Value → World → Prop} {v : Value} (h : (execOp a.eval o).run P w = .ok (.value v) w) (hr : R v w) : Gives P a w o R :=
  fun _ _ hk => wp_value h (hk v w (Below.refl _ _) hr)
theorem pick_G {x : Bool} {p q : AV} {u v : Value} (hp : p.G g w u) (hq : q.G g w v) : (pickAV x p q).G g w (if x then u else v) := by
  unfold pickAV
  split
  · have e1 : u = .bool _ := hp
    have e2 : v = .bool _ := hq
    subst e1 e2
    cases x <;> rfl
  · exact hp
  · exact hq
/-- cells of a row that are as their knowledge says -/
theorem cells_G {n : Nat} : ∀ (id off i : Nat) (cs : List CV), (∀ m k rv, s.get m k = some rv → rv.H w0.heap.size g who a w m k) → cvs ((keysFrom id (off + i + 1) n).map fun r => s.get r.1 r.2) = some cs →
    ∃ vs, All2 (fun c v => CV.G g w c v) cs vs ∧ vs.length = n ∧ ∀ j v, vs[j]? = some v → w.cell? ⟨g.σ id, off + i + j, none⟩ = some v := by
  induction n with
  | zero =>
    intro id off i cs _ h
    simp only [keysFrom, List.map_nil, cvs, Option.some.injEq] at h
    subst h
    exact ⟨[], .nil, rfl, by simp⟩
  | succ n ih =>
    intro id off i cs hr h
    simp only [keysFrom, List.map_cons] at h
    cases hg : s.get id (off + i + 1) with
    | none => rw [hg] at h; simp [cvs] at h
    | some rv =>
      rw [hg] at h
      cases rv with
      | av x => simp [cvs] at h
      | row x => simp [cvs] at h
      | off => simp [cvs] at h
      | ext _ => simp [cvs] at h
      | cv c =>
        simp only [cvs] at h
        split at h
        · rename_i cs' hcs
          cases h
          obtain ⟨vs, h1, h2, h3⟩ := ih id off (i + 1) cs' hr (by rw [show off + (i + 1) + 1 = off + i + 1 + 1 by omega]; exact hcs)
          obtain ⟨_, _, _, _, _, _, v, hv, hG⟩ := hr _ _ _ hg
          refine ⟨v :: vs, .cons hG h1, by simp [h2], ?_⟩
          intro j u hu
          cases j with
          | zero => simp at hu; subst hu; simpa using hv
          | succ j => rw [show off + i + (j + 1) = off + (i + 1) + j by omega]; exact h3 j u (by simpa using hu)
        · cases h
theorem cellsP_list {X : Nat → Nat → Prop} : ∀ (cs : List CV) (b off : Nat), cellsP X w b off cs → ∃ vs, All2 (fun c v => CV.P X w c v) cs vs ∧ ∀ j v, vs[j]? = some v → w.cell? ⟨b, off + j, none⟩ = some v
  | [], _, _, _ => ⟨[], .nil, by simp⟩
  | c :: cs, b, off, h => by
    simp only [cellsP] at h
    obtain ⟨⟨v, hv, hp⟩, ht⟩ := h
    obtain ⟨vs, h1, h2⟩ := cellsP_list cs b (off + 1) ht
    refine ⟨v :: vs, .cons hp h1, ?_⟩
    intro j u hu
    cases j with
    | zero => simp at hu; subst hu; exact hv.2.2
    | succ j => rw [show off + (j + 1) = off + 1 + j by omega]; exact h2 j u (by simpa using hu)
theorem cellsP_drop {X : Nat → Nat → Prop} : ∀ (n : Nat) (cs : List CV) (b off : Nat), n ≤ cs.length → cellsP X w b off cs → cellsP X w b (off + n) (cs.drop n)
  | 0, cs, b, off, _, h => by simpa using h
  | n + 1, [], b, off, hn, _ => by simp at hn
  | n + 1, c :: cs, b, off, hn, h => by
    simp only [cellsP] at h
    have := cellsP_drop n cs b (off + 1) (by simpa using hn) h.2
    rw [show off + (n + 1) = off + 1 + n by omega]
    simpa using this
theorem rowsP_get {X : Nat → Nat → Prop} {t : Nat} : ∀ (i : Nat) (rows : List (List CV)) (b off : Nat), i < rows.length → rowsP X w b off t rows → cellsP X w b (off + i * t) (rows.getD i [])
  | 0, [], b, off, hi, _ => by simp at hi
  | 0, r :: rs, b, off, _, h => by simp only [rowsP] at h; simpa using h.2.1
  | i + 1, [], b, off, hi, _ => by simp at hi
  | i + 1, r :: rs, b, off, hi, h => by
    simp only [rowsP] at h
    have := rowsP_get i rs b (off + t) (by simpa using hi) h.2.2
    rw [show off + (i + 1) * t = off + t + i * t by rw [Nat.succ_mul]; omega]
    simpa using this
theorem ofCells_G {agg : Bool} {cs : List CV} {vs : List Value} (h : All2 (fun c v => CV.G g w c v) cs vs) :
    (agg = true → (ofCells agg cs).G g w (.agg vs.toArray)) ∧ (agg = false → ∀ v, vs = [v] → (ofCells agg cs).G g w v) := by
  constructor
  · rintro rfl; exact ⟨vs, rfl, h⟩
  · rintro rfl v rfl
    cases h with | cons h t => cases t; exact h
theorem load_run {t : Nat} {ti : TI} (ht : TIOk P t ti) {b o : Nat} {vs : List Value} (hl : vs.length = ti.size) (hc : ∀ j v, vs[j]? = some v → w.cell? ⟨b, o + j, none⟩ = some v) :
    (ti.agg = true → (loadVar t ⟨b, o, none⟩).run P w = .ok (.agg vs.toArray) w) ∧ (ti.agg = false → ∃ v, vs = [v] ∧ (loadVar t ⟨b, o, none⟩).run P w = .ok v w) := by
  constructor
  · intro h
    have := run_loadCells_list (P := P) w ⟨b, o, none⟩ vs (fun k v hk => by rw [Addr.add_lit]; exact hc k v hk)
    simp [loadVar, ht.agg, h, ht.size, ← hl, this, Result.andThen]
  · intro h
    have h1 := ht.one h
    rw [h1] at hl
    obtain ⟨v, rfl⟩ := List.length_eq_one_iff.1 hl
    have hv := hc 0 v rfl
    refine ⟨v, rfl, ?_⟩
    simp only [Nat.add_zero] at hv
    simp [loadVar, ht.agg, h, hv, Result.andThen]
theorem allLen_flat {t : Nat} : ∀ (rows : List (List CV)) (i j : Nat) (x : CV), allLen t rows → i < rows.length → (rows.getD i [])[j]? = some x → rows.flatten[i * t + j]? = some x
  | [], i, j, x, _, hi, _ => by simp at hi
  | r :: rs, 0, j, x, h, _, hx => by
    simp only [List.getD_cons_zero] at hx
    have hj := (List.getElem?_eq_some_iff.1 hx).1
    rw [List.flatten_cons, Nat.zero_mul, Nat.zero_add, List.getElem?_append_left hj]; exact hx
  | r :: rs, i + 1, j, x, h, hi, hx => by
    simp only [allLen] at h
    rw [List.flatten_cons, Nat.succ_mul, show i * t + t + j = t + (i * t + j) by omega, List.getElem?_append_right (by omega), h.1, Nat.add_sub_cancel_left]
    exact allLen_flat rs i j x h.2 (by simpa using hi) (by simpa using hx)
theorem allLen_getD {t : Nat} : ∀ (rows : List (List CV)) (i : Nat), allLen t rows → i < rows.length → (rows.getD i []).length = t
  | [], i, _, hi => by simp at hi
  | r :: rs, 0, h, _ => h.1
  | r :: rs, i + 1, h, hi => by simpa using allLen_getD rs i h.2 (by simpa using hi)
theorem allLen_flatten {t : Nat} : ∀ (rows : List (List CV)), allLen t rows → rows.flatten.length = rows.length * t
  | [], _ => by simp
  | r :: rs, h => by rw [List.flatten_cons, List.length_append, h.1, allLen_flatten rs h.2, List.length_cons, Nat.succ_mul]; omega
theorem RC.at_flat {c : RC} (h : c.ok) {i j : Nat} {x : CV} (hi : i < c.len) (hx : (c.at i)[j]? = some x) : c.flat[i * c.t + j]? = some x := by
  cases c with
  | u32 xs =>
    have hi : i < xs.length := hi
    simp only [RC.at] at hx
    cases j with
    | zero => simp only [List.getElem?_cons_zero, Option.some.injEq] at hx; subst hx; simp [RC.flat, RC.t, List.getElem?_eq_getElem hi, List.getD_eq_getElem?_getD]
    | succ j => simp at hx
  | gen t rows => exact allLen_flat rows i j x h.2 hi hx
theorem RC.at_len {c : RC} (h : c.ok) {i : Nat} (hi : i < c.len) : (c.at i).length = c.t := by
  cases c with
  | u32 xs => rfl
  | gen t rows => exact allLen_getD rows i h.2 hi
theorem RC.flat_len {c : RC} (h : c.ok) : c.flat.length = c.len * c.t := by
  cases c with
  | u32 xs => simp [RC.flat, RC.len, RC.t]
  | gen t rows => exact allLen_flatten rows h.2
theorem RC.t_pos {c : RC} (h : c.ok) : 0 < c.t := by
  cases c with
  | u32 xs => exact Nat.one_pos
  | gen t rows => exact h.1
theorem all2_of_get {α β : Type} {R : α → β → Prop} : ∀ (l : List α) (f : Nat → Option β), (∀ j x, l[j]? = some x → ∃ v, f j = some v ∧ R x v) → ∃ vs : List β, All2 R l vs ∧ ∀ j v, vs[j]? = some v → f j = some v
  | [], _, _ => ⟨[], .nil, by simp⟩
  | x :: l, f, h => by
    obtain ⟨v, hv, hr⟩ := h 0 x rfl
    obtain ⟨vs, h1, h2⟩ := all2_of_get l (fun j => f (j + 1)) (fun j y hy => h (j + 1) y (by simpa using hy))
    refine ⟨v :: vs, .cons hr h1, fun j u hu => ?_⟩
    cases j with
    | zero => simp at hu; subst hu; exact hv
    | succ j => exact h2 j u (by simpa using hu)
theorem load_sound (hE : EnvOk P E) (H : Gam N X0 w0 s a w g who) {o : Oper} {t : Nat} {x : Operand} (ho : o.op = .load t x)
    (h : (loadAV (E.tt t) [s.ev x] ((needsOf E o.op [s.ev x]).map fun r => s.get r.1 r.2)).1) :
    Gives P a w o (fun v w' => (loadAV (E.tt t) [s.ev x] ((needsOf E o.op [s.ev x]).map fun r => s.get r.1 r.2)).2.G g w' v) := by
  have hx := H.ev x
  generalize s.ev x = av at *
  rw [ho] at h ⊢
  unfold loadAV at h ⊢
  split at h
  · rename_i ti id off ht hi
    cases hi
    have hti := hE.tt _ _ ht
    simp only [needsOf] at h ⊢
    have e1 : E.sz t = ti.size := by simp [Env.sz, ht]
    rw [e1] at h ⊢
    cases hc : cvs ((keysFrom id (off + 1) ti.size).map fun r => s.get r.1 r.2) with
    | none => rw [hc] at h; exact h.elim
    | some cs =>
      obtain ⟨vs, h1, h2, h3⟩ := cells_G id off 0 cs H.res (by simpa using hc)
      simp only [Nat.add_zero] at h3
      have hp : a.eval x = .pointer (some ⟨g.σ id, off, none⟩) := hx
      obtain ⟨la, lb⟩ := load_run (P := P) hti h2 h3
      obtain ⟨ga, gb⟩ := ofCells_G (g := g) (w := w) (agg := ti.agg) h1
      cases hag : ti.agg with
      | true => exact gives_value (v := .agg vs.toArray) (by simp [execOp, ho, Instr.loadAt, Instr.sureAddr, hp, la hag]) (by rw [hag] at ga; exact ga rfl)
      | false =>
        obtain ⟨v, hv, hl⟩ := lb hag
        exact gives_value (v := v) (by simp [execOp, ho, Instr.loadAt, Instr.sureAddr, hp, hl]) (by rw [hag] at gb; exact gb rfl v hv)
  · rename_i ti cs ht hi
    cases hi
    have hti := hE.tt _ _ ht
    simp only
    obtain ⟨b, off, hp, hcs⟩ := (show ∃ b off, a.eval x = .pointer (some ⟨b, off, none⟩) ∧ cellsP g.X w b off cs from by simpa only [AV.G, A1.G, CV.G, CV.P] using hx)
    obtain ⟨vs, h1, h3⟩ := cellsP_list cs b off hcs
    have hle : ti.size ≤ cs.length := h
    have h2 : (vs.take ti.size).length = ti.size := by rw [List.length_take, ← h1.len]; omega
    have h3' : ∀ j v, (vs.take ti.size)[j]? = some v → w.cell? ⟨b, off + j, none⟩ = some v := fun j v hj => h3 j v (by rw [List.getElem?_take] at hj; split at hj <;> simp_all)
    have h1' : All2 (fun c v => CV.G g w c v) ((cs.take ti.size).map CV.strip) (vs.take ti.size) := All2.map_left.2 ((h1.take _).imp fun c v hp => hp.stripped.toG (CV.strip_strip c))
    obtain ⟨la, lb⟩ := load_run (P := P) hti h2 h3'
    obtain ⟨ga, gb⟩ := ofCells_G (g := g) (w := w) (agg := ti.agg) h1'
    cases hag : ti.agg with
    | true => exact gives_value (v := .agg (vs.take ti.size).toArray) (by simp [execOp, ho, Instr.loadAt, Instr.sureAddr, hp, la hag]) (by rw [hag] at ga; exact ga rfl)
    | false =>
      obtain ⟨v, hv, hl⟩ := lb hag
      exact gives_value (v := v) (by simp [execOp, ho, Instr.loadAt, Instr.sureAddr, hp, hl]) (by rw [hag] at gb; exact gb rfl v hv)
  · rename_i ti id t' i ht hi
    cases hi
    have hti := hE.tt _ _ ht
    simp only [needsOf, List.map_cons, List.map_nil] at h ⊢
    split at h
    · rename_i c hc
      have hc' : s.get id 1 = some (.row c) := by simpa using hc
      by_cases hnew : t' = 1 ∧ ∃ rows, c = .gen 3 rows
      · obtain ⟨rfl, rows, rfl⟩ := hnew
        obtain ⟨e2, hi⟩ := (show ti.size = 1 ∧ i < 3 * rows.length from h)
        obtain ⟨_, hok, hle, hown, hcell⟩ := H.res _ _ _ hc'
        have hi3 : i / 3 < rows.length := by omega
        have hfl := RC.at_flat (c := .gen 3 rows) hok hi3 (j := i % 3) (x := (rows.getD (i / 3) []).getD (i % 3) .any) (by
          have hl3 := RC.at_len (c := .gen 3 rows) hok hi3
          show (rows.getD (i / 3) [])[i % 3]? = _
          have hl3 : (rows.getD (i / 3) []).length = 3 := hl3
          rw [List.getD_eq_getElem?_getD (l := rows.getD (i / 3) []), List.getElem?_eq_getElem (by omega)]
          rfl)
        obtain ⟨v, hv, hP⟩ := hcell _ _ hfl
        have hp : a.eval x = .pointer (some ⟨g.σ id, i * 1, none⟩) := hx
        have ep : i / 3 * 3 + i % 3 = i := by omega
        rw [show (RC.gen 3 rows).t = 3 from rfl, ep] at hv
        rw [Nat.mul_one] at hp
        have h1' : All2 (fun c v => CV.G g w c v) [((rows.getD (i / 3) []).getD (i % 3) .any).strip] [v] := .cons (hP.stripped.toG (CV.strip_strip _)) .nil
        obtain ⟨la, lb⟩ := load_run (P := P) hti (vs := [v]) (b := g.σ id) (o := i) (w := w) (by rw [e2]; rfl) (fun j u hj => by
          cases j with
          | zero => simp at hj; rw [← hj]; simpa using hv
          | succ j => simp at hj)
        obtain ⟨ga, gb⟩ := ofCells_G (g := g) (w := w) (agg := ti.agg) h1'
        cases hag : ti.agg with
        | true => exact gives_value (v := .agg [v].toArray) (by simp [execOp, ho, Instr.loadAt, Instr.sureAddr, hp, la hag]) (by show AV.G g w (ofCells ti.agg [((rows.getD (i / 3) []).getD (i % 3) .any).strip]) _; rw [hag] at ga ⊢; exact ga rfl)
        | false =>
          obtain ⟨v', hv', hl⟩ := lb hag
          exact gives_value (v := v') (by simp [execOp, ho, Instr.loadAt, Instr.sureAddr, hp, hl]) (by show AV.G g w (ofCells ti.agg [((rows.getD (i / 3) []).getD (i % 3) .any).strip]) _; rw [hag] at gb ⊢; exact gb rfl v' hv')
      rw [loadRow_old hnew] at h ⊢
      obtain ⟨e1, e2, hi⟩ := h
      obtain ⟨_, hok, hle, hown, hcell⟩ := H.res _ _ _ hc'
      obtain ⟨vs, h1, h2⟩ := all2_of_get (c.at i) (fun j => w.cell? ⟨g.σ id, i * c.t + j, none⟩) (fun j x hx => hcell _ x (RC.at_flat hok hi hx))
      have hp : a.eval x = .pointer (some ⟨g.σ id, i * t', none⟩) := hx
      rw [e1] at hp
      have hl : vs.length = ti.size := by rw [← h1.len, RC.at_len hok hi, e2]
      have h1' : All2 (fun c v => CV.G g w c v) ((c.at i).map CV.strip) vs := All2.map_left.2 (h1.imp fun c v hp => hp.stripped.toG (CV.strip_strip c))
      obtain ⟨la, lb⟩ := load_run (P := P) hti hl h2
      obtain ⟨ga, gb⟩ := ofCells_G (g := g) (w := w) (agg := ti.agg) h1'
      cases hag : ti.agg with
      | true => exact gives_value (v := .agg vs.toArray) (by simp [execOp, ho, Instr.loadAt, Instr.sureAddr, hp, la hag]) (by rw [hag] at ga; exact ga rfl)
      | false =>
        obtain ⟨v, hv, hl⟩ := lb hag
        exact gives_value (v := v) (by simp [execOp, ho, Instr.loadAt, Instr.sureAddr, hp, hl]) (by rw [hag] at gb; exact gb rfl v hv)
    · exact h.elim
  · exact h.elim
end
end Go.Proofs.YtocpmekblkfdiaaGreatDoor
