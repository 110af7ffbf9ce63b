/- The abstract walk: a row of one's own is given up; it is called otherwise; nil is a row. No condition. -/
import Derived.Test.YtdojdghhbjjoeaaAi
namespace Go.Proofs.Ytdojdghhbjjoeaa
open Go.RowKit

def AS.has (n k : Nat) : AS → Bool
  | [] => false
  | (n', k', _) :: s => (n' == n && k' == k) || AS.has n k s

def subC (p : RV → Bool) (f : RV → RV) (n k : Nat) (r : RV) (s : AS) : AS :=
  bif p r then (n, k, f r) :: s else bif AS.has n k s then (n, k, r) :: s else s

/-- what p picks is laid anew by f -/
def AS.sub (p : RV → Bool) (f : RV → RV) : AS → AS
  | [] => []
  | (n, k, r) :: s => subC p f n k r (AS.sub p f s)

theorem has_get : ∀ {s : AS} {n k : Nat}, s.has n k = false → s.get n k = none
  | [], _, _, _ => rfl
  | (n', k', r) :: s, n, k, h => by
    simp only [AS.has, Bool.or_eq_false_iff] at h
    rw [AS.get, if_neg (by rw [h.1]; simp)]
    exact has_get h.2

theorem get_has : ∀ {s : AS} {n k : Nat}, s.get n k = none → s.has n k = false
  | [], _, _, _ => rfl
  | (n', k', r) :: s, n, k, h => by
    rw [AS.get] at h
    simp only [AS.has, Bool.or_eq_false_iff]
    split at h
    · cases h
    · rename_i hc; exact ⟨by simpa using hc, get_has h⟩

theorem sub_spec (p : RV → Bool) (f : RV → RV) : ∀ (s : AS) (n k : Nat), ((AS.sub p f s).get n k = none ∧ ∀ r, s.get n k = some r → p r = false) ∨ ∃ r, s.get n k = some r ∧ (AS.sub p f s).get n k = some (bif p r then f r else r)
  | [], n, k => .inl ⟨rfl, fun r h => by cases h⟩
  | (n', k', r) :: s, n, k => by
    have ih := sub_spec p f s n k
    simp only [AS.sub, subC]
    by_cases hnk : n' = n ∧ k' = k
    · obtain ⟨rfl, rfl⟩ := hnk
      rw [AS.get_cons_self]
      cases hp : p r with
      | true => exact .inr ⟨r, rfl, by simp only [cond_true, AS.get_cons_self, hp]⟩
      | false =>
        simp only [cond_false]
        cases hh : AS.has n' k' (AS.sub p f s) with
        | true => exact .inr ⟨r, rfl, by simp only [cond_true, AS.get_cons_self, hp, cond_false]⟩
        | false => exact .inl ⟨by simp only [cond_false]; exact has_get hh, fun r' e => by cases e; exact hp⟩
    · rw [AS.get_cons_ne _ _ hnk]
      cases hp : p r with
      | true => simp only [cond_true, AS.get_cons_ne _ _ hnk]; exact ih
      | false =>
        simp only [cond_false]
        cases hh : AS.has n' k' (AS.sub p f s) with
        | true => simp only [cond_true, AS.get_cons_ne _ _ hnk]; exact ih
        | false => simp only [cond_false]; exact ih

theorem sub_get {p : RV → Bool} {f : RV → RV} {s : AS} {n k : Nat} {r : RV} (h : (AS.sub p f s ++ s).get n k = some r) : ∃ r0, s.get n k = some r0 ∧ r = bif p r0 then f r0 else r0 := by
  rw [get_append] at h
  rcases sub_spec p f s n k with ⟨h1, h2⟩ | ⟨r0, h1, h2⟩
  · rw [h1] at h
    simp only at h
    exact ⟨r, h, by rw [h2 r h]; rfl⟩
  · rw [h2] at h
    simp only [Option.some.injEq] at h
    exact ⟨r0, h1, h.symm⟩

/-! a row is given up -/

def CV.frz (id : Nat) (c : RC) : CV → CV
  | .rf i n => bif i == id then c.takeC n else .rf i n
  | x => x
def A1.frz (id : Nat) (c : RC) : A1 → A1
  | .cel x => .cel (x.frz id c)
  | .agg l => .agg (l.map (CV.frz id c))
def AV.frz (id : Nat) (c : RC) : AV → AV
  | .one x => .one (x.frz id c)
  | .tup l => .tup (l.map (A1.frz id c))
  | x => x
def RV.frz (id : Nat) (c : RC) : RV → RV
  | .av x => .av (x.frz id c)
  | .cv x => .cv (x.frz id c)
  | x => x
def CV.frzOk (id m : Nat) : CV → Prop
  | .rf i n => if (i == id) = true then n ≤ m else True
  | _ => True
def cvsFrz (id m : Nat) : List CV → Prop
  | [] => True
  | x :: l => x.frzOk id m ∧ cvsFrz id m l
def A1.frzOk (id m : Nat) : A1 → Prop
  | .cel x => x.frzOk id m
  | .agg l => cvsFrz id m l
def a1sFrz (id m : Nat) : List A1 → Prop
  | [] => True
  | x :: l => x.frzOk id m ∧ a1sFrz id m l
def RV.frzOk (id m : Nat) : RV → Prop
  | .av (.one x) => x.frzOk id m
  | .av (.tup l) => a1sFrz id m l
  | .cv x => x.frzOk id m
  | _ => True
def AS.frzOk (id m : Nat) : AS → Prop
  | [] => True
  | (_, _, r) :: s => r.frzOk id m ∧ AS.frzOk id m s

def frz1 (id : Nat) (c : RC) (s : AS) : AS := (id, 1, .off) :: AS.sub (RV.men id) (RV.frz id c) s

def frzL : List Nat → AS → (AS → Prop) → Prop
  | [], s, K => K s
  | id :: l, s, K => match s.get id 1 with
    | some (.row c) => s.frzOk id c.len ∧ frzL l (frz1 id c s ++ s) K
    | _ => frzL l s K

section
variable {N : Nat} {X0 : Nat → Nat → Prop} {w0 : World} {s : AS} {a : Act} {w : World} {g : Gh} {who : Nat → Option (Nat × Bool)}

theorem rowsP_flat {X : Nat → Nat → Prop} {w : World} {b t : Nat} : ∀ (rows : List (List CV)) (off : Nat), allLen t rows → (∀ j x, rows.flatten[j]? = some x → ∃ v, seenAt X w b (off + j) v ∧ x.P X w v) → rowsP X w b off t rows
  | [], off, _, _ => by simp only [rowsP]
  | r :: rs, off, hl, h => by
    simp only [rowsP]
    refine ⟨hl.1, ?_, rowsP_flat rs (off + t) hl.2 fun j x hx => ?_⟩
    · have key : ∀ (l : List CV) (off : Nat), (∀ j x, l[j]? = some x → ∃ v, seenAt X w b (off + j) v ∧ x.P X w v) → cellsP X w b off l := by
        intro l
        induction l with
        | nil => intro off _; simp only [cellsP]
        | cons x l ih =>
          intro off h
          simp only [cellsP]
          exact ⟨by simpa using h 0 x rfl, ih (off + 1) fun j y hy => by have := h (j + 1) y (by simpa using hy); rwa [show off + (j + 1) = off + 1 + j by omega] at this⟩
      exact key r off fun j x hx => h j x (by rw [List.flatten_cons, List.getElem?_append_left (List.getElem?_eq_some_iff.1 hx).1]; exact hx)
    · have := h (t + j) x (by rw [List.flatten_cons, List.getElem?_append_right (by rw [hl.1]; omega), hl.1, Nat.add_sub_cancel_left]; exact hx)
      rwa [show off + (t + j) = off + t + j by omega] at this

theorem allLen_take {t : Nat} : ∀ (rows : List (List CV)) (n : Nat), allLen t rows → allLen t (rows.take n)
  | [], n, _ => by simp [allLen]
  | r :: rs, 0, _ => trivial
  | r :: rs, n + 1, h => ⟨h.1, allLen_take rs n h.2⟩

theorem flatten_take_get : ∀ (rows : List (List CV)) (n j : Nat) (x : CV), (rows.take n).flatten[j]? = some x → rows.flatten[j]? = some x
  | [], n, j, x, h => by simp at h
  | r :: rs, 0, j, x, h => by simp at h
  | r :: rs, n + 1, j, x, h => by
    simp only [List.take_succ_cons, List.flatten_cons] at h ⊢
    rcases Nat.lt_or_ge j r.length with hj | hj
    · rw [List.getElem?_append_left hj] at h ⊢; exact h
    · rw [List.getElem?_append_right hj] at h ⊢; exact flatten_take_get rs n _ x h

theorem cvsFrz_get {id m : Nat} : ∀ {l : List CV}, cvsFrz id m l → ∀ x ∈ l, x.frzOk id m
  | y :: l, h, x, hx => by
    rcases List.mem_cons.1 hx with rfl | hx
    · exact h.1
    · exact cvsFrz_get h.2 x hx
theorem a1sFrz_get {id m : Nat} : ∀ {l : List A1}, a1sFrz id m l → ∀ x ∈ l, x.frzOk id m
  | y :: l, h, x, hx => by
    rcases List.mem_cons.1 hx with rfl | hx
    · exact h.1
    · exact a1sFrz_get h.2 x hx
theorem frzOk_get {id m : Nat} : ∀ {s : AS}, s.frzOk id m → ∀ {n k : Nat} {r : RV}, s.get n k = some r → r.frzOk id m
  | (n', k', r') :: s, h, n, k, r, hr => by
    by_cases hnk : n' = n ∧ k' = k
    · obtain ⟨rfl, rfl⟩ := hnk
      rw [AS.get_cons_self] at hr
      cases hr
      exact h.1
    · rw [AS.get_cons_ne _ _ hnk] at hr
      exact frzOk_get h.2 hr

theorem Gam.frz (H : Gam N X0 w0 s a w g who) {id : Nat} {c : RC} (hid : s.get id 1 = some (.row c)) (hok : s.frzOk id c.len) :
    ∃ g', Gam N X0 w0 (frz1 id c s ++ s) a w g' who := by
  obtain ⟨_, cok, hle, hown, hcells⟩ := H.res _ _ _ hid
  let X' : Nat → Nat → Prop := fun b o => g.X b o ∧ ¬ (0 < g.κ id ∧ b = g.σ id)
  have hevo : Evo g.X w X' w := ⟨Nat.le_refl _, fun b o _ hx => ⟨rfl, fun h => hx h.1⟩⟩
  have hsame : ∀ i, g.same ⟨g.σ, g.κ, X'⟩ i := fun i => ⟨rfl, rfl⟩
  have hcv : ∀ (x : CV) (v : Value), x.frzOk id c.len → x.G g w v → (x.frz id c).G ⟨g.σ, g.κ, X'⟩ w v := by
    intro x v hf hx
    have hkeep : x.G ⟨g.σ, g.κ, X'⟩ w v := hx.evo (g' := ⟨g.σ, g.κ, X'⟩) hevo fun i _ => hsame i
    cases x <;> first | exact hkeep | skip
    case rf i n =>
      simp only [CV.frz]
      cases hi : i == id with
      | false => exact hkeep
      | true =>
        simp only [cond_true]
        rw [beq_iff_eq] at hi
        subst hi
        simp only [CV.frzOk, BEq.rfl, if_true] at hf
        obtain ⟨ao, rfl, hao⟩ := (show CV.G g w (.rf i n) v from hx)
        have hblk : 0 < n → ao = some ⟨g.σ i, 0, none⟩ ∧ 0 < g.κ i := fun hn => by
          rcases hao with ⟨_, h, _⟩ | h
          · omega
          · exact ⟨h, by omega⟩
        have hseen : ∀ j u, 0 < g.κ i → w.cell? ⟨g.σ i, j, none⟩ = some u → seenAt X' w (g.σ i) (0 + j) u := fun j u hk hu => ⟨(hown hk).2.1, fun h => h.2 ⟨hk, rfl⟩, by rw [Nat.zero_add]; exact hu⟩
        have hcap : ao = none → g.κ i = 0 := fun h => by
          rcases hao with ⟨_, _, h'⟩ | h'
          · exact h'
          · rw [h] at h'; cases h'
        cases c with
        | u32 xs =>
          have hf : n ≤ xs.length := hf
          have hl : (xs.take n).length = n := by rw [List.length_take]; omega
          refine ⟨⟨ao, g.κ i, by rw [hl], by rw [hl]; exact Nat.le_trans hf hle, hcap, fun x hx => cok x (List.mem_of_mem_take hx), fun hp => ?_⟩, trivial⟩
          rw [hl] at hp
          obtain ⟨h1, h2⟩ := hblk hp
          refine ⟨g.σ i, 0, h1, fun j hj => ?_⟩
          rw [hl] at hj
          have hj' : j < xs.length := by omega
          obtain ⟨u, hu, hP⟩ := hcells j (u32C xs[j]) (by simp [RC.flat, hj'])
          have e : u = .int .u32 (xs[j] : Int) := hP
          subst e
          have : ((xs.take n).getD j 0 : Nat) = xs[j] := by
            rw [List.getD_eq_getElem?_getD, List.getElem?_take, if_pos hj, List.getElem?_eq_getElem hj']; rfl
          rw [this]
          exact hseen j _ h2 hu
        | gen t rows =>
          have hf : n ≤ rows.length := hf
          have hl : (rows.take n).length = n := by rw [List.length_take]; omega
          refine ⟨?_, trivial⟩
          simp only [CV.P]
          refine ⟨ao, g.κ i, by rw [hl], by rw [hl]; exact Nat.le_trans hf hle, hcap, fun hp => ?_⟩
          rw [hl] at hp
          obtain ⟨h1, h2⟩ := hblk hp
          refine ⟨g.σ i, 0, h1, rowsP_flat _ 0 (allLen_take _ _ cok.2) fun j x hx => ?_⟩
          obtain ⟨u, hu, hP⟩ := hcells j x (flatten_take_get rows n j x hx)
          exact ⟨u, hseen j u h2 hu, CV.P.evo hevo x hP⟩
  have hal : ∀ (l : List CV) (vs : List Value), (∀ x ∈ l, x.frzOk id c.len) → All2 (fun c v => CV.G g w c v) l vs → All2 (fun c v => CV.G ⟨g.σ, g.κ, X'⟩ w c v) (l.map (CV.frz id c)) vs := by
    intro l vs hf h
    induction h with
    | nil => exact .nil
    | cons h _ ih => exact .cons (hcv _ _ (hf _ (by simp)) h) (ih fun x hx => hf x (by simp [hx]))
  have ha1 : ∀ (x : A1) (v : Value), x.frzOk id c.len → x.G g w v → (x.frz id c).G ⟨g.σ, g.κ, X'⟩ w v := by
    intro x v hf hx
    cases x with
    | cel x => exact hcv x v hf hx
    | agg l =>
      obtain ⟨vs, hv, hl⟩ := hx
      exact ⟨vs, hv, hal l vs (cvsFrz_get hf) hl⟩
  refine ⟨⟨g.σ, g.κ, X'⟩, H.defers, H.size, H.below, fun b o h => ⟨⟨(H.sub b o h).1, fun h' => ?_⟩, (H.sub b o h).2⟩, fun b o h => H.sup b o h.1, fun b o h => H.lt b o h.1, fun n k r hr => ?_⟩
  · obtain ⟨k1, _, _, k4⟩ := hown h'.1
    have := h'.2
    have hx := (H.sub b o h).2
    omega
  · unfold frz1 at hr
    rw [List.cons_append] at hr
    by_cases hnk : id = n ∧ 1 = k
    · obtain ⟨rfl, rfl⟩ := hnk
      rw [AS.get_cons_self] at hr
      cases hr
      trivial
    · rw [AS.get_cons_ne _ _ hnk] at hr
      obtain ⟨r0, h0, rfl⟩ := sub_get hr
      have hf := frzOk_get hok h0
      have hres := H.res _ _ _ h0
      have hkeep : r0.H w0.heap.size ⟨g.σ, g.κ, X'⟩ who a w n k := by
        cases r0 with
        | av v =>
          obtain ⟨h1, h2, h3⟩ := hres
          exact ⟨h1, h2, h3.evo (g' := ⟨g.σ, g.κ, X'⟩) hevo fun i _ => hsame i⟩
        | cv x =>
          obtain ⟨h1, h2, h3, h4, h5, h6, v, h7, h8⟩ := hres
          refine ⟨h1, h2, h3, h4, ⟨h5, fun h => ?_⟩, h6, v, h7, h8.evo (g' := ⟨g.σ, g.κ, X'⟩) hevo fun i _ => hsame i⟩
          have := (hown h.1).2.2.1
          rw [← h.2, h4] at this
          cases this
        | row x =>
          have hrow := hres
          obtain ⟨h1, _, _, h4, _⟩ := hres
          refine row_keep (g' := ⟨g.σ, g.κ, X'⟩) hrow hevo rfl rfl fun hp => ?_
          obtain ⟨k1, k2, k3, k4⟩ := h4 hp
          refine ⟨k3, fun j hj => ⟨⟨(k4 j hj).1, fun h => ?_⟩, rfl, rfl⟩⟩
          have := (hown h.1).2.2.1
          rw [← h.2, k3] at this
          cases this
          exact hnk ⟨rfl, h1.symm⟩
        | off => trivial
      cases hm : RV.men id r0 with
      | false => exact hkeep
      | true =>
        simp only [cond_true]
        cases r0 with
        | av v =>
          obtain ⟨h1, h2, h3⟩ := hres
          refine ⟨h1, h2, ?_⟩
          cases v with
          | one x => exact ha1 x _ hf h3
          | tup l =>
            obtain ⟨vs, hv, hl⟩ := h3
            have hf' := a1sFrz_get (show a1sFrz id c.len l from hf)
            refine ⟨vs, hv, ?_⟩
            clear hv hm hr hkeep h0 hf
            induction hl with
            | nil => exact .nil
            | cons h _ ih => exact .cons (ha1 _ _ (hf' _ (by simp)) h) (ih fun x hx => hf' x (by simp [hx]))
          | any => trivial
          | und => exact h3
        | cv x =>
          obtain ⟨h1, h2, h3, h4, h5, h6, v, h7, h8⟩ := hkeep
          obtain ⟨_, _, _, _, _, _, v', h7', h8'⟩ := hres
          exact ⟨h1, h2, h3, h4, h5, h6, v', h7', hcv x v' hf h8'⟩
        | row x => cases hm
        | off => trivial

theorem frzL_sound : ∀ (l : List Nat) {s : AS} {g : Gh} {K : AS → Prop}, Gam N X0 w0 s a w g who → frzL l s K → ∃ s' g', K s' ∧ Gam N X0 w0 s' a w g' who
  | [], s, g, K, H, h => ⟨s, g, h, H⟩
  | id :: l, s, g, K, H, h => by
    simp only [frzL] at h
    split at h
    · rename_i c hid
      obtain ⟨g', H'⟩ := H.frz hid h.1
      exact frzL_sound l H' h.2
    · exact frzL_sound l H h

/-! a row is called otherwise -/

def CV.ren (id id' : Nat) : CV → CV
  | .rf i n => bif i == id then .rf id' n else .rf i n
  | .rp i t j => bif i == id then .rp id' t j else .rp i t j
  | x => bif x.men id then x.strip else x
def A1.ren (id id' : Nat) : A1 → A1
  | .cel x => .cel (x.ren id id')
  | .agg l => .agg (l.map (CV.ren id id'))
def AV.ren (id id' : Nat) : AV → AV
  | .one x => .one (x.ren id id')
  | .tup l => .tup (l.map (A1.ren id id'))
  | x => x
def RV.ren (id id' : Nat) : RV → RV
  | .av x => .av (x.ren id id')
  | .cv x => .cv (x.ren id id')
  | x => x

def ren1 (id id' : Nat) (c : RC) (s : AS) : AS := (id, 1, .off) :: (id', 1, .row c) :: AS.sub (RV.men id) (RV.ren id id') s

theorem Gam.ren (H : Gam N X0 w0 s a w g who) {id id' : Nat} {c : RC} (hid : s.get id 1 = some (.row c)) (hf : s.fresh id' = true) :
    ∃ g' who', Gam N X0 w0 (ren1 id id' c s ++ s) a w g' who' := by
  have hrow := H.res _ _ _ hid
  obtain ⟨_, cok, hle, hown, hcells⟩ := hrow
  have hne : id ≠ id' := fun e => by have := (AS.fresh_get hf hid).2 e; omega
  have hevo : Evo g.X w g.X w := Evo.refl _ _
  have hsame : ∀ i, i ≠ id' → g.same ⟨upd g.σ id' (g.σ id), upd g.κ id' (g.κ id), g.X⟩ i := fun i hi => ⟨upd_ne _ _ hi, upd_ne _ _ hi⟩
  have hcv : ∀ (x : CV) (v : Value), x.men id' = false → x.G g w v → (x.ren id id').G ⟨upd g.σ id' (g.σ id), upd g.κ id' (g.κ id), g.X⟩ w v := by
    intro x v hm hx
    have hkeep : x.G ⟨upd g.σ id' (g.σ id), upd g.κ id' (g.κ id), g.X⟩ w v := hx.evo (g' := ⟨upd g.σ id' (g.σ id), upd g.κ id' (g.κ id), g.X⟩) hevo fun i hi => hsame i (by rintro rfl; rw [hm] at hi; cases hi)
    have hgen : CV.G ⟨upd g.σ id' (g.σ id), upd g.κ id' (g.κ id), g.X⟩ w (bif x.men id then x.strip else x) v := by
      cases x.men id with
      | false => exact hkeep
      | true => exact CV.P.toG (g := ⟨upd g.σ id' (g.σ id), upd g.κ id' (g.κ id), g.X⟩) hx.strip (CV.strip_strip x)
    cases x <;> first | exact hgen | skip
    case rf i n =>
      simp only [CV.ren]
      cases hi : i == id with
      | false => exact hkeep
      | true =>
        rw [beq_iff_eq] at hi
        subst hi
        obtain ⟨ao, rfl, hao⟩ := (show CV.G g w (.rf i n) v from hx)
        exact ⟨ao, by simp only [upd_self], by simp only [upd_self]; exact hao⟩
    case rp i t j =>
      simp only [CV.ren]
      cases hi : i == id with
      | false => exact hkeep
      | true =>
        rw [beq_iff_eq] at hi
        subst hi
        have e : v = .pointer (some ⟨g.σ i, j * t, none⟩) := hx
        subst e
        show _ = _
        simp only [upd_self]
  have hal : ∀ (l : List CV) (vs : List Value), l.any (CV.men id') = false → All2 (fun c v => CV.G g w c v) l vs → All2 (fun c v => CV.G ⟨upd g.σ id' (g.σ id), upd g.κ id' (g.κ id), g.X⟩ w c v) (l.map (CV.ren id id')) vs := by
    intro l vs hm h
    induction h with
    | nil => exact .nil
    | cons h _ ih =>
      simp only [List.any_cons, Bool.or_eq_false_iff] at hm
      exact .cons (hcv _ _ hm.1 h) (ih hm.2)
  have ha1 : ∀ (x : A1) (v : Value), x.men id' = false → x.G g w v → (x.ren id id').G ⟨upd g.σ id' (g.σ id), upd g.κ id' (g.κ id), g.X⟩ w v := by
    intro x v hm hx
    cases x with
    | cel x => exact hcv x v hm hx
    | agg l =>
      obtain ⟨vs, hv, hl⟩ := hx
      exact ⟨vs, hv, hal l vs hm hl⟩
  refine ⟨⟨upd g.σ id' (g.σ id), upd g.κ id' (g.κ id), g.X⟩, fun b => if 0 < g.κ id ∧ b = g.σ id then some (id', true) else who b, H.defers, H.size, H.below, H.sub, H.sup, H.lt, fun n k r hr => ?_⟩
  unfold ren1 at hr
  rw [List.cons_append, List.cons_append] at hr
  by_cases hnk : id = n ∧ 1 = k
  · obtain ⟨rfl, rfl⟩ := hnk
    rw [AS.get_cons_self] at hr
    cases hr
    trivial
  rw [AS.get_cons_ne _ _ hnk] at hr
  by_cases hnk' : id' = n ∧ 1 = k
  · obtain ⟨rfl, rfl⟩ := hnk'
    rw [AS.get_cons_self] at hr
    cases hr
    refine ⟨rfl, cok, by simp only [upd_self]; exact hle, fun hp => ?_, fun j x hx => ?_⟩
    · simp only [upd_self] at hp ⊢
      obtain ⟨k1, k2, k3, k4⟩ := hown hp
      exact ⟨k1, k2, by rw [if_pos ⟨hp, trivial⟩], k4⟩
    · simp only [upd_self]
      exact hcells j x hx
  rw [AS.get_cons_ne _ _ hnk'] at hr
  obtain ⟨r0, h0, rfl⟩ := sub_get hr
  obtain ⟨f1, f2⟩ := AS.fresh_get hf h0
  have hres := H.res _ _ _ h0
  have hkeep : r0.H w0.heap.size ⟨upd g.σ id' (g.σ id), upd g.κ id' (g.κ id), g.X⟩ (fun b => if 0 < g.κ id ∧ b = g.σ id then some (id', true) else who b) a w n k := by
    cases r0 with
    | av v =>
      obtain ⟨h1, h2, h3⟩ := hres
      exact ⟨h1, h2, h3.evo (g' := ⟨upd g.σ id' (g.σ id), upd g.κ id' (g.κ id), g.X⟩) hevo fun i hi => hsame i (by rintro rfl; simp only [RV.men] at f1; rw [f1] at hi; cases hi)⟩
    | cv x =>
      obtain ⟨h1, h2, h3, h4, h5, h6, v, h7, h8⟩ := hres
      have hn : n ≠ id' := fun e => by have := f2 e; omega
      simp only [RV.H, upd_ne _ _ hn]
      refine ⟨h1, h2, h3, ?_, h5, h6, v, h7, h8.evo (g' := ⟨upd g.σ id' (g.σ id), upd g.κ id' (g.κ id), g.X⟩) hevo fun i hi => hsame i (by rintro rfl; simp only [RV.men] at f1; rw [f1] at hi; cases hi)⟩
      rw [if_neg]
      · exact h4
      · rintro ⟨hp, e⟩
        have := (hown hp).2.2.1
        rw [← e, h4] at this
        cases this
    | row x =>
      have hrow := hres
      obtain ⟨h1, _, _, h4, _⟩ := hres
      have hn : n ≠ id' := fun e => by have := f2 e; omega
      refine row_keep (g' := ⟨upd g.σ id' (g.σ id), upd g.κ id' (g.κ id), g.X⟩) hrow hevo (upd_ne _ _ hn) (upd_ne _ _ hn) fun hp => ?_
      obtain ⟨k1, k2, k3, k4⟩ := h4 hp
      refine ⟨?_, fun j hj => ⟨(k4 j hj).1, rfl, rfl⟩⟩
      rw [if_neg]
      · exact k3
      · rintro ⟨hp', e⟩
        have := (hown hp').2.2.1
        rw [← e, k3] at this
        cases this
        exact hnk ⟨rfl, h1.symm⟩
    | off => trivial
  cases hm : RV.men id r0 with
  | false => exact hkeep
  | true =>
    simp only [cond_true]
    cases r0 with
    | av v =>
      obtain ⟨h1, h2, h3⟩ := hres
      refine ⟨h1, h2, ?_⟩
      cases v with
      | one x => exact ha1 x _ f1 h3
      | tup l =>
        obtain ⟨vs, hv, hl⟩ := h3
        have f1' : l.any (A1.men id') = false := f1
        refine ⟨vs, hv, ?_⟩
        clear hv hm hr hkeep h0 f1
        induction hl with
        | nil => exact .nil
        | cons h _ ih =>
          simp only [List.any_cons, Bool.or_eq_false_iff] at f1'
          exact .cons (ha1 _ _ f1'.1 h) (ih f1'.2)
      | any => trivial
      | und => exact h3
    | cv x =>
      obtain ⟨h1, h2, h3, h4, h5, h6, v, h7, h8⟩ := hkeep
      obtain ⟨_, _, _, _, _, _, v', h7', h8'⟩ := hres
      have hn : n ≠ id' := fun e => by have := f2 e; omega
      exact ⟨h1, h2, h3, h4, h5, h6, v', by simp only [upd_ne _ _ hn]; exact h7', hcv x v' f1 h8'⟩
    | row x => cases hm
    | off => trivial

/-- nil is a row without places -/
theorem Gam.nilRow (H : Gam N X0 w0 s a w g who) {m id' : Nat} {c : RC} (hm : s.get m 0 = some (.av (.cel .nil))) (hf : s.fresh id' = true) (cok : c.ok) (hc : c.len = 0) :
    ∃ g' who', Gam N X0 w0 ((m, 0, .av (.cel (.rf id' 0))) :: (id', 1, .row c) :: s) a w g' who' := by
  have hevo : Evo g.X w g.X w := Evo.refl _ _
  have hsame : ∀ i, i ≠ id' → g.same ⟨upd g.σ id' 0, upd g.κ id' 0, g.X⟩ i := fun i hi => ⟨upd_ne _ _ hi, upd_ne _ _ hi⟩
  refine ⟨⟨upd g.σ id' 0, upd g.κ id' 0, g.X⟩, who, H.defers, H.size, H.below, H.sub, H.sup, H.lt, fun n k r hr => ?_⟩
  by_cases hnk : m = n ∧ 0 = k
  · obtain ⟨rfl, rfl⟩ := hnk
    rw [AS.get_cons_self] at hr
    cases hr
    obtain ⟨h1, h2, h3⟩ := H.res _ _ _ hm
    have e : a.tmps.getD m undef = .slice none 0 0 := h3
    refine ⟨rfl, h2, ?_⟩
    rw [e]
    exact ⟨none, by simp only [upd_self], .inl ⟨rfl, rfl, by simp only [upd_self]⟩⟩
  rw [AS.get_cons_ne _ _ hnk] at hr
  by_cases hnk' : id' = n ∧ 1 = k
  · obtain ⟨rfl, rfl⟩ := hnk'
    rw [AS.get_cons_self] at hr
    cases hr
    refine ⟨rfl, cok, by omega, fun hp => by simp only [upd_self] at hp; omega, fun j x hx => ?_⟩
    have hj := (List.getElem?_eq_some_iff.1 hx).1
    rw [RC.flat_len cok, hc] at hj
    omega
  rw [AS.get_cons_ne _ _ hnk'] at hr
  obtain ⟨f1, f2⟩ := AS.fresh_get hf hr
  have hres := H.res _ _ _ hr
  cases r with
  | av v =>
    obtain ⟨h1, h2, h3⟩ := hres
    exact ⟨h1, h2, h3.evo (g' := ⟨upd g.σ id' 0, upd g.κ id' 0, g.X⟩) hevo fun i hi => hsame i (by rintro rfl; simp only [RV.men] at f1; rw [f1] at hi; cases hi)⟩
  | cv x =>
    obtain ⟨h1, h2, h3, h4, h5, h6, v, h7, h8⟩ := hres
    have hn : n ≠ id' := fun e => by have := f2 e; omega
    simp only [RV.H, upd_ne _ _ hn]
    exact ⟨h1, h2, h3, h4, h5, h6, v, h7, h8.evo (g' := ⟨upd g.σ id' 0, upd g.κ id' 0, g.X⟩) hevo fun i hi => hsame i (by rintro rfl; simp only [RV.men] at f1; rw [f1] at hi; cases hi)⟩
  | row x =>
    have hrow := hres
    obtain ⟨h1, _, _, h4, _⟩ := hres
    have hn : n ≠ id' := fun e => by have := f2 e; omega
    refine row_keep (g' := ⟨upd g.σ id' 0, upd g.κ id' 0, g.X⟩) hrow hevo (upd_ne _ _ hn) (upd_ne _ _ hn) fun hp => ?_
    obtain ⟨k1, k2, k3, k4⟩ := h4 hp
    exact ⟨k3, fun j hj => ⟨(k4 j hj).1, rfl, rfl⟩⟩
  | off => trivial

end
end Go.Proofs.Ytdojdghhbjjoeaa
