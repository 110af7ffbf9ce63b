/- The abstract walk, ninth part: regions that draw their order, whole; code; functions. No condition. -/
import Derived.Test.YtdojdghhbjjoeaaAh
namespace Go.Proofs.Ytdojdghhbjjoeaa
open Go.RowKit

section
variable {P : Program} {E : Env} {X0 : Nat → Nat → Prop} {w0 : World} {s : AS} {a : Act} {w : World} {g : Gh} {who : Nat → Option (Nat × Bool)}

/-- what is listed is listed with all that it waits for -/
def Closed (ops : Array Oper) (listed : Array Bool) : Prop :=
  ∀ j o, ops[j]? = some o → listed.getD j false = true → ∀ e ∈ o.after.toList, Region.binds .any e = true → listed.getD e.on false = true

theorem edgeIn_spec {i : Nat} : ∀ {l : List Edge}, edgeIn i l = true → ∃ e ∈ l, Region.binds .any e = true ∧ e.on = i
  | e :: l, h => by
    simp only [edgeIn, Bool.or_eq_true, Bool.and_eq_true] at h
    rcases h with ⟨h1, h2⟩ | h
    · exact ⟨e, by simp, h1, Nat.eq_of_beq_eq_true h2⟩
    · obtain ⟨e', he, hh⟩ := edgeIn_spec h
      exact ⟨e', by simp [he], hh⟩

theorem path_listed {ops : Array Oper} {listed : Array Bool} (hc : Closed ops listed) : ∀ (f i j : Nat) (o : Oper), ops[j]? = some o → (∀ e ∈ o.after.toList, Region.binds .any e = true → listed.getD e.on false = true) →
    pathB ops.toList f i j = true → listed.getD i false = true
  | 0, _, _, _, _, _, h => by simp [pathB] at h
  | f + 1, i, j, o, ho, ha, h => by
    simp only [pathB, Array.getElem?_toList, ho, Bool.or_eq_true, List.any_eq_true, Bool.and_eq_true] at h
    rcases h with h | ⟨e, he, hb, h⟩
    · obtain ⟨e, he, hb, rfl⟩ := edgeIn_spec h
      exact ha e he hb
    · have hl := ha e he hb
      cases ho' : ops[e.on]? with
      | none =>
        cases f with
        | zero => simp [pathB] at h
        | succ f => simp [pathB, ho'] at h
      | some o' => exact path_listed hc f i e.on o' ho' (hc e.on o' ho' hl) h

theorem okEdges_get : ∀ (l : List Oper) (k j : Nat) (o : Oper), okEdges k l = true → l[j]? = some o → ∀ e ∈ o.after.toList, Region.binds .any e = true → e.on < k + j
  | [], _, _, _, _, ho => by simp at ho
  | o' :: l, k, j, o, h, ho => by
    intro e he hb
    simp only [okEdges, Bool.and_eq_true, List.all_eq_true, Bool.or_eq_true, Bool.not_eq_true'] at h
    cases j with
    | zero =>
      simp only [List.getElem?_cons_zero, Option.some.injEq] at ho
      subst ho
      have := (h.1 e he).resolve_left (by rw [hb]; simp)
      simp only [Nat.blt_eq] at this
      omega
    | succ j =>
      have := okEdges_get l (k + 1) j o h.2 (by simpa using ho) e he hb
      omega

theorem keyEq_iff {a b : Nat × Nat} : keyEq a b = true ↔ a = b := by
  obtain ⟨a1, a2⟩ := a
  obtain ⟨b1, b2⟩ := b
  simp [keyEq]

theorem keyIn_iff {k : Nat × Nat} : ∀ {s : AS}, keyIn k s = true ↔ k ∈ keysOf s
  | [] => by simp [keyIn, keysOf]
  | (n, j, r) :: s => by
    have ih := keyIn_iff (k := k) (s := s)
    simp only [keyIn, Bool.or_eq_true, keyEq_iff, ih, keysOf, List.map_cons, List.mem_cons]

theorem rdIn_false {s : AS} : ∀ {l : List (Nat × Nat)}, rdIn s l = false → ∀ k ∈ l, k ∉ keysOf s
  | x :: l, h, k, hk => by
    simp only [rdIn, Bool.or_eq_false_iff] at h
    rcases List.mem_cons.1 hk with rfl | hk
    · intro hm; rw [keyIn_iff.2 hm] at h; cases h.1
    · exact rdIn_false h.2 k hk

theorem wrIn_false {s : AS} : ∀ {l : AS}, wrIn s l = false → ∀ k ∈ keysOf l, k ∉ keysOf s
  | (n, j, r) :: l, h, k, hk => by
    simp only [wrIn, Bool.or_eq_false_iff] at h
    rcases List.mem_cons.1 hk with hk | hk
    · subst hk; intro hm; rw [keyIn_iff.2 hm] at h; cases h.1
    · exact wrIn_false h.2 k hk

theorem okOne_get {ops : List Oper} {i : Nat} {ti : Tr} : ∀ (l : List Tr) (k j : Nat) (tj : Tr), okOne ops i ti k l = true → l[j]? = some tj → okPair ops i (k + j) ti tj = true
  | [], _, _, _, _, hj => by simp at hj
  | t :: l, k, j, tj, h, hj => by
    simp only [okOne, Bool.and_eq_true] at h
    cases j with
    | zero => simp only [List.getElem?_cons_zero, Option.some.injEq] at hj; subst hj; exact h.1
    | succ j => rw [show k + (j + 1) = k + 1 + j by omega]; exact okOne_get l (k + 1) j tj h.2 (by simpa using hj)

theorem okAll_get {ops : List Oper} : ∀ (l : List Tr) (k i j : Nat) (ti tj : Tr), okAll ops k l = true → i < j → l[i]? = some ti → l[j]? = some tj → okPair ops (k + i) (k + j) ti tj = true
  | [], _, _, _, _, _, _, _, hi, _ => by simp at hi
  | t :: l, k, i, j, ti, tj, h, hij, hi, hj => by
    simp only [okAll, Bool.and_eq_true] at h
    obtain ⟨j, rfl⟩ : ∃ j', j = j' + 1 := ⟨j - 1, by omega⟩
    have hj' : l[j]? = some tj := by simpa using hj
    cases i with
    | zero =>
      simp only [List.getElem?_cons_zero, Option.some.injEq] at hi
      subst hi
      have := okOne_get l (k + 1) j tj h.1 hj'
      rwa [show k + 1 + j = k + (j + 1) by omega] at this
    | succ i =>
      have := okAll_get l (k + 1) i j ti tj h.2 (by omega) (by simpa using hi) hj'
      rwa [show k + 1 + i = k + (i + 1) by omega, show k + 1 + j = k + (j + 1) by omega] at this

theorem ready_mem {ops : Array Oper} {listed : Array Bool} {i : Nat} : i ∈ Region.ready .any ops listed ↔ ∃ o, ops[i]? = some o ∧ listed.getD i true = false ∧ ∀ e ∈ o.after.toList, Region.binds .any e = true → listed.getD e.on false = true := by
  unfold Region.ready
  rw [List.mem_filter, List.mem_range]
  constructor
  · rintro ⟨h1, h2⟩
    simp only [Bool.and_eq_true, Bool.not_eq_true', Array.getElem?_eq_getElem h1, Option.map_some, Option.getD_some, Array.all_eq_true', Bool.or_eq_true] at h2
    refine ⟨_, Array.getElem?_eq_getElem h1, h2.1, fun e he hb => ?_⟩
    rcases h2.2 e (by simpa using he) with h | h
    · rw [hb] at h; cases h
    · exact h
  · rintro ⟨o, ho, h1, h2⟩
    have hlt := (Array.getElem?_eq_some_iff.1 ho).1
    refine ⟨hlt, ?_⟩
    simp only [Bool.and_eq_true, Bool.not_eq_true', ho, Option.map_some, Option.getD_some, Array.all_eq_true', Bool.or_eq_true]
    refine ⟨h1, fun e he => ?_⟩
    cases hb : Region.binds .any e with
    | false => exact .inl rfl
    | true => exact .inr (h2 e (by simpa using he) hb)

theorem getD_lt_bool {l : Array Bool} {i : Nat} {d d' : Bool} (h : i < l.size) : l.getD i d = l.getD i d' := by
  simp [Array.getD_eq_getD_getElem?, Array.getElem?_eq_getElem h]

theorem all_listed {ops : Array Oper} {listed : Array Bool} (hok : okEdges 0 ops.toList = true) (hs : listed.size = ops.size) (hr : Region.ready .any ops listed = []) : ∀ i, i < ops.size → listed.getD i false = true := by
  intro i
  induction i using Nat.strongRecOn with
  | _ i ih =>
    intro hi
    cases hl : listed.getD i false with
    | true => rfl
    | false =>
      exfalso
      have hm : i ∈ Region.ready .any ops listed := ready_mem.2 ⟨_, Array.getElem?_eq_getElem hi, by rw [getD_lt_bool (d' := false) (by omega)]; exact hl, fun e he hb => by
        have hlt := okEdges_get ops.toList 0 i _ hok (by rw [Array.getElem?_toList]; exact Array.getElem?_eq_getElem hi) e he hb
        exact ih e.on (by omega) (by omega)⟩
      rw [hr] at hm
      cases hm

theorem count_set {l : List Bool} {i : Nat} (h : l[i]? = some false) : (l.set i true).count false + 1 = l.count false := by
  induction l generalizing i with
  | nil => simp at h
  | cons b l ih =>
    cases i with
    | zero => simp at h; subst h; simp
    | succ i =>
      have := ih (i := i) (by simpa using h)
      simp only [List.set_cons_succ, List.count_cons]
      omega

theorem okPair_spec {ops : List Oper} {i j : Nat} {ti tj : Tr} (h : okPair ops i j ti tj = true) :
    (pathB ops ops.length i j = true ∨ ((∀ k ∈ keysOf ti.wr, k ∉ tj.rd ∧ k ∉ keysOf tj.wr) ∧ (∀ k ∈ ti.rd, k ∉ keysOf tj.wr) ∧ (∀ d, ti.al = some d → mentions tj.wr d = false))) ∧ (∀ d, tj.al = some d → mentions ti.wr d = false) := by
  unfold okPair at h
  simp only [Bool.and_eq_true, Bool.or_eq_true, Bool.not_eq_true', Bool.or_eq_false_iff] at h
  refine ⟨?_, ?_⟩
  · rcases h.1 with ⟨⟨⟨h1, h2⟩, h3⟩, h4⟩ | h1
    · refine .inr ⟨fun k hk => ⟨fun hm => rdIn_false h1 k hm hk, fun hm => wrIn_false h2 k hm hk⟩, fun k hk => rdIn_false h3 k hk, fun d hd => ?_⟩
      rw [hd] at h4
      exact h4
    · exact .inl h1
  · intro d hd
    have := h.2
    rw [hd] at this
    exact this

theorem fresh_laid {D : Nat → Bool} {tr : List Tr} {d : Nat} (h0 : s.fresh d = true) (h : ∀ j u, tr[j]? = some u → D j = true → mentions u.wr d = false) : (laid D 0 tr s).fresh d = true := by
  refine List.all_eq_true.2 fun x hx => ?_
  rcases laid_mem tr 0 s hx with hx | ⟨j, u, hu, hd, hx⟩
  · exact List.all_eq_true.1 h0 x hx
  · have := h j u hu (by simpa using hd)
    simp only [mentions, List.any_eq_false, Bool.or_eq_true, Bool.and_eq_true, not_or, not_and, Bool.not_eq_true, bne_eq_false_iff_eq, beq_iff_eq] at this
    have := this x hx
    simp only [Bool.and_eq_true, Bool.not_eq_true', Bool.or_eq_true, bne_iff_ne, beq_iff_eq]
    refine ⟨this.1, ?_⟩
    by_cases hn : x.1 = d
    · exact .inr (this.2 hn)
    · exact .inl hn

theorem draw_main {ops : Array Oper} {tr : List Tr} {Q : Exit → Act → World → Prop} (hok : okOrder ops.toList tr = true) (hlen : tr.length = ops.size)
    (hD : ∀ i o t, ops[i]? = some o → tr[i]? = some t → Does P E X0 w0 ops o (laid (fun j => decide (j < i)) 0 tr s) t)
    (hfr : ∀ t ∈ tr, ∀ d, t.al = some d → s.fresh d = true)
    (hk : ∀ a' w' g' who', Gam E.N X0 w0 (laid (fun _ => true) 0 tr s) a' w' g' who' → Q .normal a' w') :
    ∀ (fuel : Nat) (listed : Array Bool) (a : Act) (w : World) (g : Gh) (who : Nat → Option (Nat × Bool)), listed.size = ops.size → Closed ops listed → listed.toList.count false ≤ fuel →
      Gam E.N X0 w0 (laid (fun j => listed.getD j false) 0 tr s) a w g who → wpAny P .any ops Q fuel listed a w := by
  have hok' := hok
  unfold okOrder at hok'
  simp only [Bool.and_eq_true] at hok'
  obtain ⟨hcl, hpairs⟩ := hok'
  have hpair : ∀ i j ti tj, i < j → tr[i]? = some ti → tr[j]? = some tj → okPair ops.toList i j ti tj = true := by
    intro i j ti tj hij hi hj
    have := okAll_get tr 0 i j ti tj hpairs hij hi hj
    simpa using this
  have hend : ∀ (listed : Array Bool) (a : Act) (w : World) (g : Gh) (who : Nat → Option (Nat × Bool)), listed.size = ops.size → Region.ready .any ops listed = [] →
      Gam E.N X0 w0 (laid (fun j => listed.getD j false) 0 tr s) a w g who → Q .normal a w := by
    intro listed a w g who hs hr H
    refine hk a w g who ?_
    rwa [laid_congr (D' := fun _ => true) tr 0 s (fun j hj => by simpa using all_listed hcl hs hr j (by omega))] at H
  intro fuel
  induction fuel with
  | zero =>
    intro listed a w g who hs hc hcount H
    have hr : Region.ready .any ops listed = [] := by
      rw [List.eq_nil_iff_forall_not_mem]
      intro i hi
      obtain ⟨o, ho, h1, _⟩ := ready_mem.1 hi
      have hlt : i < listed.size := by rw [hs]; exact (Array.getElem?_eq_some_iff.1 ho).1
      have : false ∈ listed.toList := by
        rw [Array.getD_eq_getD_getElem?, Array.getElem?_eq_getElem hlt] at h1
        simp only [Option.getD_some] at h1
        rw [← h1]; simp
      have := List.count_pos_iff.2 this
      omega
    exact ⟨hr, hend listed a w g who hs hr H⟩
  | succ fuel ih =>
    intro listed a w g who hs hc hcount H
    refine ⟨fun hr => hend listed a w g who hs hr H, fun i hi => ?_⟩
    obtain ⟨o, ho, hnl, hafter⟩ := ready_mem.1 hi
    have hlt : i < ops.size := (Array.getElem?_eq_some_iff.1 ho).1
    have hnl' : listed.getD i false = false := by rw [getD_lt_bool (d' := true) (by omega)]; exact hnl
    obtain ⟨t, ht⟩ : ∃ t, tr[i]? = some t := ⟨_, List.getElem?_eq_getElem (by omega)⟩
    have hpre : ∀ j, pathB ops.toList ops.toList.length j i = true → listed.getD j false = true := fun j hj => path_listed hc _ j i o ho hafter hj
    have hpost : ∀ j, listed.getD j false = true → ¬ pathB ops.toList ops.toList.length i j = true := by
      intro j hj hm
      have hjlt : j < ops.size := by
        rcases Nat.lt_or_ge j ops.size with h | h
        · exact h
        · rw [Array.getD_eq_getD_getElem?, Array.getElem?_eq_none (by omega)] at hj; cases hj
      have := path_listed hc _ i j _ (Array.getElem?_eq_getElem hjlt) (hc j _ (Array.getElem?_eq_getElem hjlt) hj) hm
      rw [this] at hnl'; cases hnl'
    have hne : ∀ j, listed.getD j false = true → j ≠ i := by rintro j hj rfl; rw [hj] at hnl'; cases hnl'
    have hdoes := hD i o t ho ht
    have hgo : Goes P E X0 w0 ops o (laid (fun j => listed.getD j false) 0 tr s) t.wr := by
      refine hdoes _ ?_ ?_
      · rintro ⟨n, k⟩ hk
        refine laid_get tr 0 rfl fun j u hu hkey => ?_
        simp only [Nat.zero_add]
        rcases Nat.lt_trichotomy j i with h | h | h
        · have := (okPair_spec (hpair j i u t h hu ht)).1
          rcases this with h1 | h1
          · rw [hpre j h1]; simp [h]
          · exact absurd hk (h1.1 _ hkey).1
        · subst h; rw [hnl']; simp
        · have := (okPair_spec (hpair i j t u h ht hu)).1
          rcases this with h1 | h1
          · have : listed.getD j false = false := by
              cases hl : listed.getD j false with
              | false => rfl
              | true => exact absurd h1 (hpost j hl)
            rw [this]; simp; omega
          · exact absurd hkey (h1.2.1 _ hk)
      · intro d hd
        refine fresh_laid (hfr t (List.mem_of_getElem? ht) d hd) fun j u hu hj => ?_
        rcases Nat.lt_trichotomy j i with h | h | h
        · exact (okPair_spec (hpair j i u t h hu ht)).2 d hd
        · exact absurd h (hne j hj)
        · rcases (okPair_spec (hpair i j t u h ht hu)).1 with h1 | h1
          · exact absurd h1 (hpost j hj)
          · exact h1.2.2 d hd
    have hsi : (listed.setIfInBounds i true).size = ops.size := by simp [hs]
    have hgi : ∀ j, (listed.setIfInBounds i true).getD j false = if j = i then true else listed.getD j false := by
      intro j
      simp only [Array.getD_eq_getD_getElem?, Array.getElem?_setIfInBounds]
      by_cases h : i = j
      · subst h; simp [show i < listed.size by omega]
      · rw [if_neg h, if_neg (fun e => h e.symm)]
    have hstep := hgo a w g who H Q (wpAny P .any ops Q fuel (listed.setIfInBounds i true)) (fun a' w' g' who' H' => ?_)
    · unfold wpOp
      rw [ho]
      simp only
      split
      · rename_i hw; rw [if_pos hw] at hstep; exact .inl hstep
      · rename_i hw; rw [if_neg hw] at hstep; exact hstep
    · refine ih (listed.setIfInBounds i true) a' w' g' who' hsi ?_ ?_ (H'.same ?_)
      · intro j o' ho' hj e he hb
        rw [hgi] at hj ⊢
        split
        · rfl
        · split at hj
          · rename_i hji; subst hji; rw [ho] at ho'; cases ho'; exact hafter e he hb
          · exact hc j o' ho' hj e he hb
      · have hl : listed.toList[i]? = some false := by
          rw [Array.getD_eq_getD_getElem?, Array.getElem?_eq_getElem (by omega)] at hnl'
          simp only [Option.getD_some] at hnl'
          rw [Array.getElem?_toList, Array.getElem?_eq_getElem (by omega), hnl']
        have := count_set hl
        simp only [Array.toList_setIfInBounds]
        omega
      · intro n k r hr
        rw [get_append]
        cases hw : t.wr.get n k with
        | some r' =>
          have hkey : (n, k) ∈ keysOf t.wr := List.mem_map.2 ⟨_, AS.get_mem hw, rfl⟩
          rw [laid_last hw tr 0 i s ht (by simp [hgi]) ?_] at hr
          · exact hr
          · intro q u hq hu hqD hkq
            simp only [Nat.zero_add, hgi] at hqD
            rw [if_neg (by omega)] at hqD
            rcases (okPair_spec (hpair i q t u hq ht hu)).1 with h1 | h1
            · exact hpost q hqD h1
            · exact (h1.1 _ hkey).2 hkq
        | none =>
          simp only
          rw [← hr]
          refine laid_get tr 0 rfl fun j u hu hkey => ?_
          simp only [Nat.zero_add, hgi]
          split
          · rename_i hji
            subst hji
            rw [ht] at hu
            cases hu
            exfalso
            obtain ⟨⟨n', k', r'⟩, hx, he⟩ := List.mem_map.1 hkey
            cases he
            have : ∀ (W : AS), (n', k', r') ∈ W → W.get n' k' ≠ none := by
              intro W
              induction W with
              | nil => intro h; cases h
              | cons y W ihW =>
                obtain ⟨y1, y2, y3⟩ := y
                intro h
                by_cases hnk : y1 = n' ∧ y2 = k'
                · obtain ⟨rfl, rfl⟩ := hnk; rw [AS.get_cons_self]; simp
                · rw [AS.get_cons_ne _ _ hnk]
                  rcases List.mem_cons.1 h with h | h
                  · cases h; exact absurd ⟨rfl, rfl⟩ hnk
                  · exact ihW h
            exact this _ hx hw
          · rfl

theorem awpDraw_sound (hE : EnvOk P E) (hm : P.follows .mixedOrders = true) {ops : Array Oper} {KA : AS → Prop} {Q : Exit → Act → World → Prop} {id : Nat} (H : Gam E.N X0 w0 s a w g who) (h : awpDraw E ops s KA)
    (hk : ∀ s' a' w' g' who', KA s' → Gam E.N X0 w0 s' a' w' g' who' → Q .normal a' w') : (Code.region id ops true).wp P Q a w := by
  obtain ⟨s', tr, ⟨k1, k2⟩, kl, kd, ke, kf⟩ := awpD_inv (X0 := X0) (w0 := w0) hE ops.toList s s [] h (fun _ hx => hx)
  simp only [List.reverse_nil, List.nil_append] at k1 k2
  refine wp_region_any hm ?_
  have hb : Below w.heap.size w { w with drawn := w.drawn + 1 } := (Below.refl _ w).drew
  refine draw_main (s := s) (X0 := X0) (w0 := w0) (E := E) k1 (by simpa using kl) (fun i o t ho ht => ?_) kf (fun a' w' g' who' H' => hk s' a' w' g' who' k2 (H'.same fun n k r hr => by rw [← ke n k]; exact hr)) ops.size _ a _ g who (by simp) ?_ ?_ ?_
  · have := kd 0 i o t (by simpa using ho) ht
    simpa only [Nat.zero_add] using this
  · intro j o _ hj
    exfalso
    rw [Array.getD_eq_getD_getElem?, Array.getElem?_replicate] at hj
    split at hj <;> cases hj
  · simp
  · rw [laid_congr (D' := fun _ => false) tr 0 s (fun j hj => by rw [Array.getD_eq_getD_getElem?, Array.getElem?_replicate]; split <;> rfl), laid_none _ _ _ (fun _ _ => rfl)]
    exact H.grow hb

end
end Go.Proofs.Ytdojdghhbjjoeaa
