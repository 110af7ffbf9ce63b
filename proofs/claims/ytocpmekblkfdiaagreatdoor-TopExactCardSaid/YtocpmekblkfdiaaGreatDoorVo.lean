/- The evaluator: contracts of nat and rat, as the evaluator uses them; Go's functions that the model carries out in their place. Conditions: at most 1000 limbs. The evaluator: Go's functions that the model carries out in their place (bytes looked for, compared, counted). No condition. The evaluator: the tables of this program (types, functions, contracts), and what known() answers: true. Printed by gen/vq.py. -/
import Derived.Test.YtocpmekblkfdiaaGreatDoorVk
import Derived.Test.YtocpmekblkfdiaaGreatDoorAl
import Derived.Lib.Bytealg
namespace Go.Proofs.YtocpmekblkfdiaaGreatDoor
open Go.RowKit
set_option linter.unusedSimpArgs false
def toL : XV → Option (List Nat)
  | .lim xs => bif Nat.ble xs.length 1000 then some xs else none
  | .ns => some []
  | _ => none
def toR : XV → Option RR
  | .a [.b s, n, d] => match toL n, toL d with
    | some n, some d => some ⟨s, n, d⟩
    | _, _ => none
  | _ => none
def ofR (r : RR) : XV := .a [.b r.s, .lim r.n, .lim r.d]
def con2 (f : List Nat → List Nat → XV) : List XV → Option XV
  | [x, y] => match toL x, toL y with
    | some a, some b => some (f a b)
    | _, _ => none
  | _ => none
def conR (f : Rat → Rat → XV) : List XV → Option XV
  | [x, y] => match toR x, toR y with
    | some a, some b => some (f a.q b.q)
    | _, _ => none
  | _ => none
def c_of : List XV → Option XV
  | [.i .u64 (.ofNat n)] => bif Nat.blt n 18446744073709551616 then some (.lim (limbs n)) else none
  | _ => none
def c_trim : List XV → Option XV
  | [x] => match toL x with
    | some a => some (.lim (limbs (val a)))
    | none => none
  | _ => none
def c_small : List XV → Option XV
  | [x, .i .u32 (.ofNat n)] => match toL x with
    | some a => bif Nat.blt 0 n && Nat.blt n 4294967296 then some (.t [.lim (limbs (val a / n)), .i .u32 (Int.ofNat (val a % n))]) else none
    | none => none
  | _ => none
def c_norm : List XV → Option XV
  | [x] => match toR x with
    | some a => some (ofR (cr a.q))
    | none => none
  | _ => none
def c_rof : List XV → Option XV
  | [.b s, x, y] => match toL x, toL y with
    | some n, some d => some (ofR (cr (qv s (val n) (val d))))
    | _, _ => none
  | _ => none
def c_int : List XV → Option XV
  | [.i .i64 n] => bif decide (-9223372036854775808 ≤ n) && decide (n < 9223372036854775808) then some (ofR (cr (n : Rat))) else none
  | _ => none
def c_add : List XV → Option XV := con2 fun a b => .lim (limbs (val a + val b))
def c_mul : List XV → Option XV := con2 fun a b => .lim (limbs (val a * val b))
def c_cmp : List XV → Option XV := con2 fun a b => .i .i64 (cmpI (val a) (val b))
def c_radd : List XV → Option XV := conR fun a b => ofR (cr (a + b))
def c_rsub : List XV → Option XV := conR fun a b => ofR (cr (a - b))
def c_rmul : List XV → Option XV := conR fun a b => ofR (cr (a * b))
def c_rdiv : List XV → Option XV := conR fun a b => .t [ofR (cr (a / b)), .b (!decide (b = 0))]
def lookF {α : Type} : List (Nat × α) → Nat → Option α
  | [], _ => none
  | (k, b) :: r, id => bif Nat.beq k id then some b else lookF r id
def lookE : List (Nat × Nat) → Nat → Nat
  | [], _ => 0
  | (k, b) :: r, id => bif Nat.beq k id then b else lookE r id
theorem lookF_ok {α : Type} {R : Nat → α → Prop} : ∀ {l : List (Nat × α)}, (∀ x ∈ l, R x.1 x.2) → ∀ {id : Nat} {b : α}, lookF l id = some b → R id b
  | [], _, _, _, h => by simp [lookF] at h
  | (k, c) :: r, hl, id, b, h => by
    unfold lookF at h
    cases hk : Nat.beq k id with
    | true =>
      rw [hk] at h
      cases h
      rw [← Nat.eq_of_beq_eq_true hk]
      exact hl _ (List.mem_cons_self ..)
    | false =>
      rw [hk] at h
      exact lookF_ok (fun x hx => hl x (List.mem_cons_of_mem _ hx)) h
theorem lookE_ok {R : Nat → Nat → Prop} : ∀ {l : List (Nat × Nat)}, (∀ x ∈ l, R x.1 x.2) → ∀ (id : Nat), lookE l id = 0 ∨ R id (lookE l id)
  | [], _, _ => .inl rfl
  | (k, c) :: r, hl, id => by
    unfold lookE
    cases hk : Nat.beq k id with
    | true =>
      rw [← Nat.eq_of_beq_eq_true hk]
      exact .inr (hl _ (List.mem_cons_self ..))
    | false => exact lookE_ok (fun x hx => hl x (List.mem_cons_of_mem _ hx)) id
section
variable {P : Program} {f : Nat} {X : Nat → Nat → Prop} {K : Nat → Bool} {g : Gx} {w : World}
theorem toL_P {x : XV} {xs : List Nat} {v : Value} (h : toL x = some xs) (hv : XV.R X K g w x v) : (limV xs).P X w v := by
  unfold toL at h
  split at h
  · replace h := (bif_some h).2
    cases h
    simpa only [XV.R, limV, AV.P, A1.P, CV.P] using hv
  · cases h
    simp only [XV.R] at hv
    subst hv
    simp only [limV, AV.P, A1.P, CV.P]
    exact ⟨none, 0, rfl, Nat.le_refl _, fun _ => rfl, by simp, fun h => absurd h (by simp)⟩
  · cases h
theorem toL_len {x : XV} {xs : List Nat} (h : toL x = some xs) : xs.length ≤ 1000 := by
  unfold toL at h
  split at h
  · obtain ⟨h1, h2⟩ := bif_some h
    cases h2
    exact Nat.le_of_ble_eq_true h1
  · cases h; simp
  · cases h
theorem toR_sz {x : XV} {r : RR} (h : toR x = some r) : r.sz ≤ 1000 := by
  unfold toR at h
  split at h
  · split at h
    · rename_i s n d a b ha hb
      cases h
      exact Nat.max_le.2 ⟨toL_len ha, toL_len hb⟩
    · cases h
  · cases h
theorem toR_P {x : XV} {r : RR} {v : Value} (h : toR x = some r) (hv : XV.R X K g w x v) : (ratV r).P X w v := by
  unfold toR at h
  split at h
  · split at h
    · rename_i s n d a b ha hb
      cases h
      obtain ⟨vs, rfl, hl⟩ := XV.R.a_all2.1 hv
      cases hl with
      | cons h1 hl => cases hl with
        | cons h2 hl => cases hl with
          | cons h3 hl => cases hl with
            | nil =>
              have e1 : (limV a).P X w _ := toL_P ha h2
              have e2 : (limV b).P X w _ := toL_P hb h3
              simp only [limV, AV.P, A1.P] at e1 e2
              refine ⟨_, rfl, .cons ?_ (.cons e1 (.cons e2 .nil))⟩
              simpa only [XV.R, CV.P] using h1
    · cases h
  · cases h
theorem lim_R {xs : List Nat} {v : Value} (h : (limV xs).P X w v) : XV.R X K g w (.lim xs) v := by
  simpa only [XV.R, limV, AV.P, A1.P, CV.P] using h
theorem ofR_R {r : RR} {v : Value} (h : (ratV r).P X w v) : XV.R X K g w (ofR r) v := by
  obtain ⟨vs, rfl, hl⟩ := h
  refine XV.R.a_all2.2 ⟨vs, rfl, ?_⟩
  cases hl with
  | cons h1 hl => cases hl with
    | cons h2 hl => cases hl with
      | cons h3 hl => cases hl with
        | nil =>
          simp only [CV.P] at h1 h2 h3
          exact .cons (by simpa only [XV.R] using h1) (.cons (by simpa only [XV.R] using h2) (.cons (by simpa only [XV.R] using h3) .nil))
theorem con_of {d : Den} {fx : List XV → Option XV} (hs : Sound P f d)
    (hx : ∀ ins r, fx ins = some r → ∃ avs, (∀ X K g w vs, All2 (fun x v => XV.R X K g w x v) ins vs → All2 (fun a v => AV.P X w a v) avs vs) ∧ (d avs).1 ∧ ∀ X K g w v, (d avs).2.P X w v → XV.R X K g w r v) : ConOk P f fx :=
  ⟨hs.call, fun X K g w ins r vs hX hr hi => by
    obtain ⟨avs, h1, h2, h3⟩ := hx ins r hr
    exact (hs.runs avs X w vs h2 hX (h1 X K g w vs hi)).mono fun e w' ⟨v, he, hv, hb⟩ => ⟨v, he, h3 X K g w' v hv, hb⟩⟩
theorem con2_ok {fx : List Nat → List Nat → XV} {pre : List Nat → List Nat → Prop} {r : List Nat → List Nat → AV} (hs : Sound P f (den2 aLim aLim pre r)) (hp : ∀ a b : List Nat, a.length ≤ 1000 → b.length ≤ 1000 → pre a b)
    (hr : ∀ a b X K g w v, (r a b).P X w v → XV.R X K g w (fx a b) v) : ConOk P f (con2 fx) := by
  refine con_of hs fun ins u h => ?_
  unfold con2 at h
  split at h
  · split at h
    · rename_i a b ha hb
      cases h
      refine ⟨[limV a, limV b], fun X K g w vs hi => ?_, hp a b (toL_len ha) (toL_len hb), fun X K g w v hv => hr a b X K g w v hv⟩
      cases hi with
      | cons h1 hi => cases hi with
        | cons h2 hi => cases hi with
          | nil => exact .cons (toL_P ha h1) (.cons (toL_P hb h2) .nil)
    · cases h
  · cases h
theorem conR_ok {fx : Rat → Rat → XV} {pre : RR → RR → Prop} {r : RR → RR → AV} (hs : Sound P f (den2 aRat aRat pre r)) (hp : ∀ a b : RR, a.sz ≤ 1000 → b.sz ≤ 1000 → pre a b)
    (hr : ∀ a b X K g w v, (r a b).P X w v → XV.R X K g w (fx a.q b.q) v) : ConOk P f (conR fx) := by
  refine con_of hs fun ins u h => ?_
  unfold conR at h
  split at h
  · split at h
    · rename_i a b ha hb
      cases h
      refine ⟨[ratV a, ratV b], fun X K g w vs hi => ?_, hp a b (toR_sz ha) (toR_sz hb), fun X K g w v hv => hr a b X K g w v hv⟩
      cases hi with
      | cons h1 hi => cases hi with
        | cons h2 hi => cases hi with
          | nil => exact .cons (toR_P ha h1) (.cons (toR_P hb h2) .nil)
    · cases h
  · cases h
theorem int_R {n : Int} {v : Value} (h : (intV n).P X w v) : XV.R X K g w (.i .i64 n) v := by
  simpa only [XV.R, intV, AV.P, A1.P, CV.P] using h
theorem con_add (hs : Sound P f d_nat_Add) : ConOk P f c_add := con2_ok hs (fun a b _ _ => by constructor <;> omega) fun _ _ _ _ _ _ _ h => lim_R h
theorem con_mul (hs : Sound P f d_nat_Mul) : ConOk P f c_mul := con2_ok hs (fun a b _ _ => by constructor <;> omega) fun _ _ _ _ _ _ _ h => lim_R h
theorem con_cmp (hs : Sound P f d_nat_Cmp) : ConOk P f c_cmp := con2_ok hs (fun a b _ _ => by constructor <;> omega) fun _ _ _ _ _ _ _ h => int_R h
theorem con_radd (hs : Sound P f d_rat_Add) : ConOk P f c_radd := conR_ok hs (fun a b _ _ => by constructor <;> omega) fun _ _ _ _ _ _ _ h => ofR_R h
theorem con_rsub (hs : Sound P f d_rat_Sub) : ConOk P f c_rsub := conR_ok hs (fun a b _ _ => by constructor <;> omega) fun _ _ _ _ _ _ _ h => ofR_R h
theorem con_rmul (hs : Sound P f d_rat_Mul) : ConOk P f c_rmul := conR_ok hs (fun a b _ _ => by constructor <;> omega) fun _ _ _ _ _ _ _ h => ofR_R h
theorem con_rdiv (hs : Sound P f d_rat_Div) : ConOk P f c_rdiv := conR_ok hs (fun a b _ _ => by constructor <;> omega) fun a b X K g w v h => by
  obtain ⟨vs, rfl, hl⟩ := h
  cases hl with
  | cons h1 hl => cases hl with
    | cons h2 hl => cases hl with
      | nil =>
        refine XV.R.t_all2.2 ⟨_, rfl, .cons (ofR_R h1) (.cons ?_ .nil)⟩
        simpa only [XV.R, A1.P, CV.P] using h2
theorem con_trim (hs : Sound P f d_nat_Trim) : ConOk P f c_trim := by
  refine con_of hs fun ins u h => ?_
  unfold c_trim at h
  split at h
  · split at h
    · rename_i a ha
      cases h
      have hl := toL_len ha
      refine ⟨[limV a], fun X K g w vs hi => ?_, ?_, fun X K g w v hv => lim_R hv⟩
      · cases hi with
        | cons h1 hi => cases hi with
          | nil => exact .cons (toL_P ha h1) .nil
      · show a.length ≤ 8000000000000
        omega
    · cases h
  · cases h
theorem con_norm (hs : Sound P f d_rat_Norm) : ConOk P f c_norm := by
  refine con_of hs fun ins u h => ?_
  unfold c_norm at h
  split at h
  · split at h
    · rename_i a ha
      cases h
      have hl := toR_sz ha
      refine ⟨[ratV a], fun X K g w vs hi => ?_, ?_, fun X K g w v hv => ofR_R hv⟩
      · cases hi with
        | cons h1 hi => cases hi with
          | nil => exact .cons (toR_P ha h1) .nil
      · show a.sz ≤ 1000000000000
        omega
    · cases h
  · cases h
theorem con_nof (hs : Sound P f d_nat_Of) : ConOk P f c_of := by
  refine con_of hs fun ins u h => ?_
  unfold c_of at h
  split at h
  · rename_i n
    obtain ⟨h1, h2⟩ := bif_some h
    cases h2
    refine ⟨[.one (.cel (.int .u64 (Int.ofNat n)))], fun X K g w vs hi => ?_, ?_, fun X K g w v hv => lim_R hv⟩
    · cases hi with
      | cons h1 hi => cases hi with
        | nil => exact .cons (by simpa only [XV.R, AV.P, A1.P, CV.P] using h1) .nil
    · have : n < 18446744073709551616 := by simpa [Nat.blt_eq] using h1
      show 0 ≤ (n : Int) ∧ (n : Int) < 18446744073709551616
      omega
  · cases h
theorem con_rof (hs : Sound P f d_rat_Of) : ConOk P f c_rof := by
  refine con_of hs fun ins u h => ?_
  unfold c_rof at h
  split at h
  · rename_i s x y
    split at h
    · rename_i n d hn hd
      cases h
      have := toL_len hn
      have := toL_len hd
      refine ⟨[boolV s, limV n, limV d], fun X K g w vs hi => ?_, ?_, fun X K g w v hv => ofR_R hv⟩
      · cases hi with
        | cons h1 hi => cases hi with
          | cons h2 hi => cases hi with
            | cons h3 hi => cases hi with
              | nil => exact .cons (by simpa only [XV.R, boolV, AV.P, A1.P, CV.P] using h1) (.cons (toL_P hn h2) (.cons (toL_P hd h3) .nil))
      · show n.length ≤ 1000000000000 ∧ d.length ≤ 1000000000000
        omega
    · cases h
  · cases h
theorem con_rint (hs : Sound P f d_rat_Int) : ConOk P f c_int := by
  refine con_of hs fun ins u h => ?_
  unfold c_int at h
  split at h
  · rename_i n
    obtain ⟨h1, h2⟩ := bif_some h
    cases h2
    refine ⟨[intV n], fun X K g w vs hi => ?_, ?_, fun X K g w v hv => ofR_R hv⟩
    · cases hi with
      | cons h1 hi => cases hi with
        | nil => exact .cons (by simpa only [XV.R, intV, AV.P, A1.P, CV.P] using h1) .nil
    · show -9223372036854775808 ≤ n ∧ n < 9223372036854775808
      simpa using h1
  · cases h
theorem con_small : ConOk Tryz.prog 125 c_small := by
  refine ⟨Tryz.call125, fun X K g w ins u vs hX h hi => ?_⟩
  unfold c_small at h
  split at h
  · rename_i x n
    split at h
    · rename_i a ha
      obtain ⟨h1, h2⟩ := bif_some h
      cases h2
      obtain ⟨h3, h4⟩ := and_true h1
      have h3 : 0 < n := by simpa [Nat.blt_eq] using h3
      have h4 : n < 4294967296 := by simpa [Nat.blt_eq] using h4
      cases hi with
      | cons k1 hi => cases hi with
        | cons k2 hi => cases hi with
          | nil =>
            simp only [XV.R] at k2
            subst k2
            have := toL_len ha
            refine (natSmall w _ a 0 n (lim_nt (toL_P ha k1)) h3 h4 (by omega)).mono fun e w' hh => ?_
            obtain ⟨v, he, hn, hb⟩ := hh
            exact ⟨_, he, XV.R.t_all2.2 ⟨[v, .int .u32 ((val a % n : Nat) : Int)], rfl, .cons (lim_R (nat_P hn hX)) (.cons (by simp only [XV.R]; rfl) .nil)⟩, hb⟩
    · cases h
  · cases h
end
end Go.Proofs.YtocpmekblkfdiaaGreatDoor
namespace Go.Proofs.YtocpmekblkfdiaaGreatDoor
open Go.RowKit
set_option linter.unusedSimpArgs false
theorem byt_at {l : List Nat} {i : Nat} (h : i < l.length) : (byt l)[i]! = UInt8.ofNat l[i] := by
  have hs : i < (byt l).size := by rw [byt_size]; exact h
  rw [getElem!_pos (byt l) i hs]
  simp [byt, ByteArray.getElem_eq_getElem_data]
theorem of_inj {a b : Nat} (ha : a < 256) (hb : b < 256) : (UInt8.ofNat a == UInt8.ofNat b) = Nat.beq a b := by
  rw [Bool.eq_iff_iff, beq_iff_eq, Nat.beq_eq]
  constructor
  · intro h
    have := congrArg UInt8.toNat h
    simpa [UInt8.toNat_ofNat', Nat.mod_eq_of_lt ha, Nat.mod_eq_of_lt hb] using this
  · rintro rfl; rfl
theorem idxB_spec : ∀ (l : List Nat) (c k : Nat), match idxB l c k with
    | some j => k ≤ j ∧ l[j - k]? = some c ∧ ∀ i, i < j - k → l[i]? ≠ some c
    | none => ∀ i : Nat, l[i]? ≠ some c
  | [], c, k => by simp [idxB]
  | x :: l, c, k => by
    unfold idxB
    cases hx : Nat.beq x c with
    | true =>
      have := Nat.eq_of_beq_eq_true hx
      subst this
      simp
    | false =>
      have hne := Nat.ne_of_beq_eq_false hx
      have ih := idxB_spec l c (k + 1)
      simp only [cond_false]
      split <;> rename_i j hj
      · rw [hj] at ih
        obtain ⟨h1, h2, h3⟩ := ih
        refine ⟨by omega, ?_, fun i hi => ?_⟩
        · rw [show j - k = (j - (k + 1)) + 1 by omega, List.getElem?_cons_succ]; exact h2
        · cases i with
          | zero => simpa using hne
          | succ i => rw [List.getElem?_cons_succ]; exact h3 i (by omega)
      · rw [hj] at ih
        intro i
        cases i with
        | zero => simpa using hne
        | succ i => rw [List.getElem?_cons_succ]; exact ih i
theorem idxB_find {l : List Nat} {c : Nat} (hl : ∀ x ∈ l, x < 256) (hc : c < 256) : (List.range (byt l).size).find? (fun i => (byt l)[i]! == UInt8.ofNat c) = idxB l c 0 := by
  have key : ∀ i, i < l.length → (((byt l)[i]! == UInt8.ofNat c) = true ↔ l[i]? = some c) := fun i hi => by
    rw [byt_at hi, of_inj (hl _ (List.getElem_mem hi)) hc, Nat.beq_eq, List.getElem?_eq_getElem hi, Option.some_inj]
  have := idxB_spec l c 0
  rw [byt_size]
  split at this <;> rename_i j hj
  · rw [hj, List.find?_range_eq_some]
    obtain ⟨_, h2, h3⟩ := this
    simp only [Nat.sub_zero] at h2 h3
    have hlt : j < l.length := (List.getElem?_eq_some_iff.1 h2).1
    refine ⟨(key j hlt).2 h2, List.mem_range.2 hlt, fun i hi => ?_⟩
    simpa using mt (key i (by omega)).1 (h3 i hi)
  · rw [hj, List.find?_range_eq_none]
    intro i hi
    simpa using mt (key i hi).1 (this i)
theorem preB_iff : ∀ (b m : List Nat), preB b m = true ↔ m.take b.length = b
  | [], m => by simp [preB]
  | x :: b, [] => by simp [preB]
  | x :: b, y :: m => by
    unfold preB
    cases hx : Nat.beq x y with
    | true =>
      have := Nat.eq_of_beq_eq_true hx
      subst this
      simp [preB_iff b m]
    | false =>
      have := Nat.ne_of_beq_eq_false hx
      simp only [cond_false, List.length_cons, List.take_succ_cons]
      constructor
      · intro h; cases h
      · intro h; injection h with h1 _; exact absurd h1.symm this
theorem idxS_spec : ∀ (l b : List Nat) (k : Nat), b ≠ [] → match idxS l b k with
    | some j => k ≤ j ∧ preB b (l.drop (j - k)) = true ∧ ∀ i, i < j - k → preB b (l.drop i) = false
    | none => ∀ i : Nat, preB b (l.drop i) = false
  | [], b, k, hb => by
    unfold idxS
    have h0 : preB b [] = false := by cases b with | nil => exact absurd rfl hb | cons => rfl
    simp [h0]
  | x :: l, b, k, hb => by
    unfold idxS
    cases hx : preB b (x :: l) with
    | true => simp [hx]
    | false =>
      have ih := idxS_spec l b (k + 1) hb
      simp only [cond_false]
      split <;> rename_i j hj
      · rw [hj] at ih
        obtain ⟨h1, h2, h3⟩ := ih
        refine ⟨by omega, ?_, fun i hi => ?_⟩
        · rw [show j - k = (j - (k + 1)) + 1 by omega, List.drop_succ_cons]; exact h2
        · cases i with
          | zero => simpa using hx
          | succ i => rw [List.drop_succ_cons]; exact h3 i (by omega)
      · rw [hj] at ih
        intro i
        cases i with
        | zero => simpa using hx
        | succ i => rw [List.drop_succ_cons]; exact ih i
theorem ba_beq (a b : ByteArray) : (a == b) = true ↔ a = b := by
  show ByteArray.beq a b = true ↔ _
  unfold ByteArray.beq
  rw [beq_iff_eq]
  exact ⟨fun h => ByteArray.ext h, fun h => congrArg _ h⟩
theorem byt_inj {l m : List Nat} (hl : ∀ x ∈ l, x < 256) (hm : ∀ x ∈ m, x < 256) : byt l = byt m ↔ l = m := by
  constructor
  · intro h
    have := congrArg unbyt h
    have e : ∀ {l : List Nat}, (∀ x ∈ l, x < 256) → unbyt (byt l) = l := fun {l} hl => by
      simp only [unbyt, byt_data, List.map_map]
      rw [List.map_congr_left (g := id)]
      · simp
      · intro x hx
        simp [UInt8.toNat_ofNat', Nat.mod_eq_of_lt (hl x hx)]
    rwa [e hl, e hm] at this
  · rintro rfl; rfl
theorem idxS_find {l b : List Nat} (hl : ∀ x ∈ l, x < 256) (hb : ∀ x ∈ b, x < 256) (h0 : b ≠ []) : (List.range ((byt l).size + 1 - (byt b).size)).find? (fun i => (byt l).extract i (i + (byt b).size) == byt b) = idxS l b 0 := by
  have hbl : 0 < b.length := List.length_pos_iff.2 h0
  have key : ∀ i : Nat, (((byt l).extract i (i + (byt b).size) == byt b) = true ↔ preB b (l.drop i) = true) := fun i => by
    rw [byt_size, byt_extract, ba_beq, byt_inj (fun x hx => hl x (List.mem_of_mem_take (List.mem_of_mem_drop hx))) hb, preB_iff]
    rw [List.drop_take, Nat.add_sub_cancel_left]
  have hin : ∀ i, preB b (l.drop i) = true → i < l.length + 1 - b.length := fun i h => by
    rw [preB_iff] at h
    have := congrArg List.length h
    simp only [List.length_take, List.length_drop] at this
    omega
  have := idxS_spec l b 0 h0
  rw [byt_size, byt_size]
  simp only [byt_size] at key
  split at this <;> rename_i j hj
  · rw [hj, List.find?_range_eq_some]
    obtain ⟨_, h2, h3⟩ := this
    simp only [Nat.sub_zero] at h2 h3
    refine ⟨(key j).2 h2, List.mem_range.2 (hin j h2), fun i hi => ?_⟩
    have := h3 i hi
    simpa using mt (key i).1 (by rw [this]; simp)
  · rw [hj, List.find?_range_eq_none]
    intro i hi
    have := this i
    simpa using mt (key i).1 (by rw [this]; simp)
theorem cmp_find : ∀ (l m : List Nat), (∀ x ∈ l, x < 256) → (∀ x ∈ m, x < 256) → ∀ (p : List Nat) (k : Nat), p.length = k → (∀ x ∈ p, x < 256) →
    (match (List.range' k (min l.length m.length)).find? (fun i => (byt (p ++ l))[i]! != (byt (p ++ m))[i]!) with
      | some i => if (byt (p ++ l))[i]! < (byt (p ++ m))[i]! then (-1 : Int) else 1
      | none => if l.length < m.length then -1 else if l.length > m.length then 1 else 0) = cmpB l m
  | [], [], _, _, p, k, _, _ => by simp [cmpB]
  | [], y :: m, _, _, p, k, _, _ => by simp [cmpB]
  | x :: l, [], _, _, p, k, _, _ => by simp [cmpB]
  | x :: l, y :: m, hl, hm, p, k, hp, hp2 => by
    subst hp
    have hx := hl x (List.mem_cons_self ..)
    have hy := hm y (List.mem_cons_self ..)
    have e1 : (byt (p ++ x :: l))[p.length]! = UInt8.ofNat x := by rw [byt_at (by simp)]; simp
    have e2 : (byt (p ++ y :: m))[p.length]! = UInt8.ofNat y := by rw [byt_at (by simp)]; simp
    rw [show min (x :: l).length (y :: m).length = min l.length m.length + 1 by simp, List.range'_succ]
    unfold cmpB
    cases hb : Nat.beq x y with
    | true =>
      have := Nat.eq_of_beq_eq_true hb
      subst this
      rw [List.find?_cons_of_neg (by rw [e1, e2]; simp)]
      have ih := cmp_find l m (fun z hz => hl z (List.mem_cons_of_mem _ hz)) (fun z hz => hm z (List.mem_cons_of_mem _ hz)) (p ++ [x]) (p.length + 1) (by simp) (fun z hz => by
        rcases List.mem_append.1 hz with h | h
        · exact hp2 z h
        · rw [List.mem_singleton.1 h]; exact hx)
      simp only [List.append_assoc, List.singleton_append] at ih
      rw [cond_true, ← ih]
      simp
    | false =>
      rw [List.find?_cons_of_pos (by rw [e1, e2, bne, of_inj hx hy, hb]; rfl)]
      simp only [e1, e2, cond_false]
      have : UInt8.ofNat x < UInt8.ofNat y ↔ x < y := by
        rw [UInt8.lt_iff_toNat_lt, UInt8.toNat_ofNat', UInt8.toNat_ofNat', Nat.mod_eq_of_lt hx, Nat.mod_eq_of_lt hy]
      by_cases hlt : x < y
      · rw [if_pos (this.2 hlt), show Nat.blt x y = true by rw [Nat.blt_eq]; exact hlt]; rfl
      · rw [if_neg (mt this.1 hlt), show Nat.blt x y = false by rw [Bool.eq_false_iff, ne_eq, Nat.blt_eq]; exact hlt]; rfl
theorem cmp_B {l m : List Nat} (hl : ∀ x ∈ l, x < 256) (hm : ∀ x ∈ m, x < 256) : Extern.BytealgCompare.cmp (byt l) (byt m) = cmpB l m := by
  rw [← cmp_find l m hl hm [] 0 rfl (by simp)]
  simp only [Extern.BytealgCompare.cmp, byt_size, List.range_eq_range', List.nil_append]
  rfl
theorem cnt_B : ∀ (l : List Nat) (c k : Nat), (∀ x ∈ l, x < 256) → c < 256 → (l.map UInt8.ofNat).foldl (fun (n : Int) x => if x == UInt8.ofNat c then n + 1 else n) (k : Int) = Int.ofNat (cntB l c k)
  | [], _, _, _, _ => rfl
  | x :: l, c, k, hl, hc => by
    unfold cntB
    rw [List.map_cons, List.foldl_cons, of_inj (hl x (List.mem_cons_self ..)) hc]
    have ih := fun k => cnt_B l c k (fun z hz => hl z (List.mem_cons_of_mem _ hz)) hc
    cases hb : Nat.beq x c with
    | true => rw [if_pos rfl]; exact ih (k + 1)
    | false => rw [if_neg (by simp)]; exact ih k
section
variable {P : Program} {f : Nat} {fn : Func}
theorem call_ext {e : Array Value → Sem Value} {args : Array Value} {w : World} {v : Value} (hf : P.funcs[f]? = some fn) (hname : (fn.name == "runtime.NumGoroutine") = false) (hb : fn.body.isNone = true) (hn : Extern.findNext fn = none) (he : Extern.find fn = some e)
    (hr : (e args).run P w = .ok v w) : (callFunc f args).run P w = .ok (.value v) w := by
  simp only [callFunc, Sem.run_bind, run_program, Result.andThen, hf, hname, hb, hn, he]
  simp [hr]
/-- the function f is carried out as e says -/
def Carried (P : Program) (f : Nat) (e : Array Value → Sem Value) : Prop := ∀ (args : Array Value) (w : World) (v : Value), (e args).run P w = .ok v w → (callFunc f args).run P w = .ok (.value v) w
theorem optI_R {X : Nat → Nat → Prop} {K : Nat → Bool} {g : Gx} {w : World} (o : Option Nat) : XV.R X K g w (optI o) (match o with
    | some i => goInt i
    | none => goInt (-1)) := by
  cases o <;> simp only [optI, XV.R] <;> rfl
theorem lit_1 {a b : Value} {n : Nat} {h1 : #[a, b].size = n} {h2 : 1 < n} : #[a, b].getLit 1 h1 h2 = b := rfl
theorem run_indexByte {l : List Nat} {c : Nat} {w : World} (hl : ∀ x ∈ l, x < 256) (hc : c < 256) : (Extern.BytealgIndexByte.indexByte #[.string (byt l), .int .u8 (Int.ofNat c)]).run P w = .ok (match idxB l c 0 with
    | some i => goInt i
    | none => goInt (-1)) w := by
  rw [← idxB_find hl hc]
  rw [show Extern.BytealgIndexByte.indexByte #[.string (byt l), .int .u8 (Int.ofNat c)] = Bind.bind (Extern.Bytes.bytesOf (.string (byt l))) _ from rfl]
  simp only [lit_1, Extern.Bytes.bytesOf, Extern.Bytes.asByte, Sem.run_bind, Sem.run_pure, Result.andThen]
  have : (Int.ofNat c).toNat.toUInt8 = UInt8.ofNat c := rfl
  rw [this]
  cases (List.range (byt l).size).find? (fun i => (byt l)[i]! == UInt8.ofNat c) <;> simp
theorem run_count {l : List Nat} {c : Nat} {w : World} (hl : ∀ x ∈ l, x < 256) (hc : c < 256) : (Extern.BytealgCount.count #[.string (byt l), .int .u8 (Int.ofNat c)]).run P w = .ok (goInt (Int.ofNat (cntB l c 0))) w := by
  rw [show Extern.BytealgCount.count #[.string (byt l), .int .u8 (Int.ofNat c)] = Bind.bind (Extern.Bytes.bytesOf (.string (byt l))) _ from rfl]
  simp only [lit_1, Extern.Bytes.bytesOf, Extern.Bytes.asByte, Sem.run_bind, Sem.run_pure, Result.andThen]
  have : (Int.ofNat c).toNat.toUInt8 = UInt8.ofNat c := rfl
  rw [this]
  rw [Lib.foldl_data, byt_data]
  rw [← cnt_B l c 0 hl hc]
theorem run_compare {l m : List Nat} {w : World} (hl : ∀ x ∈ l, x < 256) (hm : ∀ x ∈ m, x < 256) : (Extern.BytealgCompare.compare #[.string (byt l), .string (byt m)]).run P w = .ok (goInt (cmpB l m)) w := by
  rw [← cmp_B hl hm]
  rw [show Extern.BytealgCompare.compare #[.string (byt l), .string (byt m)] = Bind.bind (Extern.Bytes.bytesOf (.string (byt l))) _ from rfl]
  simp only [lit_1]
  simp [Extern.Bytes.bytesOf]
theorem run_index {l b : List Nat} {w : World} {gml : Nat} {μ : Int} (hl : ∀ x ∈ l, x < 256) (hb : ∀ x ∈ b, x < 256) (h3 : b.length = 3) (hn : l.length ≤ 1000000) (hg : (globalAddr "internal/bytealg.MaxLen").run P w = .ok ⟨gml, 0, none⟩ w)
    (hc : w.cell? ⟨gml, 0, none⟩ = some (.int .i64 μ)) (hμ : 3 ≤ μ) : (Extern.BytealgIndex.index #[.string (byt l), .string (byt b)]).run P w = .ok (match idxS l b 0 with
    | some i => goInt i
    | none => goInt (-1)) w := by
  rw [← idxS_find hl hb (by intro h; rw [h] at h3; simp at h3)]
  rw [show Extern.BytealgIndex.index #[.string (byt l), .string (byt b)] = Bind.bind (Extern.Bytes.bytesOf (.string (byt l))) _ from rfl]
  have h2 : ¬ ((byt b).size < 2) := by rw [byt_size]; omega
  have h4 : ¬ ((byt l).size ≥ 2 ^ 32 - 15) := by rw [byt_size]; omega
  have h5 : ¬ (((byt b).size : Int) > μ) := by rw [byt_size, h3]; omega
  have hm : Extern.BytealgIndex.maxLen.run P w = .ok μ w := by
    simp [Extern.BytealgIndex.maxLen, hg, hc, asInt, asIntOf]
  have hc2 : (decide ((byt b).size < 2) || decide (((byt b).size : Int) > μ)) = false := by simp only [h2, h5, decide_false, Bool.or_false]
  simp only [lit_1, Extern.Bytes.bytesOf, Sem.run_bind, Sem.run_pure, Result.andThen, hm, hc2, Bool.false_eq_true, if_false, if_neg h4]
  cases (List.range ((byt l).size + 1 - (byt b).size)).find? (fun i => (byt l).extract i (i + (byt b).size) == byt b) <;> simp
theorem ext_1 (hc : Carried P f Extern.BytealgIndexByte.indexByte) {gml : Nat} {mb : Bool} : ExtOk P gml mb f 1 := by
  intro X K g w ins r vs _ _ hr hi
  match ins, hi with
  | [.s l, .i .u8 c], .cons k1 (.cons k2 .nil) =>
    simp only [extX] at hr
    split at hr
    · rename_i c' hc'
      obtain ⟨h1, h2⟩ := bif_some hr
      cases h2
      obtain ⟨rfl, hl⟩ := xstr k1
      simp only [XV.R] at k2
      subst k2
      rw [natX_eq hc']
      exact ⟨_, hc _ _ _ (run_indexByte hl (by simpa [Nat.blt_eq] using h1)), optI_R _⟩
    · cases hr
theorem ext_3 (hc : Carried P f Extern.BytealgCount.count) {gml : Nat} {mb : Bool} : ExtOk P gml mb f 3 := by
  intro X K g w ins r vs _ _ hr hi
  match ins, hi with
  | [.s l, .i .u8 c], .cons k1 (.cons k2 .nil) =>
    simp only [extX] at hr
    split at hr
    · rename_i c' hc'
      obtain ⟨h1, h2⟩ := bif_some hr
      cases h2
      obtain ⟨rfl, hl⟩ := xstr k1
      simp only [XV.R] at k2
      subst k2
      rw [natX_eq hc']
      exact ⟨_, hc _ _ _ (run_count hl (by simpa [Nat.blt_eq] using h1)), by simp only [XV.R]; rfl⟩
    · cases hr
theorem ext_2 (hc : Carried P f Extern.BytealgCompare.compare) {gml : Nat} {mb : Bool} : ExtOk P gml mb f 2 := by
  intro X K g w ins r vs _ _ hr hi
  match ins, hi with
  | [.s l, .s m], .cons k1 (.cons k2 .nil) =>
    simp only [extX, Option.some.injEq] at hr
    subst hr
    obtain ⟨rfl, hl⟩ := xstr k1
    obtain ⟨rfl, hm⟩ := xstr k2
    exact ⟨_, hc _ _ _ (run_compare hl hm), by simp only [XV.R]; rfl⟩
theorem ext_4 (hc : Carried P f Extern.AbiNoEscape.same) {gml : Nat} {mb : Bool} : ExtOk P gml mb f 4 := by
  intro X K g w ins r vs _ _ hr hi
  match ins, hi with
  | [x], .cons k1 .nil =>
    simp only [extX, Option.some.injEq] at hr
    subst hr
    exact ⟨_, hc _ _ _ (show (Extern.AbiNoEscape.same #[_]).run P w = _ from Sem.run_pure ..), k1⟩
theorem ext_5 (hc : Carried P f Extern.BytealgIndex.index) {gml : Nat} {mb : Bool} (hg : ∀ w, (globalAddr "internal/bytealg.MaxLen").run P w = .ok ⟨gml, 0, none⟩ w) : ExtOk P gml mb f 5 := by
  intro X K g w ins r vs hml hmb hr hi
  match ins, hi with
  | [.s l, .s b], .cons k1 (.cons k2 .nil) =>
    simp only [extX] at hr
    obtain ⟨h1, h2⟩ := bif_some hr
    cases h2
    obtain ⟨h1, h3⟩ := and_true h1
    obtain ⟨h1, h2⟩ := and_true h1
    obtain ⟨rfl, hl⟩ := xstr k1
    obtain ⟨rfl, hb⟩ := xstr k2
    rw [h1] at hmb
    exact ⟨_, hc _ _ _ (run_index hl hb (nbeq h2) (Nat.le_of_ble_eq_true h3) (hg w) hml (by simpa using hmb.symm)), optI_R _⟩
end
end Go.Proofs.YtocpmekblkfdiaaGreatDoor
namespace Go.Proofs.YtocpmekblkfdiaaGreatDoor
open Go.RowKit
theorem xt_of {P : Program} {t : Nat} {ti : XT} {zv : Value} (h1 : ∀ w, (sizeOf t).run P w = .ok ti.size w) (h2 : ∀ w, (isAgg t).run P w = .ok ti.agg w) (h3 : ∀ w, (zeroValue t).run P w = .ok zv w) (h5 : P.underlying t = some ti.desc)
    (h4 : (P.info? t).map (fun i => (i.zero, i.size, decide (i.bytes ≤ 4096))) = some (some zv, ti.size, true)) (hz : ∀ X K g w, ti.zero.R X K g w zv) (hf : ti.zero.cells.all XV.flat = true) (hl : ti.zero.cells.length = ti.size) (ho : ti.agg = false → ti.size = 1) : XTOk P t ti := by
  obtain ⟨i, hi, he⟩ := Option.map_eq_some_iff.1 h4
  simp only [Prod.mk.injEq, decide_eq_true_eq] at he
  exact ⟨h1, h2, ⟨zv, h3, hz⟩, hf, hl, h5, ⟨i, hi, he.2.1, he.2.2, zv, he.1, hz⟩, ho⟩
def vt_3 : XT := ⟨1, false, .i .i64 0, .int .i64⟩
theorem vt_3_i : (Tryz.prog.info? 3).map (fun i => (i.zero, i.size, decide (i.bytes ≤ 4096))) = some (some (.int .i64 0 : Value), 1, true) := by kernel_rfl
theorem vt_3_ok : XTOk Tryz.prog 3 vt_3 := xt_of (zv := .int .i64 0) Tryz.sizeOf3 Tryz.isAgg3 Tryz.zeroValue3 Tryz.underlying3 vt_3_i (fun _ _ _ _ => show XV.R _ _ _ _ (.i .i64 0) _ from (by simp only [XV.R])) rfl rfl (fun _ => rfl)
def vt_4 : XT := ⟨1, false, .b false, .bool⟩
theorem vt_4_i : (Tryz.prog.info? 4).map (fun i => (i.zero, i.size, decide (i.bytes ≤ 4096))) = some (some (.bool false : Value), 1, true) := by kernel_rfl
theorem vt_4_ok : XTOk Tryz.prog 4 vt_4 := xt_of (zv := .bool false) Tryz.sizeOf4 Tryz.isAgg4 Tryz.zeroValue4 Tryz.underlying4 vt_4_i (fun _ _ _ _ => show XV.R _ _ _ _ (.b false) _ from (by simp only [XV.R])) rfl rfl (fun _ => rfl)
def vt_5 : XT := ⟨1, false, .i .u8 0, .int .u8⟩
theorem vt_5_i : (Tryz.prog.info? 5).map (fun i => (i.zero, i.size, decide (i.bytes ≤ 4096))) = some (some (.int .u8 0 : Value), 1, true) := by kernel_rfl
theorem vt_5_ok : XTOk Tryz.prog 5 vt_5 := xt_of (zv := .int .u8 0) Tryz.sizeOf5 Tryz.isAgg5 Tryz.zeroValue5 Tryz.underlying5 vt_5_i (fun _ _ _ _ => show XV.R _ _ _ _ (.i .u8 0) _ from (by simp only [XV.R])) rfl rfl (fun _ => rfl)
def vt_9 : XT := ⟨1, false, .s [], .string⟩
theorem vt_9_i : (Tryz.prog.info? 9).map (fun i => (i.zero, i.size, decide (i.bytes ≤ 4096))) = some (some (.string .empty : Value), 1, true) := by kernel_rfl
theorem vt_9_ok : XTOk Tryz.prog 9 vt_9 := xt_of (zv := .string .empty) Tryz.sizeOf9 Tryz.isAgg9 Tryz.zeroValue9 Tryz.underlying9 vt_9_i (fun _ _ _ _ => show XV.R _ _ _ _ (.s []) _ from (by simp only [XV.R]; exact ⟨rfl, by simp⟩)) rfl rfl (fun _ => rfl)
def vt_22 : XT := ⟨1, false, .ns, .slice 46⟩
theorem vt_22_i : (Tryz.prog.info? 22).map (fun i => (i.zero, i.size, decide (i.bytes ≤ 4096))) = some (some (.slice none 0 0 : Value), 1, true) := by kernel_rfl
theorem vt_22_ok : XTOk Tryz.prog 22 vt_22 := xt_of (zv := .slice none 0 0) Tryz.sizeOf22 Tryz.isAgg22 Tryz.zeroValue22 Tryz.underlying22 vt_22_i (fun _ _ _ _ => show XV.R _ _ _ _ (.ns) _ from (by simp only [XV.R])) rfl rfl (fun _ => rfl)
def vt_24 : XT := ⟨3, true, .a [.b false, .ns, .ns], .struct #[⟨ "Neg", 4, 0, false, "", "", 0⟩, ⟨ "N", 22, 1, false, "", "", 8⟩, ⟨ "D", 22, 2, false, "", "", 32⟩]⟩
theorem vt_24_i : (Tryz.prog.info? 24).map (fun i => (i.zero, i.size, decide (i.bytes ≤ 4096))) = some (some (.agg #[.bool false, .slice none 0 0, .slice none 0 0] : Value), 3, true) := by kernel_rfl
theorem vt_24_ok : XTOk Tryz.prog 24 vt_24 := xt_of (zv := .agg #[.bool false, .slice none 0 0, .slice none 0 0]) Tryz.sizeOf24 Tryz.isAgg24 Tryz.zeroValue24 Tryz.underlying24 vt_24_i (fun _ _ _ _ => XV.R.a_all2.2 ⟨[.bool false, .slice none 0 0, .slice none 0 0], rfl, .cons (by simp only [XV.R]) (.cons (by simp only [XV.R]) (.cons (by simp only [XV.R]) (.nil)))⟩) rfl rfl (fun h => by cases h)
def vt_43 : XT := ⟨1, false, .i .u64 0, .int .u64⟩
theorem vt_43_i : (Tryz.prog.info? 43).map (fun i => (i.zero, i.size, decide (i.bytes ≤ 4096))) = some (some (.int .u64 0 : Value), 1, true) := by kernel_rfl
theorem vt_43_ok : XTOk Tryz.prog 43 vt_43 := xt_of (zv := .int .u64 0) Tryz.sizeOf43 Tryz.isAgg43 Tryz.zeroValue43 Tryz.underlying43 vt_43_i (fun _ _ _ _ => show XV.R _ _ _ _ (.i .u64 0) _ from (by simp only [XV.R])) rfl rfl (fun _ => rfl)
def vt_46 : XT := ⟨1, false, .i .u32 0, .int .u32⟩
theorem vt_46_i : (Tryz.prog.info? 46).map (fun i => (i.zero, i.size, decide (i.bytes ≤ 4096))) = some (some (.int .u32 0 : Value), 1, true) := by kernel_rfl
theorem vt_46_ok : XTOk Tryz.prog 46 vt_46 := xt_of (zv := .int .u32 0) Tryz.sizeOf46 Tryz.isAgg46 Tryz.zeroValue46 Tryz.underlying46 vt_46_i (fun _ _ _ _ => show XV.R _ _ _ _ (.i .u32 0) _ from (by simp only [XV.R])) rfl rfl (fun _ => rfl)
def vt_66 : XT := ⟨1, false, .i .u64 0, .int .u64⟩
theorem vt_66_i : (Tryz.prog.info? 66).map (fun i => (i.zero, i.size, decide (i.bytes ≤ 4096))) = some (some (.int .u64 0 : Value), 1, true) := by kernel_rfl
theorem vt_66_ok : XTOk Tryz.prog 66 vt_66 := xt_of (zv := .int .u64 0) Tryz.sizeOf66 Tryz.isAgg66 Tryz.zeroValue66 Tryz.underlying66 vt_66_i (fun _ _ _ _ => show XV.R _ _ _ _ (.i .u64 0) _ from (by simp only [XV.R])) rfl rfl (fun _ => rfl)
def vt_90 : XT := ⟨1, false, .np, .pointer 142⟩
theorem vt_90_i : (Tryz.prog.info? 90).map (fun i => (i.zero, i.size, decide (i.bytes ≤ 4096))) = some (some (.pointer none : Value), 1, true) := by kernel_rfl
theorem vt_90_ok : XTOk Tryz.prog 90 vt_90 := xt_of (zv := .pointer none) Tryz.sizeOf90 Tryz.isAgg90 Tryz.zeroValue90 Tryz.underlying90 vt_90_i (fun _ _ _ _ => show XV.R _ _ _ _ (.np) _ from (by simp only [XV.R])) rfl rfl (fun _ => rfl)
def vt_93 : XT := ⟨1, true, .a [.np], .struct #[⟨ "Session", 90, 0, true, "", "", 0⟩]⟩
theorem vt_93_i : (Tryz.prog.info? 93).map (fun i => (i.zero, i.size, decide (i.bytes ≤ 4096))) = some (some (.agg #[.pointer none] : Value), 1, true) := by kernel_rfl
theorem vt_93_ok : XTOk Tryz.prog 93 vt_93 := xt_of (zv := .agg #[.pointer none]) Tryz.sizeOf93 Tryz.isAgg93 Tryz.zeroValue93 Tryz.underlying93 vt_93_i (fun _ _ _ _ => XV.R.a_all2.2 ⟨[.pointer none], rfl, .cons (by simp only [XV.R]) (.nil)⟩) rfl rfl (fun h => by cases h)
def vt_94 : XT := ⟨1, false, .np, .pointer 97⟩
theorem vt_94_i : (Tryz.prog.info? 94).map (fun i => (i.zero, i.size, decide (i.bytes ≤ 4096))) = some (some (.pointer none : Value), 1, true) := by kernel_rfl
theorem vt_94_ok : XTOk Tryz.prog 94 vt_94 := xt_of (zv := .pointer none) Tryz.sizeOf94 Tryz.isAgg94 Tryz.zeroValue94 Tryz.underlying94 vt_94_i (fun _ _ _ _ => show XV.R _ _ _ _ (.np) _ from (by simp only [XV.R])) rfl rfl (fun _ => rfl)
def vt_95 : XT := ⟨1, false, .ns, .slice 5⟩
theorem vt_95_i : (Tryz.prog.info? 95).map (fun i => (i.zero, i.size, decide (i.bytes ≤ 4096))) = some (some (.slice none 0 0 : Value), 1, true) := by kernel_rfl
theorem vt_95_ok : XTOk Tryz.prog 95 vt_95 := xt_of (zv := .slice none 0 0) Tryz.sizeOf95 Tryz.isAgg95 Tryz.zeroValue95 Tryz.underlying95 vt_95_i (fun _ _ _ _ => show XV.R _ _ _ _ (.ns) _ from (by simp only [XV.R])) rfl rfl (fun _ => rfl)
def vt_97 : XT := ⟨2, true, .a [.np, .ns], .struct #[⟨ "addr", 94, 0, false, "", "strings", 0⟩, ⟨ "buf", 95, 1, false, "", "strings", 8⟩]⟩
theorem vt_97_i : (Tryz.prog.info? 97).map (fun i => (i.zero, i.size, decide (i.bytes ≤ 4096))) = some (some (.agg #[.pointer none, .slice none 0 0] : Value), 2, true) := by kernel_rfl
theorem vt_97_ok : XTOk Tryz.prog 97 vt_97 := xt_of (zv := .agg #[.pointer none, .slice none 0 0]) Tryz.sizeOf97 Tryz.isAgg97 Tryz.zeroValue97 Tryz.underlying97 vt_97_i (fun _ _ _ _ => XV.R.a_all2.2 ⟨[.pointer none, .slice none 0 0], rfl, .cons (by simp only [XV.R]) (.cons (by simp only [XV.R]) (.nil))⟩) rfl rfl (fun h => by cases h)
def vt_101 : XT := ⟨1, false, .ns, .slice 9⟩
theorem vt_101_i : (Tryz.prog.info? 101).map (fun i => (i.zero, i.size, decide (i.bytes ≤ 4096))) = some (some (.slice none 0 0 : Value), 1, true) := by kernel_rfl
theorem vt_101_ok : XTOk Tryz.prog 101 vt_101 := xt_of (zv := .slice none 0 0) Tryz.sizeOf101 Tryz.isAgg101 Tryz.zeroValue101 Tryz.underlying101 vt_101_i (fun _ _ _ _ => show XV.R _ _ _ _ (.ns) _ from (by simp only [XV.R])) rfl rfl (fun _ => rfl)
def vt_140 : XT := ⟨1, false, .ns, .slice 191⟩
theorem vt_140_i : (Tryz.prog.info? 140).map (fun i => (i.zero, i.size, decide (i.bytes ≤ 4096))) = some (some (.slice none 0 0 : Value), 1, true) := by kernel_rfl
theorem vt_140_ok : XTOk Tryz.prog 140 vt_140 := xt_of (zv := .slice none 0 0) Tryz.sizeOf140 Tryz.isAgg140 Tryz.zeroValue140 Tryz.underlying140 vt_140_i (fun _ _ _ _ => show XV.R _ _ _ _ (.ns) _ from (by simp only [XV.R])) rfl rfl (fun _ => rfl)
def vt_142 : XT := ⟨2, true, .a [.ns, .i .i64 0], .struct #[⟨ "entries", 140, 0, false, "", "vernier/sess", 0⟩, ⟨ "digits", 3, 1, false, "", "vernier/sess", 24⟩]⟩
theorem vt_142_i : (Tryz.prog.info? 142).map (fun i => (i.zero, i.size, decide (i.bytes ≤ 4096))) = some (some (.agg #[.slice none 0 0, .int .i64 0] : Value), 2, true) := by kernel_rfl
theorem vt_142_ok : XTOk Tryz.prog 142 vt_142 := xt_of (zv := .agg #[.slice none 0 0, .int .i64 0]) Tryz.sizeOf142 Tryz.isAgg142 Tryz.zeroValue142 Tryz.underlying142 vt_142_i (fun _ _ _ _ => XV.R.a_all2.2 ⟨[.slice none 0 0, .int .i64 0], rfl, .cons (by simp only [XV.R]) (.cons (by simp only [XV.R]) (.nil))⟩) rfl rfl (fun h => by cases h)
def vt_150 : XT := ⟨1, false, .np, .pointer 5⟩
theorem vt_150_i : (Tryz.prog.info? 150).map (fun i => (i.zero, i.size, decide (i.bytes ≤ 4096))) = some (some (.pointer none : Value), 1, true) := by kernel_rfl
theorem vt_150_ok : XTOk Tryz.prog 150 vt_150 := xt_of (zv := .pointer none) Tryz.sizeOf150 Tryz.isAgg150 Tryz.zeroValue150 Tryz.underlying150 vt_150_i (fun _ _ _ _ => show XV.R _ _ _ _ (.np) _ from (by simp only [XV.R])) rfl rfl (fun _ => rfl)
def vt_180 : XT := ⟨1, false, .ns, .slice 182⟩
theorem vt_180_i : (Tryz.prog.info? 180).map (fun i => (i.zero, i.size, decide (i.bytes ≤ 4096))) = some (some (.slice none 0 0 : Value), 1, true) := by kernel_rfl
theorem vt_180_ok : XTOk Tryz.prog 180 vt_180 := xt_of (zv := .slice none 0 0) Tryz.sizeOf180 Tryz.isAgg180 Tryz.zeroValue180 Tryz.underlying180 vt_180_i (fun _ _ _ _ => show XV.R _ _ _ _ (.ns) _ from (by simp only [XV.R])) rfl rfl (fun _ => rfl)
def vt_182 : XT := ⟨2, true, .a [.i .i64 0, .i .i64 0], .struct #[⟨ "start", 3, 0, false, "", "strings", 0⟩, ⟨ "end", 3, 1, false, "", "strings", 8⟩]⟩
theorem vt_182_i : (Tryz.prog.info? 182).map (fun i => (i.zero, i.size, decide (i.bytes ≤ 4096))) = some (some (.agg #[.int .i64 0, .int .i64 0] : Value), 2, true) := by kernel_rfl
theorem vt_182_ok : XTOk Tryz.prog 182 vt_182 := xt_of (zv := .agg #[.int .i64 0, .int .i64 0]) Tryz.sizeOf182 Tryz.isAgg182 Tryz.zeroValue182 Tryz.underlying182 vt_182_i (fun _ _ _ _ => XV.R.a_all2.2 ⟨[.int .i64 0, .int .i64 0], rfl, .cons (by simp only [XV.R]) (.cons (by simp only [XV.R]) (.nil))⟩) rfl rfl (fun h => by cases h)
def vt_183 : XT := ⟨1, false, .np, .unsafePointer⟩
theorem vt_183_i : (Tryz.prog.info? 183).map (fun i => (i.zero, i.size, decide (i.bytes ≤ 4096))) = some (some (.pointer none : Value), 1, true) := by kernel_rfl
theorem vt_183_ok : XTOk Tryz.prog 183 vt_183 := xt_of (zv := .pointer none) Tryz.sizeOf183 Tryz.isAgg183 Tryz.zeroValue183 Tryz.underlying183 vt_183_i (fun _ _ _ _ => show XV.R _ _ _ _ (.np) _ from (by simp only [XV.R])) rfl rfl (fun _ => rfl)
def vt_189 : XT := ⟨1, false, .ns, .slice 24⟩
theorem vt_189_i : (Tryz.prog.info? 189).map (fun i => (i.zero, i.size, decide (i.bytes ≤ 4096))) = some (some (.slice none 0 0 : Value), 1, true) := by kernel_rfl
theorem vt_189_ok : XTOk Tryz.prog 189 vt_189 := xt_of (zv := .slice none 0 0) Tryz.sizeOf189 Tryz.isAgg189 Tryz.zeroValue189 Tryz.underlying189 vt_189_i (fun _ _ _ _ => show XV.R _ _ _ _ (.ns) _ from (by simp only [XV.R])) rfl rfl (fun _ => rfl)
def vt_191 : XT := ⟨2, true, .a [.s [], .ns], .struct #[⟨ "name", 9, 0, false, "", "vernier/sess", 0⟩, ⟨ "row", 189, 1, false, "", "vernier/sess", 16⟩]⟩
theorem vt_191_i : (Tryz.prog.info? 191).map (fun i => (i.zero, i.size, decide (i.bytes ≤ 4096))) = some (some (.agg #[.string .empty, .slice none 0 0] : Value), 2, true) := by kernel_rfl
theorem vt_191_ok : XTOk Tryz.prog 191 vt_191 := xt_of (zv := .agg #[.string .empty, .slice none 0 0]) Tryz.sizeOf191 Tryz.isAgg191 Tryz.zeroValue191 Tryz.underlying191 vt_191_i (fun _ _ _ _ => XV.R.a_all2.2 ⟨[.string .empty, .slice none 0 0], rfl, .cons (by simp only [XV.R]; exact ⟨rfl, by simp⟩) (.cons (by simp only [XV.R]) (.nil))⟩) rfl rfl (fun h => by cases h)
def vt_206 : XT := ⟨1, false, .ns, .slice 189⟩
theorem vt_206_i : (Tryz.prog.info? 206).map (fun i => (i.zero, i.size, decide (i.bytes ≤ 4096))) = some (some (.slice none 0 0 : Value), 1, true) := by kernel_rfl
theorem vt_206_ok : XTOk Tryz.prog 206 vt_206 := xt_of (zv := .slice none 0 0) Tryz.sizeOf206 Tryz.isAgg206 Tryz.zeroValue206 Tryz.underlying206 vt_206_i (fun _ _ _ _ => show XV.R _ _ _ _ (.ns) _ from (by simp only [XV.R])) rfl rfl (fun _ => rfl)
def vt_268 : XT := ⟨256, true, .a (List.replicate 256 (.b false)), .array 256 4⟩
set_option maxRecDepth 100000
theorem vz_268 : Tryz.zeroCells268 = (List.replicate 256 (.bool false : Value)).toArray := by kernel_rfl
theorem vt_268_i : (Tryz.prog.info? 268).map (fun i => (i.zero, i.size, decide (i.bytes ≤ 4096))) = some (some (.agg (List.replicate 256 (.bool false)).toArray : Value), 256, true) := by kernel_rfl
theorem vt_268_ok : XTOk Tryz.prog 268 vt_268 := xt_of (zv := .agg (List.replicate 256 (.bool false)).toArray) Tryz.sizeOf268 Tryz.isAgg268 (fun w => by rw [Tryz.zeroValue268 w, vz_268]) Tryz.underlying268 vt_268_i (fun _ _ _ _ => XV.R.a_all2.2 ⟨List.replicate 256 (.bool false), rfl, all2_rep (by simp only [XV.R]) _⟩) rfl rfl (fun h => by cases h)
def vtt : List (Nat × XT) := [(3, vt_3), (4, vt_4), (5, vt_5), (9, vt_9), (22, vt_22), (24, vt_24), (43, vt_43), (46, vt_46), (66, vt_66), (90, vt_90), (93, vt_93), (94, vt_94), (95, vt_95), (97, vt_97), (101, vt_101), (140, vt_140), (142, vt_142), (150, vt_150), (180, vt_180), (182, vt_182), (183, vt_183), (189, vt_189), (191, vt_191), (206, vt_206), (268, vt_268)]
theorem vtt_ok : ∀ x ∈ vtt, XTOk Tryz.prog x.1 x.2 := by
  intro x hx
  simp only [vtt, List.mem_cons, List.not_mem_nil, or_false] at hx
  rcases hx with rfl | rfl | rfl | rfl | rfl | rfl | rfl | rfl | rfl | rfl | rfl | rfl | rfl | rfl | rfl | rfl | rfl | rfl | rfl | rfl | rfl | rfl | rfl | rfl | rfl
  · exact vt_3_ok
  · exact vt_4_ok
  · exact vt_5_ok
  · exact vt_9_ok
  · exact vt_22_ok
  · exact vt_24_ok
  · exact vt_43_ok
  · exact vt_46_ok
  · exact vt_66_ok
  · exact vt_90_ok
  · exact vt_93_ok
  · exact vt_94_ok
  · exact vt_95_ok
  · exact vt_97_ok
  · exact vt_101_ok
  · exact vt_140_ok
  · exact vt_142_ok
  · exact vt_150_ok
  · exact vt_180_ok
  · exact vt_182_ok
  · exact vt_183_ok
  · exact vt_189_ok
  · exact vt_191_ok
  · exact vt_206_ok
  · exact vt_268_ok
def vcon : List (Nat × (List XV → Option XV)) := [(64, c_of), (68, c_add), (67, c_mul), (117, c_cmp), (119, c_trim), (125, c_small), (66, c_norm), (63, c_rof), (27, c_int), (26, c_radd), (42, c_rsub), (49, c_rmul), (25, c_rdiv)]
theorem vcon_ok : ∀ x ∈ vcon, ConOk Tryz.prog x.1 x.2 := by
  intro x hx
  simp only [vcon, List.mem_cons, List.not_mem_nil, or_false] at hx
  rcases hx with rfl | rfl | rfl | rfl | rfl | rfl | rfl | rfl | rfl | rfl | rfl | rfl | rfl
  · exact con_nof s_nat_Of
  · exact con_add s_nat_Add
  · exact con_mul s_nat_Mul
  · exact con_cmp s_nat_Cmp
  · exact con_trim s_nat_Trim
  · exact con_small
  · exact con_norm s_rat_Norm
  · exact con_rof s_rat_Of
  · exact con_rint s_rat_Int
  · exact con_radd s_rat_Add
  · exact con_rsub s_rat_Sub
  · exact con_rmul s_rat_Mul
  · exact con_rdiv s_rat_Div
theorem car_1 : Carried Tryz.prog 318 Extern.BytealgIndexByte.indexByte := fun _ _ _ hr => call_ext Tryz.func318 (by kernel_rfl) (by kernel_rfl) (by kernel_rfl) (by kernel_rfl) hr
theorem car_2 : Carried Tryz.prog 359 Extern.BytealgCompare.compare := fun _ _ _ hr => call_ext Tryz.func359 (by kernel_rfl) (by kernel_rfl) (by kernel_rfl) (by kernel_rfl) hr
theorem car_3 : Carried Tryz.prog 371 Extern.BytealgCount.count := fun _ _ _ hr => call_ext Tryz.func371 (by kernel_rfl) (by kernel_rfl) (by kernel_rfl) (by kernel_rfl) hr
theorem car_4 : Carried Tryz.prog 183 Extern.AbiNoEscape.same := fun _ _ _ hr => call_ext Tryz.func183 (by kernel_rfl) (by kernel_rfl) (by kernel_rfl) (by kernel_rfl) hr
theorem car_5 : Carried Tryz.prog 266 Extern.BytealgIndex.index := fun _ _ _ hr => call_ext Tryz.func266 (by kernel_rfl) (by kernel_rfl) (by kernel_rfl) (by kernel_rfl) hr
theorem gml_at (w : World) : (globalAddr "internal/bytealg.MaxLen").run Tryz.prog w = .ok ⟨3, 0, none⟩ w := by
  have h : Tryz.prog.globals.findIdx? (·.name == "internal/bytealg.MaxLen") = some 3 := by kernel_rfl
  simp only [globalAddr, Sem.run_bind, run_program, Result.andThen, h, Sem.run_pure]
def vext : List (Nat × Nat) := [(318, 1), (359, 2), (371, 3), (183, 4), (266, 5)]
theorem vext_ok (mb : Bool) : ∀ x ∈ vext, ExtOk Tryz.prog 3 mb x.1 x.2 := by
  intro x hx
  simp only [vext, List.mem_cons, List.not_mem_nil, or_false] at hx
  rcases hx with rfl | rfl | rfl | rfl | rfl
  · exact ext_1 car_1
  · exact ext_2 car_2
  · exact ext_3 car_3
  · exact ext_4 car_4
  · exact ext_5 car_5 gml_at
def xe (fn : Nat → Option Func) (mb : Bool) : XE := { tt := lookF vtt, fn, con := lookF vcon, ext := lookE vext, gml := 3, mb, vis := fun u => Nat.beq u 97, one := fun e => Nat.beq e 5 }
def isT : Option (XV × XH) → Bool
  | some (.b true, _) => true
  | _ => false
theorem vis_b : liesAt Tryz.prog Tryz.prog.depth 97 (2 / Tryz.prog.cellsOf 97) 0 97 1 = true := by kernel_rfl
theorem one_u8 : Tryz.prog.cellsOf 5 = 1 := by kernel_rfl
set_option maxRecDepth 100000 in
theorem known_x : ∃ fn : List (Nat × Func), (∀ x ∈ fn, Tryz.prog.funcs[x.1]? = some x.2 ∧ ∀ (args : Array Value) (w : World), (callFunc x.1 args).run Tryz.prog w = .ok (.enter x.1 args) w) ∧
    isT (bodyX (xe (lookF fn) true) (evalX (xe (lookF fn) true) 3000 false) 11 [] ⟨0, []⟩) = true ∧ isT (bodyX (xe (lookF fn) false) (evalX (xe (lookF fn) false) 3000 false) 11 [] ⟨0, []⟩) = true := by
  refine ⟨[(11, Tryz.f11), (126, Tryz.f126), (128, Tryz.f128), (129, Tryz.f129), (130, Tryz.f130), (131, Tryz.f131), (133, Tryz.f133), (134, Tryz.f134), (141, Tryz.f141), (142, Tryz.f142), (180, Tryz.f180), (182, Tryz.f182), (185, Tryz.f185), (186, Tryz.f186), (187, Tryz.f187), (200, Tryz.f200), (204, Tryz.f204), (207, Tryz.f207), (222, Tryz.f222), (225, Tryz.f225), (227, Tryz.f227), (228, Tryz.f228), (229, Tryz.f229), (230, Tryz.f230), (232, Tryz.f232), (236, Tryz.f236), (242, Tryz.f242), (243, Tryz.f243), (245, Tryz.f245), (246, Tryz.f246), (248, Tryz.f248), (250, Tryz.f250), (265, Tryz.f265), (273, Tryz.f273), (274, Tryz.f274), (275, Tryz.f275), (276, Tryz.f276), (280, Tryz.f280), (281, Tryz.f281), (282, Tryz.f282), (287, Tryz.f287), (298, Tryz.f298), (299, Tryz.f299), (300, Tryz.f300), (301, Tryz.f301), (303, Tryz.f303), (304, Tryz.f304), (325, Tryz.f325), (328, Tryz.f328), (33, Tryz.f33), (336, Tryz.f336), (337, Tryz.f337), (342, Tryz.f342), (351, Tryz.f351), (358, Tryz.f358), (364, Tryz.f364), (71, Tryz.f71), (74, Tryz.f74), (79, Tryz.f79), (80, Tryz.f80), (81, Tryz.f81), (82, Tryz.f82), (84, Tryz.f84), (85, Tryz.f85)], ?_, ?_, ?_⟩
  · intro x hx
    simp only [List.mem_cons, List.not_mem_nil, or_false] at hx
    rcases hx with rfl | rfl | rfl | rfl | rfl | rfl | rfl | rfl | rfl | rfl | rfl | rfl | rfl | rfl | rfl | rfl | rfl | rfl | rfl | rfl | rfl | rfl | rfl | rfl | rfl | rfl | rfl | rfl | rfl | rfl | rfl | rfl | rfl | rfl | rfl | rfl | rfl | rfl | rfl | rfl | rfl | rfl | rfl | rfl | rfl | rfl | rfl | rfl | rfl | rfl | rfl | rfl | rfl | rfl | rfl | rfl | rfl | rfl | rfl | rfl | rfl | rfl | rfl | rfl
    · exact ⟨Tryz.func11, Tryz.call11⟩
    · exact ⟨Tryz.func126, Tryz.call126⟩
    · exact ⟨Tryz.func128, Tryz.call128⟩
    · exact ⟨Tryz.func129, Tryz.call129⟩
    · exact ⟨Tryz.func130, Tryz.call130⟩
    · exact ⟨Tryz.func131, Tryz.call131⟩
    · exact ⟨Tryz.func133, Tryz.call133⟩
    · exact ⟨Tryz.func134, Tryz.call134⟩
    · exact ⟨Tryz.func141, Tryz.call141⟩
    · exact ⟨Tryz.func142, Tryz.call142⟩
    · exact ⟨Tryz.func180, Tryz.call180⟩
    · exact ⟨Tryz.func182, Tryz.call182⟩
    · exact ⟨Tryz.func185, Tryz.call185⟩
    · exact ⟨Tryz.func186, Tryz.call186⟩
    · exact ⟨Tryz.func187, Tryz.call187⟩
    · exact ⟨Tryz.func200, Tryz.call200⟩
    · exact ⟨Tryz.func204, Tryz.call204⟩
    · exact ⟨Tryz.func207, Tryz.call207⟩
    · exact ⟨Tryz.func222, Tryz.call222⟩
    · exact ⟨Tryz.func225, Tryz.call225⟩
    · exact ⟨Tryz.func227, Tryz.call227⟩
    · exact ⟨Tryz.func228, Tryz.call228⟩
    · exact ⟨Tryz.func229, Tryz.call229⟩
    · exact ⟨Tryz.func230, Tryz.call230⟩
    · exact ⟨Tryz.func232, Tryz.call232⟩
    · exact ⟨Tryz.func236, Tryz.call236⟩
    · exact ⟨Tryz.func242, Tryz.call242⟩
    · exact ⟨Tryz.func243, Tryz.call243⟩
    · exact ⟨Tryz.func245, Tryz.call245⟩
    · exact ⟨Tryz.func246, Tryz.call246⟩
    · exact ⟨Tryz.func248, Tryz.call248⟩
    · exact ⟨Tryz.func250, Tryz.call250⟩
    · exact ⟨Tryz.func265, Tryz.call265⟩
    · exact ⟨Tryz.func273, Tryz.call273⟩
    · exact ⟨Tryz.func274, Tryz.call274⟩
    · exact ⟨Tryz.func275, Tryz.call275⟩
    · exact ⟨Tryz.func276, Tryz.call276⟩
    · exact ⟨Tryz.func280, Tryz.call280⟩
    · exact ⟨Tryz.func281, Tryz.call281⟩
    · exact ⟨Tryz.func282, Tryz.call282⟩
    · exact ⟨Tryz.func287, Tryz.call287⟩
    · exact ⟨Tryz.func298, Tryz.call298⟩
    · exact ⟨Tryz.func299, Tryz.call299⟩
    · exact ⟨Tryz.func300, Tryz.call300⟩
    · exact ⟨Tryz.func301, Tryz.call301⟩
    · exact ⟨Tryz.func303, Tryz.call303⟩
    · exact ⟨Tryz.func304, Tryz.call304⟩
    · exact ⟨Tryz.func325, Tryz.call325⟩
    · exact ⟨Tryz.func328, Tryz.call328⟩
    · exact ⟨Tryz.func33, Tryz.call33⟩
    · exact ⟨Tryz.func336, Tryz.call336⟩
    · exact ⟨Tryz.func337, Tryz.call337⟩
    · exact ⟨Tryz.func342, Tryz.call342⟩
    · exact ⟨Tryz.func351, Tryz.call351⟩
    · exact ⟨Tryz.func358, Tryz.call358⟩
    · exact ⟨Tryz.func364, Tryz.call364⟩
    · exact ⟨Tryz.func71, Tryz.call71⟩
    · exact ⟨Tryz.func74, Tryz.call74⟩
    · exact ⟨Tryz.func79, Tryz.call79⟩
    · exact ⟨Tryz.func80, Tryz.call80⟩
    · exact ⟨Tryz.func81, Tryz.call81⟩
    · exact ⟨Tryz.func82, Tryz.call82⟩
    · exact ⟨Tryz.func84, Tryz.call84⟩
    · exact ⟨Tryz.func85, Tryz.call85⟩
  · kernel_rfl
  · kernel_rfl
theorem known_calls (w : World) (μ : Int) (hml : w.cell? ⟨3, 0, none⟩ = some (.int .i64 μ)) (hlt : 3 < w.heap.size) :
    Calls Tryz.prog 11 #[] w fun e w' => e = .returned (.bool true) ∧ Below w.heap.size w w' := by
  obtain ⟨fn, hfn, h1, h2⟩ := known_x
  have h : isT (bodyX (xe (lookF fn) (decide (3 ≤ μ))) (evalX (xe (lookF fn) (decide (3 ≤ μ))) 3000 false) 11 [] ⟨0, []⟩) = true := by
    cases decide (3 ≤ μ)
    · exact h2
    · exact h1
  have C : XC Tryz.prog (xe (lookF fn) (decide (3 ≤ μ))) μ w := by
    refine ⟨⟨fun t ti h => lookF_ok vtt_ok h, fun f fd h => lookF_ok (R := fun f fd => Tryz.prog.funcs[f]? = some fd ∧ ∀ (args : Array Value) (w : World), (callFunc f args).run Tryz.prog w = .ok (.enter f args) w) hfn h, fun f d h => lookF_ok vcon_ok h, lookE_ok (vext_ok _), rfl, fun u hu => ?_, fun e he => ?_⟩, hml, hlt, mixed⟩
    · have := Nat.eq_of_beq_eq_true hu
      subst this
      exact vis_b
    · have := Nat.eq_of_beq_eq_true he
      subst this
      exact one_u8
  cases hb : bodyX (xe (lookF fn) (decide (3 ≤ μ))) (evalX (xe (lookF fn) (decide (3 ≤ μ))) 3000 false) 11 [] ⟨0, []⟩ with
  | none => rw [hb] at h; cases h
  | some r =>
    obtain ⟨v, h'⟩ := r
    rw [hb] at h
    have hv : v = .b true := by
      unfold isT at h
      split at h
      · rename_i heq; cases heq; rfl
      · cases h
    subst hv
    have H : HR w ⟨0, []⟩ ⟨fun _ => 0, fun _ => 0, μ⟩ w := ⟨Below.refl _ _, fun _ _ hg => by simp [XH.get, lookX] at hg, fun _ _ hg => by simp [XH.get, lookX] at hg, fun _ _ _ _ hg => by simp [XH.get, lookX] at hg, fun _ _ => rfl⟩
    have := body_sound (g := ⟨fun _ => 0, fun _ => 0, μ⟩) C (evalX_sound C 3000 false).1 rfl H .nil hb
    refine Calls.mono (callsIn_wide.1 this) fun e w' hw => ?_
    obtain ⟨u, he, g', H', m', hu⟩ := hw
    have hu : u = .bool true := xbool hu
    subst hu
    exact ⟨he, H'.below⟩
end Go.Proofs.YtocpmekblkfdiaaGreatDoor
