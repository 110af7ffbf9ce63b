/- Digits as texts hold them: plain facts, no program in sight. No condition. Strings as arguments; nat.small, strings.HasPrefix, math/bits.Mul, strings.Repeat of a nought, by the abstract walk. Conditions: at most twelve noughts. slices.Reverse over a row of bytes of one's own, nat.Print, by the abstract walk. Condition: a number below 10^18. -/
import Derived.Test.YtocpmekblkfdiaaGreatDoorAa
import Derived.Test.YtocpmekblkfdiaaGreatDoorBz
import Derived.Test.YtocpmekblkfdiaaGreatDoorGK
import Derived.Test.YtocpmekblkfdiaaGreatDoorKa
import Derived.Test.YtocpmekblkfdiaaGreatDoorCb
namespace Go.Proofs.YtocpmekblkfdiaaGreatDoor
set_option linter.unusedVariables false
set_option linter.unusedSimpArgs false
/-- the lowest m digits of u, as signs, the lowest first -/
def low (m u : Nat) : List Nat := (List.range m).map fun i => 48 + u / 10 ^ i % 10
theorem low_len (m u : Nat) : (low m u).length = m := by simp [low]
theorem low_get {m u i : Nat} (h : i < m) : (low m u)[i]? = some (48 + u / 10 ^ i % 10) := by
  simp [low, h]
theorem low_succ (m u : Nat) : low (m + 1) u = low m u ++ [48 + u / 10 ^ m % 10] := by simp [low, List.range_succ]
theorem low_nil (u : Nat) : low 0 u = [] := rfl
theorem low_add (n u : Nat) : ∀ m, low (n + m) u = low n u ++ low m (u / 10 ^ n)
  | 0 => by simp [low_nil]
  | m + 1 => by
    rw [← Nat.add_assoc, low_succ, low_add n u m, low_succ, List.append_assoc, Nat.div_div_eq_div_mul, ← Nat.pow_add]
theorem low_one (m u : Nat) : low (m + 1) u = (48 + u % 10) :: low m (u / 10) := by
  rw [Nat.add_comm, low_add 1 u m]
  simp [low]
theorem low_zero (m : Nat) : low m 0 = List.replicate m 48 := by
  induction m with
  | zero => rfl
  | succ m ih => rw [low_succ, ih, List.replicate_succ']; simp
theorem low_dig {m u x : Nat} (h : x ∈ low m u) : 48 ≤ x ∧ x ≤ 57 := by
  simp only [low, List.mem_map] at h
  obtain ⟨i, _, rfl⟩ := h
  omega
/-- how many digits a number has, one at least -/
def nd (u : Nat) : Nat := if u < 10 then 1 else nd (u / 10) + 1
  termination_by u
  decreasing_by omega
theorem nd_small {u : Nat} (h : u < 10) : nd u = 1 := by rw [nd, if_pos h]
theorem nd_big {u : Nat} (h : ¬ u < 10) : nd u = nd (u / 10) + 1 := by rw [nd, if_neg h]
theorem nd_pos (u : Nat) : 1 ≤ nd u := by
  by_cases h : u < 10
  · rw [nd_small h]; omega
  · rw [nd_big h]; omega
theorem nd_lt : ∀ u : Nat, u < 10 ^ nd u := by
  intro u
  induction u using Nat.strongRecOn with
  | _ u ih =>
    by_cases h : u < 10
    · rw [nd_small h]; omega
    · rw [nd_big h, Nat.pow_succ]
      have := ih (u / 10) (by omega)
      omega
theorem nd_least : ∀ (m u : Nat), 1 ≤ m → u < 10 ^ m → nd u ≤ m
  | 0, _, h, _ => by omega
  | m + 1, u, _, h => by
    by_cases hu : u < 10
    · rw [nd_small hu]; omega
    · rw [nd_big hu]
      have h1 : 1 ≤ m := by
        rcases Nat.eq_zero_or_pos m with e | e
        · subst e; omega
        · exact e
      have := nd_least m (u / 10) h1 (by rw [Nat.pow_succ] at h; omega)
      omega
theorem nd_is {m u : Nat} (h1 : 1 ≤ m) (h2 : u < 10 ^ m) (h3 : m = 1 ∨ 10 ^ (m - 1) ≤ u) : nd u = m := by
  have hle := nd_least m u h1 h2
  rcases Nat.lt_or_ge (nd u) m with h | h
  · have hp := nd_pos u
    have hu := nd_lt u
    rcases h3 with e | e
    · omega
    · have : 10 ^ nd u ≤ 10 ^ (m - 1) := Nat.pow_le_pow_right (by omega) (by omega)
      omega
  · omega
/-- a row of digits as a number -/
def numL (l : List Nat) : Nat := l.foldl (fun n c => n * 10 + (c - 48)) 0
theorem numL_nil : numL [] = 0 := rfl
theorem numL_snoc (l : List Nat) (c : Nat) : numL (l ++ [c]) = numL l * 10 + (c - 48) := by simp [numL]
theorem numL_take {l : List Nat} {i : Nat} (h : i < l.length) : numL (l.take (i + 1)) = numL (l.take i) * 10 + (l.getD i 0 - 48) := by
  rw [List.take_add_one, List.getElem?_eq_getElem h, Option.toList_some, numL_snoc]
  simp [List.getD_eq_getElem?_getD, List.getElem?_eq_getElem h]
theorem numL_low : ∀ m v : Nat, numL (low m v).reverse = v % 10 ^ m
  | 0, v => by simp [low_nil, numL_nil, Nat.mod_one]
  | m + 1, v => by
    rw [low_one, List.reverse_cons, numL_snoc, numL_low m (v / 10), Nat.pow_succ', Nat.mod_mul]
    omega
theorem numL_lt {l : List Nat} (h : ∀ x ∈ l, 48 ≤ x ∧ x ≤ 57) : numL l < 10 ^ l.length := by
  suffices ∀ (l : List Nat) (n k : Nat), (∀ x ∈ l, 48 ≤ x ∧ x ≤ 57) → n < 10 ^ k → l.foldl (fun n c => n * 10 + (c - 48)) n < 10 ^ (k + l.length) by
    have := this l 0 0 h (by simp)
    simpa [numL] using this
  intro l
  induction l with
  | nil => intro n k _ h; simpa using h
  | cons x l ih =>
    intro n k hx hn
    have h1 := hx x (by simp)
    simp only [List.foldl_cons, List.length_cons]
    have := ih (n * 10 + (x - 48)) (k + 1) (fun y hy => hx y (by simp [hy])) (by rw [Nat.pow_succ]; omega)
    rwa [show k + (l.length + 1) = k + 1 + l.length by omega]
/-- digits with a point ahead of the last so many -/
def ptL (l : List Nat) (n : Nat) : List Nat :=
  if n = 0 then l else
    ((List.replicate (n + 1 - l.length) 48 ++ l).take ((List.replicate (n + 1 - l.length) 48 ++ l).length - n)) ++ [46] ++ (List.replicate (n + 1 - l.length) 48 ++ l).drop ((List.replicate (n + 1 - l.length) 48 ++ l).length - n)
/-- how many digits stand ahead of the point -/
def fxW (u n : Nat) : Nat := max (nd u) (n + 1) - n
/-- u units of the n-th place behind the point, as a text -/
def fx (u n : Nat) : List Nat := (low (fxW u n) (u / 10 ^ n)).reverse ++ (if n = 0 then [] else 46 :: (low n u).reverse)
theorem fxW_pos (u n : Nat) : 1 ≤ fxW u n := by unfold fxW; omega
theorem fxW_lt (u n : Nat) : u / 10 ^ n < 10 ^ fxW u n := by
  unfold fxW
  rw [Nat.div_lt_iff_lt_mul (Nat.pow_pos (by omega)), ← Nat.pow_add]
  have h := nd_lt u
  have : 10 ^ nd u ≤ 10 ^ (max (nd u) (n + 1) - n + n) := Nat.pow_le_pow_right (by omega) (by omega)
  omega
theorem pad_low {m u k : Nat} (h : nd u ≤ m) (hk : k = m - nd u) : List.replicate k 48 ++ (low (nd u) u).reverse = (low m u).reverse := by
  subst hk
  have e : m = nd u + (m - nd u) := by omega
  conv => rhs; rw [e, low_add, Nat.div_eq_of_lt (nd_lt u), low_zero, List.reverse_append, List.reverse_replicate]
theorem ptL_low (u n : Nat) : ptL (low (nd u) u).reverse n = fx u n := by
  unfold ptL fx
  have hp := nd_pos u
  by_cases h : n = 0
  · subst h
    simp [fxW, Nat.max_eq_left hp]
  · rw [if_neg h, if_neg h]
    have e : List.replicate (n + 1 - (low (nd u) u).reverse.length) 48 ++ (low (nd u) u).reverse = (low (max (nd u) (n + 1)) u).reverse :=
      pad_low (by omega) (by rw [List.length_reverse, low_len]; omega)
    rw [e, List.length_reverse, low_len]
    have e2 : max (nd u) (n + 1) = n + fxW u n := by unfold fxW; omega
    have e3 : max (nd u) (n + 1) - n = (low (fxW u n) (u / 10 ^ n)).reverse.length := by rw [List.length_reverse, low_len]; rfl
    rw [e3, e2, low_add, List.reverse_append, List.take_left, List.drop_left]
    simp
def isD (x : Nat) : Bool := decide (48 ≤ x) && decide (x ≤ 57)
/-- how many digits stand at the beginning -/
def runN : List Nat → Nat
  | [] => 0
  | x :: l => if isD x = true then runN l + 1 else 0
theorem isD_iff {x : Nat} : isD x = true ↔ 48 ≤ x ∧ x ≤ 57 := by simp [isD]
theorem runN_app : ∀ (a b : List Nat), (∀ x ∈ a, 48 ≤ x ∧ x ≤ 57) → runN (a ++ b) = a.length + runN b
  | [], b, _ => by simp
  | x :: a, b, h => by
    have h1 := isD_iff.2 (h x (by simp))
    rw [List.cons_append, runN, if_pos h1, runN_app a b (fun y hy => h y (by simp [hy])), List.length_cons]
    omega
theorem runN_all (a : List Nat) (h : ∀ x ∈ a, 48 ≤ x ∧ x ≤ 57) : runN a = a.length := by
  have := runN_app a [] h
  simpa [runN] using this
theorem runN_drop : ∀ (l : List Nat) (i : Nat), (∀ x ∈ l.take i, isD x = true) → i ≤ l.length → runN l = i + runN (l.drop i)
  | l, 0, _, _ => by simp
  | [], i + 1, _, h => by simp at h
  | x :: l, i + 1, h, hl => by
    rw [runN, if_pos (h x (by simp)), List.drop_succ_cons, runN_drop l i (fun y hy => h y (by simp [hy])) (by simpa using hl)]
    omega
theorem runN_take : ∀ (l : List Nat) , ∀ x ∈ l.take (runN l), isD x = true
  | [] => by simp
  | y :: l => by
    intro x hx
    unfold runN at hx
    split at hx
    · rename_i h
      rw [List.take_succ_cons] at hx
      rcases List.mem_cons.1 hx with rfl | hx
      · exact h
      · exact runN_take l x hx
    · simp at hx
/-- where the last point stands; i is the place of the first sign, a what is known so far -/
def atDot : List Nat → Int → Int → Int
  | [], _, a => a
  | c :: l, i, a => atDot l (i + 1) (if c = 46 then i else a)
theorem atDot_none : ∀ (l : List Nat) (i a : Int), (∀ x ∈ l, x ≠ 46) → atDot l i a = a
  | [], _, _, _ => rfl
  | c :: l, i, a, h => by
    rw [atDot, if_neg (h c (by simp)), atDot_none l _ _ (fun x hx => h x (by simp [hx]))]
theorem atDot_app : ∀ (l m : List Nat) (i a : Int), atDot (l ++ m) i a = atDot m (i + l.length) (atDot l i a)
  | [], m, i, a => by simp [atDot]
  | c :: l, m, i, a => by
    rw [List.cons_append, atDot, atDot_app l m, atDot]
    simp only [List.length_cons]
    rw [show i + 1 + (l.length : Int) = i + ((l.length + 1 : Nat) : Int) by omega]
theorem dig_ne {l : List Nat} (h : ∀ x ∈ l, 48 ≤ x ∧ x ≤ 57) {c : Nat} (hc : c < 48) : ∀ x ∈ l, x ≠ c := fun x hx e => by have := h x hx; omega
theorem rev_dig {m u : Nat} : ∀ x ∈ (low m u).reverse, 48 ≤ x ∧ x ≤ 57 := fun x hx => low_dig (List.mem_reverse.1 hx)
theorem fx_dot (u n : Nat) : atDot (fx u n) 0 (-1) = if n = 0 then -1 else (fxW u n : Int) := by
  unfold fx
  rw [atDot_app, atDot_none _ _ _ (dig_ne rev_dig (by omega)), List.length_reverse, low_len]
  split
  · rfl
  · rw [atDot, if_pos rfl, atDot_none _ _ _ (dig_ne rev_dig (by omega))]
    omega
theorem fx_slash (u n : Nat) : ∀ x ∈ fx u n, x ≠ 47 := by
  intro x hx
  unfold fx at hx
  rcases List.mem_append.1 hx with h | h
  · have := rev_dig x h; omega
  · split at h
    · cases h
    · rcases List.mem_cons.1 h with rfl | h
      · omega
      · have := rev_dig x h; omega
theorem fx_len (u n : Nat) : (fx u n).length = fxW u n + if n = 0 then 0 else n + 1 := by
  unfold fx
  rw [List.length_append, List.length_reverse, low_len]
  split <;> simp [low_len]
theorem fx_run (u n : Nat) : runN (fx u n) = fxW u n := by
  unfold fx
  rw [runN_app _ _ rev_dig, List.length_reverse, low_len]
  split
  · rfl
  · simp [runN, isD]
theorem fx_take (u n : Nat) : (fx u n).take (fxW u n) = (low (fxW u n) (u / 10 ^ n)).reverse := by
  unfold fx
  exact List.take_left' (by rw [List.length_reverse, low_len])
theorem fx_drop (u n : Nat) : (fx u n).drop (fxW u n) = if n = 0 then [] else 46 :: (low n u).reverse := by
  unfold fx
  exact List.drop_left' (by rw [List.length_reverse, low_len])
theorem fx_whole (u n : Nat) : numL ((fx u n).take (fxW u n)) = u / 10 ^ n := by
  rw [fx_take, numL_low, Nat.mod_eq_of_lt (fxW_lt u n)]
/-- how often d is in N, to the nearest; of two as near the even one -/
def halfEven (N d : Nat) : Nat := if d < 2 * (N % d) ∨ 2 * (N % d) = d ∧ N / d % 2 = 1 then N / d + 1 else N / d
theorem halfEven_lo {N d : Nat} (h : 0 < d) : 2 * N ≤ 2 * (halfEven N d * d) + d := by
  have h1 : N / d * d + N % d = N := by rw [Nat.mul_comm]; exact Nat.div_add_mod N d
  have h2 := Nat.mod_lt N h
  unfold halfEven
  split
  · rw [Nat.add_mul, Nat.one_mul]
    generalize N / d * d = x at *
    generalize N % d = y at *
    omega
  · rename_i hc
    have hc : ¬ d < 2 * (N % d) := fun h => hc (.inl h)
    generalize N / d * d = x at *
    generalize N % d = y at *
    omega
theorem halfEven_hi {N d : Nat} (h : 0 < d) : 2 * (halfEven N d * d) ≤ 2 * N + d := by
  have h1 : N / d * d + N % d = N := by rw [Nat.mul_comm]; exact Nat.div_add_mod N d
  have h2 := Nat.mod_lt N h
  unfold halfEven
  split
  · rename_i hc
    have hc : d ≤ 2 * (N % d) := by rcases hc with h | h <;> omega
    rw [Nat.add_mul, Nat.one_mul]
    generalize N / d * d = x at *
    generalize N % d = y at *
    omega
  · generalize N / d * d = x at *
    generalize N % d = y at *
    omega
end Go.Proofs.YtocpmekblkfdiaaGreatDoor
namespace Go.Proofs.YtocpmekblkfdiaaGreatDoor
open Go.RowKit
set_option linter.unusedSimpArgs false
set_option linter.unusedVariables false
attribute [go_sem] Nat.reduceBEq Nat.reduceBNe Nat.reduceLT Nat.reduceLeDiff Nat.reduceAdd Nat.reduceSub Nat.reduceMul Nat.reduceEqDiff Int.reduceNeg Int.reduceAdd Int.reduceLT Int.reduceLE Int.reduceToNat Int.reduceEq Int.reduceMul Int.reduceSub Int.reduceToNat decide_true decide_false
def strV (l : List Nat) : AV := .one (.cel (.str l))
def paStr : AV → Option (List Nat)
  | .one (.cel (.str l)) => some l
  | _ => none
def strOk (l : List Nat) : Prop := ∀ x ∈ l, x < 256
def aStr : Arg (List Nat) where
  pa := paStr
  un := strV
  va := strOk
  ok := by
    intro v x h X w u hu
    unfold paStr at h
    split at h
    · cases h; exact hu
    · cases h
  st := fun _ => rfl
  vd := fun x X w u hu => by
    have h : u = .string (byt x) ∧ strOk x := hu
    exact h.2
attribute [go_sem] aStr strV paStr Option.toList_none Option.toList_some List.append_nil
def natIntV (n : Nat) (r : Int) : AV := .tup [.cel (.lim none (limbs n)), .cel (.int .u32 r)]
attribute [go_sem] natIntV
def d_nat_small : Den := den2 aLim aU32 (fun a n => a.length ≤ 8000000000000 ∧ 0 < n ∧ n < 4294967296) fun a n => natIntV (val a / n.toNat) ((val a % n.toNat : Nat) : Int)
attribute [go_sem] d_nat_small
theorem s_nat_small : Sound Tryz.prog 125 d_nat_small :=
  told2 Tryz.call125 (fun _ _ => rfl) fun a n X w u v h hX hu hv => by
    obtain ⟨m, rfl⟩ := Int.eq_ofNat_of_zero_le (show 0 ≤ n by omega)
    have e : v = .int .u32 (m : Int) := hv
    subst e
    refine (natSmall w u a 0 m (lim_nt hu) (by omega) (by omega) h.1).mono ?_
    rintro e w' ⟨v, rfl, h1, h2⟩
    exact ⟨_, rfl, ⟨[v, .int .u32 ((val a % m : Nat) : Int)], rfl, .cons (nat_P h1 hX) (.cons rfl .nil)⟩, h2⟩
def prefL (s p : List Nat) : Bool := decide (p.length ≤ s.length) && decide (s.take p.length = p)
theorem unbyt_lit (l : List UInt8) : unbyt ⟨l.toArray⟩ = l.map UInt8.toNat := rfl
theorem prefL_app (a : UInt8) (l m : List UInt8) : prefL (unbyt ⟨((a :: l).append m).toArray⟩) [48] = decide (a.toNat = 48) := by
  show prefL (a.toNat :: (l.append m).map UInt8.toNat) [48] = _
  simp [prefL]
theorem prefL_lit (a : UInt8) (l : List UInt8) : prefL (unbyt ⟨(a :: l).toArray⟩) [48] = decide (a.toNat = 48) := by
  show prefL (a.toNat :: l.map UInt8.toNat) [48] = _
  simp [prefL]
def d_internal_stringslite_HasPrefix : Den := den2 aStr aStr (fun _ _ => True) fun s p => boolV (prefL s p)
attribute [go_sem] d_internal_stringslite_HasPrefix
set_option maxRecDepth 100000 in
set_option maxHeartbeats 1000000 in
theorem s_internal_stringslite_HasPrefix : Sound Tryz.prog 222 d_internal_stringslite_HasPrefix := by
  refine sound2 (fz := nofz) (l := []) TT_ok trivial mixed Tryz.func222 Tryz.ntmps222 Tryz.results222 Tryz.call222 rfl (by omega) (fun _ _ => rfl) ?_
  intro a b hp ha hb
  rw [codeK_start]
  unfold prefL
  by_cases h : b.length ≤ a.length
  · simp only [go_sem, show (((b.length : Nat) : Int) ≤ ((a.length : Nat) : Int)) = True from eq_true (by omega), show decide (b.length ≤ a.length) = true from decide_eq_true h, Int.toNat_natCast, ↓reduceIte]
    all_goals ((try and_intros) <;> first | exact trivial | omega | (show okDraw _ _ = true; kernel_rfl) | assumption)
  · simp only [go_sem, show (((b.length : Nat) : Int) ≤ ((a.length : Nat) : Int)) = False from eq_false (by omega), show decide (b.length ≤ a.length) = false from decide_eq_false h, ↓reduceIte]
    all_goals ((try and_intros) <;> first | exact trivial | omega | (show okDraw _ _ = true; kernel_rfl) | assumption)
def d_strings_HasPrefix : Den := den2 aStr aStr (fun _ _ => True) fun s p => boolV (prefL s p)
attribute [go_sem] d_strings_HasPrefix
set_option maxRecDepth 100000 in
set_option maxHeartbeats 1000000 in
theorem s_strings_HasPrefix : Sound Tryz.prog 175 d_strings_HasPrefix := by
  refine sound2 (fz := nofz) (l := [(222, d_internal_stringslite_HasPrefix)]) TT_ok ⟨s_internal_stringslite_HasPrefix, trivial⟩ mixed Tryz.func175 Tryz.ntmps175 Tryz.results175 Tryz.call175 rfl (by omega) (fun _ _ => rfl) ?_
  intro a b hp ha hb
  rw [codeK_start]
  simp only [go_sem, ↓reduceIte]
  all_goals ((try and_intros) <;> first | exact trivial | omega | (show okDraw _ _ = true; kernel_rfl) | assumption)
theorem sh_r (x : Int) : shiftII .shr .u64 x 32 = (True, .int .u64 (x.fdiv 4294967296)) := Prod.ext (eq_true (show (0 : Int) ≤ 32 by omega)) rfl
def two64V (x y : Int) : AV := .tup [.cel (.int .u64 x), .cel (.int .u64 y)]
attribute [go_sem] two64V
def d_math_bits_Mul64 : Den := den2 aU64 aU64 (fun x y => x = 1 ∧ 0 ≤ y ∧ y ≤ 12) fun x y => two64V 0 y
attribute [go_sem] d_math_bits_Mul64
set_option maxRecDepth 100000 in
set_option maxHeartbeats 1000000 in
theorem s_math_bits_Mul64 : Sound Tryz.prog 221 d_math_bits_Mul64 := by
  refine sound2 (fz := nofz) (l := []) TT_ok trivial mixed Tryz.func221 Tryz.ntmps221 Tryz.results221 Tryz.call221 rfl (by omega) (fun _ _ => rfl) ?_
  intro a b hp ha hb
  obtain ⟨rfl, h0, h1⟩ := hp
  obtain rfl | rfl | rfl | rfl | rfl | rfl | rfl | rfl | rfl | rfl | rfl | rfl | rfl : b = 0 ∨ b = 1 ∨ b = 2 ∨ b = 3 ∨ b = 4 ∨ b = 5 ∨ b = 6 ∨ b = 7 ∨ b = 8 ∨ b = 9 ∨ b = 10 ∨ b = 11 ∨ b = 12 := by omega
  all_goals
    rw [codeK_start]
    simp only [go_sem, sh_r, IntKind.wrap_u64, Int.reducePow, Int.reduceMod, ↓reduceIte]
    try (and_intros <;> first | exact trivial | omega | kernel_rfl)
def d_math_bits_Mul : Den := den2 aU64 aU64 (fun x y => x = 1 ∧ 0 ≤ y ∧ y ≤ 12) fun x y => two64V 0 y
attribute [go_sem] d_math_bits_Mul
set_option maxRecDepth 100000 in
set_option maxHeartbeats 1000000 in
theorem s_math_bits_Mul : Sound Tryz.prog 174 d_math_bits_Mul := by
  refine sound2 (fz := nofz) (l := [(221, d_math_bits_Mul64)]) TT_ok ⟨s_math_bits_Mul64, trivial⟩ mixed Tryz.func174 Tryz.ntmps174 Tryz.results174 Tryz.call174 rfl (by omega) (fun _ _ => rfl) ?_
  intro a b hp ha hb
  obtain ⟨rfl, h0, h1⟩ := hp
  obtain rfl | rfl | rfl | rfl | rfl | rfl | rfl | rfl | rfl | rfl | rfl | rfl | rfl : b = 0 ∨ b = 1 ∨ b = 2 ∨ b = 3 ∨ b = 4 ∨ b = 5 ∨ b = 6 ∨ b = 7 ∨ b = 8 ∨ b = 9 ∨ b = 10 ∨ b = 11 ∨ b = 12 := by omega
  all_goals
    rw [codeK_start]
    simp only [go_sem, sh_r, IntKind.wrap_u64, Int.reducePow, Int.reduceMod, ↓reduceIte]
    try (and_intros <;> first | exact trivial | omega | kernel_rfl)
def d_strings_Repeat : Den := den2 aStr aInt (fun s n => s = [48] ∧ 0 ≤ n ∧ n ≤ 12) fun s n => strV (List.replicate n.toNat 48)
attribute [go_sem] d_strings_Repeat
set_option maxRecDepth 100000 in
set_option maxHeartbeats 1000000 in
theorem s_strings_Repeat : Sound Tryz.prog 124 d_strings_Repeat := by
  refine sound2 (fz := nofz) (l := [(174, d_math_bits_Mul), (175, d_strings_HasPrefix)]) TT_ok ⟨s_math_bits_Mul, s_strings_HasPrefix, trivial⟩ mixed Tryz.func124 Tryz.ntmps124 Tryz.results124 Tryz.call124 rfl (by omega) (fun _ _ => rfl) ?_
  intro a b hp ha hb
  obtain ⟨rfl, h0, h1⟩ := hp
  obtain rfl | rfl | rfl | rfl | rfl | rfl | rfl | rfl | rfl | rfl | rfl | rfl | rfl : b = 0 ∨ b = 1 ∨ b = 2 ∨ b = 3 ∨ b = 4 ∨ b = 5 ∨ b = 6 ∨ b = 7 ∨ b = 8 ∨ b = 9 ∨ b = 10 ∨ b = 11 ∨ b = 12 := by omega
  all_goals
    rw [codeK_start]
    simp only [go_sem, IntKind.wrap_u64, IntKind.wrap_i64, prefL_app, prefL_lit, Int.reducePow, Int.reduceMod, ↓reduceIte]
    all_goals (try (and_intros <;> first | exact trivial | omega | kernel_rfl | (show okDraw _ _ = true; kernel_rfl) | exact of_decide_eq_true (by kernel_rfl)))
end Go.Proofs.YtocpmekblkfdiaaGreatDoor
namespace Go.Proofs.YtocpmekblkfdiaaGreatDoor
open Go.RowKit
set_option linter.unusedSimpArgs false
set_option linter.unusedVariables false
attribute [go_sem] d_nat_Trim d_nat_small
theorem u8N_u8C (x : Nat) : u8N (u8C x) = x := by simp [u8N, u8C]
theorem u8_map (l : List Nat) : (l.map u8C).map u8N = l := by
  rw [List.map_map]
  conv => rhs; rw [← List.map_id l]
  exact List.map_congr_left fun x _ => u8N_u8C x
theorem u8_getD {l : List Nat} {i : Nat} (h : i < l.length) : (l.map u8C).getD i [] = [.int .u8 ((l.getD i 0 : Nat) : Int)] := by
  simp [List.getD_eq_getElem?_getD, List.getElem?_eq_getElem h, u8C]
theorem u8_set (l : List Nat) (i x : Nat) : (l.map u8C).set i [.int .u8 (x : Int)] = (l.set i x).map u8C := by
  rw [List.map_set]; rfl
theorem u8_app (l : List Nat) (x : Nat) : l.map u8C ++ [[.int .u8 (x : Int)]] = (l ++ [x]).map u8C := by
  rw [List.map_append]; rfl
theorem u8_take (l : List Nat) (n : Nat) : (l.map u8C).take n = (l.take n).map u8C := List.map_take.symm
theorem u8_all {l : List Nat} (h : ∀ x ∈ l, x < 256) : allU8 (l.map u8C) := by
  induction l with
  | nil => trivial
  | cons x l ih => exact ⟨by simp only [u8C, isU8]; have := h x (by simp); omega, ih fun y hy => h y (by simp [hy])⟩
/-- a row turned round as far as i from both its ends -/
def revTo (l : List Nat) (i : Nat) : List Nat := (List.range l.length).map fun k => if k < i ∨ l.length - 1 - k < i then l.getD (l.length - 1 - k) 0 else l.getD k 0
theorem revTo_len (l : List Nat) (i : Nat) : (revTo l i).length = l.length := by simp [revTo]
theorem revTo_get {l : List Nat} {i k : Nat} (h : k < l.length) : (revTo l i)[k]? = some (if k < i ∨ l.length - 1 - k < i then l.getD (l.length - 1 - k) 0 else l.getD k 0) := by
  simp [revTo, h]
theorem revTo_getD {l : List Nat} {i k : Nat} (h : k < l.length) : (revTo l i).getD k 0 = if k < i ∨ l.length - 1 - k < i then l.getD (l.length - 1 - k) 0 else l.getD k 0 := by
  rw [List.getD_eq_getElem?_getD, revTo_get h]; rfl
theorem revTo_zero (l : List Nat) : revTo l 0 = l := by
  apply List.ext_getElem?
  intro k
  rcases Nat.lt_or_ge k l.length with h | h
  · rw [revTo_get h, if_neg (by omega), List.getElem?_eq_getElem h, List.getD_eq_getElem?_getD, List.getElem?_eq_getElem h]; rfl
  · rw [List.getElem?_eq_none (by rw [revTo_len]; exact h), List.getElem?_eq_none h]
theorem revTo_next {l : List Nat} {i j : Nat} (h : i < j) (hj : j + i + 1 = l.length) : ((revTo l i).set i ((revTo l i).getD j 0)).set j ((revTo l i).getD i 0) = revTo l (i + 1) := by
  apply List.ext_getElem?
  intro k
  rcases Nat.lt_or_ge k l.length with hk | hk
  · rw [revTo_get hk, List.getElem?_set, List.getElem?_set]
    simp only [List.length_set, revTo_len]
    rw [revTo_getD (show j < l.length by omega), revTo_getD (show i < l.length by omega), revTo_get hk]
    by_cases k1 : j = k
    · subst k1
      rw [if_pos rfl, if_pos hk, if_neg (by omega), if_pos (by omega)]
      rw [show l.length - 1 - j = i by omega]
    · rw [if_neg k1]
      by_cases k2 : i = k
      · subst k2
        rw [if_pos rfl, if_pos hk, if_neg (by omega), if_pos (by omega)]
        rw [show l.length - 1 - i = j by omega]
      · rw [if_neg k2]
        by_cases k3 : k < i ∨ l.length - 1 - k < i
        · rw [if_pos k3, if_pos (by omega)]
        · rw [if_neg k3, if_neg (by omega)]
  · rw [List.getElem?_eq_none (by simp only [List.length_set, revTo_len]; exact hk), List.getElem?_eq_none (by rw [revTo_len]; exact hk)]
theorem revTo_end {l : List Nat} {i : Nat} (h : l.length ≤ 2 * i + 1) : revTo l i = l.reverse := by
  apply List.ext_getElem?
  intro k
  rcases Nat.lt_or_ge k l.length with hk | hk
  · rw [revTo_get hk, List.getElem?_reverse hk]
    by_cases c : k < i ∨ l.length - 1 - k < i
    · rw [if_pos c, List.getD_eq_getElem?_getD, List.getElem?_eq_getElem (show l.length - 1 - k < l.length by omega)]; rfl
    · rw [if_neg c, List.getD_eq_getElem?_getD, show l.length - 1 - k = k by omega, List.getElem?_eq_getElem hk]; rfl
  · rw [List.getElem?_eq_none (by rw [revTo_len]; exact hk), List.getElem?_eq_none (by rw [List.length_reverse]; exact hk)]
def revPre (rows : List (List CV)) : Prop := rows = (rows.map u8N).map u8C ∧ rows.length ≤ 1000
/-- a row of bytes is turned round -/
def denRev : Den := fun avs => match avs with
  | [.one (.cel (.sl none t rows))] => (t = 1 ∧ revPre rows, .one (.cel (.sl none 1 ((rows.map u8N).reverse.map u8C))))
  | _ => no
theorem denRev_inv {r : RC} {rest : List AV} (h : (denRev (.one (.cel (cvRow (some r))) :: rest)).1) :
    rest = [] ∧ ∃ l : List Nat, r = .gen 1 (l.map u8C) ∧ l.length ≤ 1000 ∧ (denRev (.one (.cel (cvRow (some r))) :: rest)).2 = .one (.cel (.sl none 1 (l.reverse.map u8C))) := by
  cases r with
  | u32 xs => cases rest <;> simp [denRev, cvRow, no] at h
  | gen t rows =>
    cases rest with
    | cons x l => simp [denRev, cvRow, no] at h
    | nil =>
      obtain ⟨rfl, h1, h2⟩ := h
      exact ⟨rfl, rows.map u8N, by rw [← h1], by rw [List.length_map]; exact h2, rfl⟩
def fz_chg2 : Nat → List Nat
  | 1000011 => [1]
  | _ => []
@[go_sem] theorem load_rp1u8 {id i : Nat} {rows : List (List CV)} : loadAV (some ti_uint8) [.one (.cel (.rp id 1 i))] [some (.row (.gen 1 rows))] = (1 = (RC.gen 1 rows).t ∧ 1 = (RC.gen 1 rows).t ∧ i < (RC.gen 1 rows).len, ofCells false ((rows.getD i []).map CV.strip)) := rfl
set_option maxRecDepth 100000 in
set_option maxHeartbeats 4000000 in
theorem sm_rev : SoundM Tryz.prog 126 denRev := by
  refine soundM_of_awp (envOk (fz := nofz) TT_ok (l := []) trivial) mixed Tryz.func126 rfl Tryz.ntmps126 Tryz.results126 Tryz.call126 ?_
  intro r avs hd hok X w vs hvs
  obtain ⟨rfl, l, rfl, hl, hr⟩ := denRev_inv hd
  refine ⟨[], .gen 1 (l.reverse.map u8C), by rw [hr]; rfl, by simp [RC.len], rfl, fun X w vs h => h, by show _ ≤ _; simp, rfl, fun p => ?_⟩
  rw [codeK_start]
  simp only [go_sem, endsM, denRev, fz_chg2, startOf, List.length_map, ↓reduceIte]
  refine ⟨by omega, ?_⟩
  refine codeK_loop (fun i : { i : Nat × Int // i.2 + i.1 + 1 = l.length ∧ i.1 ≤ l.length ∧ -2 ≤ i.2 } => [(0, 0, .av (.one (.cel (.rf 0 l.length)))), (0, 1, .row (.gen 1 ((revTo l i.1.1).map u8C))), (0, 2, .ext p), (2, 0, .av (intV ((i.1.1 : Nat)))), (3, 0, .av (intV ((i.1.2 : Int))))]) (fun i => l.length - i.1.1) ⟨(0, (l.length : Int) - 1), by omega, by omega, by omega⟩ (le_of ?_) ?_
  · simp only [go_sem, leL, revTo_zero, List.length_map, Int.natCast_zero, ↓reduceIte]
    try and_intros
    all_goals try rfl
  · rintro ⟨⟨i, j⟩, h1, h2, h3⟩
    have h1 : j + i + 1 = l.length := h1
    have h2 : i ≤ l.length := h2
    by_cases c : (i : Int) < j
    · obtain ⟨m, rfl⟩ : ∃ m : Nat, j = m := ⟨j.toNat, by omega⟩
      have hlen := revTo_len l i
      have hgi := u8_getD (l := revTo l i) (i := i) (by omega)
      have hgj := u8_getD (l := revTo l i) (i := m) (by omega)
      have hnx := revTo_next (l := l) (i := i) (j := m) (by omega) (by omega)
      have ct := eq_true c
      simp only [go_sem, endsM, denRev, fz_chg2, startOf, ct, hgi, hgj, Int.toNat_natCast, u8_set, hnx, List.length_map, hlen, ↓reduceIte]
      and_intros
      all_goals try (first | exact trivial | omega | rfl | (simp only [RC.len, RC.t, List.length_map, List.length_set]; omega) | (simp only [RC.len, RC.t, List.length_map, List.length_set]) | (show okDraw _ _ = true; kernel_rfl))
      refine ⟨⟨(i + 1, (m : Int) - 1), by show (m : Int) - 1 + ((i + 1 : Nat) : Int) + 1 = l.length; omega, by show i + 1 ≤ l.length; omega, by show -2 ≤ (m : Int) - 1; omega⟩, by show l.length - (i + 1) < l.length - i; omega, le_of ?_⟩
      simp only [go_sem, leL, List.length_map, ↓reduceIte]
      try and_intros
      all_goals try first | rfl | omega
    · have ct := eq_false c
      have he := revTo_end (l := l) (i := i) (by omega)
      simp only [go_sem, endsM, denRev, fz_chg2, startOf, ct, he, ↓reduceIte]
      try exact ⟨rfl, rfl⟩
theorem dig_in {x i : Nat} (h : i < 9) : x % 1000000000 / 10 ^ i % 10 = x / 10 ^ i % 10 := by
  obtain rfl | rfl | rfl | rfl | rfl | rfl | rfl | rfl | rfl : i = 0 ∨ i = 1 ∨ i = 2 ∨ i = 3 ∨ i = 4 ∨ i = 5 ∨ i = 6 ∨ i = 7 ∨ i = 8 := by omega
  all_goals (simp only [Nat.reducePow]; omega)
theorem dig_at {u j i : Nat} (h : i < 9) : u / 10 ^ (9 * j) % 1000000000 / 10 ^ i % 10 = u / 10 ^ (9 * j + i) % 10 := by
  rw [dig_in h, Nat.div_div_eq_div_mul, ← Nat.pow_add]
def digitsL : List Nat := [48, 49, 50, 51, 52, 53, 54, 55, 56, 57]
theorem digitsL_at {k : Nat} (h : k < 10) : digitsL.getD k 0 = 48 + k := by
  obtain rfl | rfl | rfl | rfl | rfl | rfl | rfl | rfl | rfl | rfl : k = 0 ∨ k = 1 ∨ k = 2 ∨ k = 3 ∨ k = 4 ∨ k = 5 ∨ k = 6 ∨ k = 7 ∨ k = 8 ∨ k = 9 := by omega
  all_goals rfl
theorem low_div (u j : Nat) : u / 10 ^ (9 * j) / 1000000000 = u / 10 ^ (9 * (j + 1)) := by
  rw [Nat.div_div_eq_div_mul, show 1000000000 = 10 ^ 9 from rfl, ← Nat.pow_add, Nat.mul_add]
theorem div_one_nine (x i : Nat) : x / 10 ^ i / 10 = x / 10 ^ (i + 1) := by rw [Nat.div_div_eq_div_mul, Nat.pow_succ]
theorem limbs_len0 {n : Nat} : (limbs n).length = 0 ↔ n = 0 := by
  constructor
  · intro h
    have := val_limbs n
    rw [List.length_eq_zero_iff.1 h] at this
    exact this.symm
  · rintro rfl; rw [limbs_zero]; rfl
theorem limbs_len18 {n : Nat} (h : n < 1000000000000000000) : (limbs n).length ≤ 2 := limbs_len_le (by omega)
theorem low_lt {m u x : Nat} (h : x ∈ low m u) : x < 256 := by have := low_dig h; omega
theorem digits_const : unbyt { data := #[48, 49, 50, 51, 52, 53, 54, 55, 56, 57] } = digitsL := rfl
theorem digitsL_len : digitsL.length = 10 := rfl
theorem tmod_ten (r : Nat) : ((r : Nat) : Int).tmod 10 = ((r % 10 : Nat) : Int) := rfl
theorem tdiv_ten (r : Nat) : ((r : Nat) : Int).tdiv 10 = ((r / 10 : Nat) : Int) := rfl
theorem low_getD {m u i : Nat} (h : i < m) : (low m u).getD i 0 = 48 + u / 10 ^ i % 10 := by
  rw [List.getD_eq_getElem?_getD, low_get h]; rfl
theorem low_take {m u : Nat} : (low (m + 1) u).take m = low m u := by
  rw [low_succ]; exact List.take_left' (low_len m u)
theorem pow_lt_of {m n : Nat} (h : 10 ^ m < 10 ^ n) : m < n := by
  rcases Nat.lt_or_ge m n with h1 | h1
  · exact h1
  · have := Nat.pow_le_pow_right (show 0 < 10 by omega) h1; omega
theorem div_lt_ten {u m : Nat} (h : u < 10 ^ (m + 1)) (h1 : u / 10 ^ m % 10 = 0) : u < 10 ^ m := by
  have hp : 0 < 10 ^ m := Nat.pow_pos (by omega)
  have h2 : u / 10 ^ m < 10 := (Nat.div_lt_iff_lt_mul hp).2 (by rw [Nat.pow_succ] at h; omega)
  have h3 : u / 10 ^ m = 0 := by
    generalize u / 10 ^ m = y at *
    omega
  exact (Nat.div_eq_zero_iff_lt hp).1 h3
theorem le_of_dig {u m : Nat} (h1 : ¬ u / 10 ^ m % 10 = 0) : 10 ^ m ≤ u := by
  have hp : 0 < 10 ^ m := Nat.pow_pos (by omega)
  rcases Nat.lt_or_ge u (10 ^ m) with h | h
  · exact absurd (by rw [Nat.div_eq_of_lt h]) h1
  · exact h
def fz_nat_Print : Nat → List Nat
  | 1000011 => [1]
  | _ => []
def d_nat_Print : Den := den1 aLim (fun a => a.length ≤ 1000 ∧ val a < 1000000000000000000) fun a => strV (low (nd (val a)) (val a)).reverse
attribute [go_sem] d_nat_Print
set_option maxRecDepth 100000 in
set_option maxHeartbeats 4000000 in
theorem s_nat_Print : Sound Tryz.prog 74 d_nat_Print := by
  refine sound1 (fz := fz_nat_Print) (l := [(119, d_nat_Trim), (125, d_nat_small), (2000000 + 126, denRev)]) TT_ok ⟨s_nat_Trim, s_nat_small, sm_rev, trivial⟩ mixed Tryz.func74 Tryz.ntmps74 Tryz.results74 Tryz.call74 rfl (by omega) (fun _ => rfl) ?_
  intro a hp ha
  have hu : val a < 1000000000000000000 := hp.2
  rw [codeK_start]
  by_cases h0 : val a = 0
  · have e0 : (((limbs (val a)).length : Nat) : Int) = 0 := by rw [limbs_len0.2 h0]; rfl
    simp only [go_sem, fz_nat_Print, e0, unbyt_lit, ↓reduceIte]
    refine ⟨by omega, ?_⟩
    rw [h0, nd_small (by omega)]
    rfl
  · have e0 : ((((limbs (val a)).length : Nat) : Int) = 0) = False := eq_false (fun h => h0 (limbs_len0.1 (by omega)))
    simp only [go_sem, fz_nat_Print, e0, ↓reduceIte]
    refine ⟨by omega, ?_⟩
    refine codeK_loop (fun j : { j : Nat // j ≤ 2 } => [(0, 0, .av (.one (.cel (.lim none (limbs (val a / 10 ^ (9 * j.1))))))), (3, 0, .av (.one (.cel (.rf 1003 (9 * j.1))))), (1003, 1, .row (.gen 1 ((low (9 * j.1) (val a)).map u8C)))]) (fun j => val a / 10 ^ (9 * j.1)) ⟨0, by omega⟩ ?_ ?_
    · refine le_nil 3 1003 (.gen 1 []) (by rfl) (by kernel_rfl) ⟨by omega, trivial⟩ rfl (le_of ?_)
      simp only [go_sem, leL, low_nil, Nat.mul_zero, Nat.pow_zero, Nat.div_one, List.map_nil, ↓reduceIte]
    · rintro ⟨j, hj2⟩
      have hj2 : j ≤ 2 := hj2
      have hle : val a / 10 ^ (9 * j) ≤ val a := Nat.div_le_self _ _
      have hl18 := limbs_len18 (n := val a / 10 ^ (9 * j)) (by omega)
      by_cases hz : val a / 10 ^ (9 * j) = 0
      · have e1 : (0 < (((limbs (val a / 10 ^ (9 * j))).length : Nat) : Int)) = False := eq_false (fun h => by have := limbs_len0.2 hz; omega)
        simp only [go_sem, fz_nat_Print, e1, ↓reduceIte]
        have hj0 : j ≠ 0 := by rintro rfl; simp at hz; exact h0 hz
        have hlt9 : val a < 10 ^ (9 * j) := (Nat.div_eq_zero_iff_lt (Nat.pow_pos (by omega))).1 hz
        refine codeK_loop (fun m : { m : Nat // 1 ≤ m ∧ m ≤ 18 ∧ val a < 10 ^ m } => [(3, 0, .av (.one (.cel (.rf 1003 (m.1))))), (1003, 1, .row (.gen 1 ((low m.1 (val a)).map u8C)))]) (fun m => m.1) ⟨9 * j, by omega, by omega, hlt9⟩ (le_of ?_) ?_
        · simp only [go_sem, leL, ↓reduceIte]
        · rintro ⟨m, hm1, hm18, hm2⟩
          have hll := low_len m (val a)
          have hend : nd (val a) = m → ((low m (val a)).reverse.map u8C).map u8N = (low (nd (val a)) (val a)).reverse := fun h => by rw [u8_map, h]
          have hrv : ((low m (val a)).map u8C).map u8N = low m (val a) := u8_map _
          have hall : allU8 ((low m (val a)).reverse.map u8C) = True := eq_true (u8_all fun x hx => low_lt (List.mem_reverse.1 hx))
          by_cases hm : m = 1
          · subst hm
            have e2 : ((1 : Int) < ((1 : Nat) : Int)) = False := eq_false (by omega)
            simp only [go_sem, fz_nat_Print, e2, hrv, hall, revPre, denRev, List.length_map, low_len, List.length_reverse, ↓reduceIte]
            ((try and_intros) <;> first | exact trivial | omega | (simp only [RC.len, List.length_map, List.length_reverse]; omega) | (show okDraw _ _ = true; kernel_rfl) | exact congrArg CV.str (hend (nd_is (by omega) hm2 (.inl rfl))))
          · obtain ⟨k, rfl⟩ : ∃ k, m = k + 1 := ⟨m - 1, by omega⟩
            have e2 : ((1 : Int) < ((k + 1 : Nat) : Int)) = True := eq_true (by omega)
            have e3 : (((k + 1 : Nat) : Int) - 1).toNat = k := by omega
            have e4 := u8_getD (l := low (k + 1) (val a)) (i := k) (by omega)
            rw [low_getD (by omega)] at e4
            by_cases hd : val a / 10 ^ k % 10 = 0
            · have e5 : (((48 + val a / 10 ^ k % 10 : Nat) : Int) = 48) = True := eq_true (by omega)
              have e6 : ((low (k + 1) (val a)).map u8C).take k = (low k (val a)).map u8C := by rw [u8_take, low_take]
              simp only [go_sem, fz_nat_Print, e2, e3, e4, e5, revPre, denRev, List.length_map, low_len, List.length_reverse, ↓reduceIte]
              and_intros
              all_goals try (first | exact trivial | omega | rfl | (show okDraw _ _ = true; kernel_rfl))
              refine ⟨⟨k, by omega, by omega, div_lt_ten hm2 hd⟩, by show k < k + 1; omega, le_of ?_⟩
              simp only [go_sem, leL, e3, e6, ↓reduceIte]
            · have e5 : (((48 + val a / 10 ^ k % 10 : Nat) : Int) = 48) = False := eq_false (by omega)
              simp only [go_sem, fz_nat_Print, e2, e3, e4, e5, hrv, hall, revPre, denRev, List.length_map, low_len, List.length_reverse, ↓reduceIte]
              ((try and_intros) <;> first | exact trivial | omega | (simp only [RC.len, List.length_map, List.length_reverse]; omega) | (show okDraw _ _ = true; kernel_rfl) | exact congrArg CV.str (hend (nd_is (by omega) hm2 (.inr (le_of_dig hd)))))
      · have e1 : (0 < (((limbs (val a / 10 ^ (9 * j))).length : Nat) : Int)) = True := eq_true (by
          have : (limbs (val a / 10 ^ (9 * j))).length ≠ 0 := fun h => hz (limbs_len0.1 h)
          omega)
        simp only [go_sem, fz_nat_Print, e1, val_limbs, low_div, ↓reduceIte]
        refine ⟨by omega, ?_⟩
        have hj1 : j ≤ 1 := by
          have h1 : 10 ^ (9 * j) ≤ val a := by
            rcases Nat.lt_or_ge (val a) (10 ^ (9 * j)) with h | h
            · exact absurd (Nat.div_eq_of_lt h) hz
            · exact h
          have := pow_lt_of (m := 9 * j) (n := 18) (by omega)
          omega
        refine codeK_loop (fun i : { i : Nat // i ≤ 9 } => [(19, 0, .av (intV ((i.1 : Nat)))), (5, 0, .av (.one (.cel (.int .u32 ((((val a / 10 ^ (9 * j) % 1000000000) / 10 ^ i.1 : Nat) : Int)))))), (4, 0, .av (.one (.cel (.lim none (limbs (val a / 10 ^ (9 * (j + 1)))))))), (3, 0, .av (.one (.cel (.rf 1003 (9 * j + i.1))))), (1003, 1, .row (.gen 1 ((low (9 * j + i.1) (val a)).map u8C)))]) (fun i => 9 - i.1) ⟨0, by omega⟩ (le_of ?_) ?_
        · simp only [go_sem, leL, Nat.pow_zero, Nat.div_one, Nat.add_zero, Int.natCast_zero, ↓reduceIte]
        · rintro ⟨i, hi0⟩
          have hi0 : i ≤ 9 := hi0
          have hll := low_len (9 * j + i) (val a)
          by_cases hi : i < 9
          · have e2 : (((i : Nat) : Int) < 9) = True := eq_true (by omega)
            have hd1 := dig_at (u := val a) (j := j) hi
            have hd2 : digitsL.getD (val a / 10 ^ (9 * j) % 1000000000 / 10 ^ i % 10) 0 = 48 + val a / 10 ^ (9 * j + i) % 10 := by rw [digitsL_at (by omega), hd1]
            have hw : IntKind.wrap .u32 ((val a / 10 ^ (9 * j) % 1000000000 / 10 ^ i / 10 : Nat) : Int) = ((val a / 10 ^ (9 * j) % 1000000000 / 10 ^ (i + 1) : Nat) : Int) := by
              rw [div_one_nine, IntKind.wrap_u32]
              have h1 : val a / 10 ^ (9 * j) % 1000000000 / 10 ^ (i + 1) ≤ val a / 10 ^ (9 * j) % 1000000000 := Nat.div_le_self _ _
              have h2 : val a / 10 ^ (9 * j) % 1000000000 < 1000000000 := Nat.mod_lt _ (by omega)
              generalize val a / 10 ^ (9 * j) % 1000000000 / 10 ^ (i + 1) = y at *
              generalize val a / 10 ^ (9 * j) % 1000000000 = z at *
              omega
            have hrow : (low (9 * j + i) (val a)).map u8C ++ [[.int .u8 ((48 + val a / 10 ^ (9 * j + i) % 10 : Nat) : Int)]] = (low (9 * j + (i + 1)) (val a)).map u8C := by
              rw [u8_app, ← low_succ]; rfl
            simp only [go_sem, fz_nat_Print, e2, digits_const, digitsL_len, tmod_ten, tdiv_ten, toNat_cast, hd2, hw, revPre, denRev, List.length_map, low_len, List.length_reverse, ↓reduceIte]
            and_intros
            all_goals try (first | exact trivial | omega | rfl | (show okDraw _ _ = true; kernel_rfl))
            refine ⟨⟨i + 1, by omega⟩, by show 9 - (i + 1) < 9 - i; omega, ?_⟩
            refine Le.trans (b := [(19, 0, .av (intV (((i + 1) : Nat)))), (5, 0, .av (.one (.cel (.int .u32 ((((val a / 10 ^ (9 * j) % 1000000000) / 10 ^ (i + 1) : Nat) : Int)))))), (4, 0, .av (.one (.cel (.lim none (limbs (val a / 10 ^ (9 * (j + 1)))))))), (3, 0, .av (.one (.cel (.rf 26 (9 * j + (i + 1)))))), (26, 1, .row (.gen 1 ((low (9 * j + (i + 1)) (val a)).map u8C)))]) (le_of ?_) (le_ren 26 1003 (c := .gen 1 ((low (9 * j + (i + 1)) (val a)).map u8C)) (by rfl) (by kernel_rfl) (le_of ?_))
            · simp only [go_sem, leL, hrow, List.length_map, low_len, ↓reduceIte]
              try and_intros
              all_goals try first | rfl | omega
            · simp only [go_sem, leL, ↓reduceIte]
          · have hi9 : i = 9 := by omega
            subst hi9
            have e2 : (((9 : Nat) : Int) < 9) = False := eq_false (by omega)
            have e9 : 9 * j + 9 = 9 * (j + 1) := by omega
            simp only [go_sem, fz_nat_Print, e2, revPre, denRev, List.length_map, low_len, List.length_reverse, ↓reduceIte]
            refine ⟨⟨j + 1, by omega⟩, by show val a / 10 ^ (9 * (j + 1)) < val a / 10 ^ (9 * j); rw [← low_div]; exact Nat.div_lt_self (Nat.pos_of_ne_zero hz) (by omega), le_of ?_⟩
            simp only [go_sem, leL, e9, ↓reduceIte]
end Go.Proofs.YtocpmekblkfdiaaGreatDoor
