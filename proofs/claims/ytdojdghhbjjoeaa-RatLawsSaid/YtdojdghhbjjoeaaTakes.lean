/- Contract of nat.takes: a divisor taken away so often from a piece of a row, given back once if that was too often. Conditions: at most one time too often; at most 10^12 limbs. -/
import Derived.Test.YtdojdghhbjjoeaaCmp
import Derived.Test.YtdojdghhbjjoeaaBits
namespace Go.Proofs.Ytdojdghhbjjoeaa
open Go.RowKit

/-- w' is w but for what block g holds -/
structure Only (g : Nat) (w w' : World) : Prop where
  os : w'.os = w.os
  tape : w'.tape = w.tape
  output : w'.output = w.output
  size : w'.heap.size = w.heap.size
  block : ∀ k, k ≠ g → w'.heap[k]? = w.heap[k]?

theorem Only.refl (g : Nat) (w : World) : Only g w w := ⟨rfl, rfl, rfl, rfl, fun _ _ => rfl⟩
theorem Only.setCell {g : Nat} {a w : World} (h : Only g a w) (i : Nat) (u : Value) : Only g a (w.setCell ⟨g, i, none⟩ u) :=
  ⟨h.os, h.tape, h.output, by simp [h.size], fun k hk => (Below.heap_setCell w ⟨g, i, none⟩ u k hk).trans (h.block k hk)⟩
theorem Only.below {g K : Nat} {w w' : World} (h : Only g w w') (hK : K ≤ g) : Below K w w' :=
  ⟨h.os, h.tape, h.output, by rw [h.size]; exact Nat.le_refl _, fun k hk => h.block k (by omega)⟩
theorem Only.row {E g gd : Nat} {w w' : World} {ds : List Nat} (h : Only g w w') (hd : RowIs E w gd ds) (hne : gd ≠ g) : RowIs E w' gd ds := by
  unfold RowIs at *
  rw [h.block gd hne]; exact hd

theorem mid_getD {pre us post : List Nat} {i k : Nat} (hi : pre.length = i) (hk : k < us.length) : (pre ++ us ++ post).getD (i + k) 0 = us.getD k 0 := by
  subst hi
  simp only [List.getD_eq_getElem?_getD]
  rw [List.getElem?_append_left (by simp; omega), List.getElem?_append_right (by omega)]
  simp
theorem mid_set {pre us post : List Nat} {i k x : Nat} (hi : pre.length = i) (hk : k < us.length) : (pre ++ us ++ post).set (i + k) x = pre ++ us.set k x ++ post := by
  subst hi
  rw [List.set_append, if_pos (by simp; omega), List.set_append, if_neg (by omega)]
  simp
theorem mid_len {pre us post : List Nat} {i k : Nat} (hi : pre.length = i) (hk : k < us.length) : i + k < (pre ++ us ++ post).length := by
  simp; omega

/-- the piece behind k limbs of the taking: carry c, borrow b -/
def TakeInv (us0 us ds : List Nat) (n q k c b : Nat) : Prop :=
  us.length = n + 1 ∧ (∀ x ∈ us, x < 4294967296) ∧ c < 4294967296 ∧ b ≤ 1 ∧ val us + q * val (ds.take k) = val us0 + 4294967296 ^ k * (c + b)

theorem takeInv_zero {us : List Nat} {n : Nat} (ds : List Nat) (q : Nat) (h : us.length = n + 1) (hl : ∀ x ∈ us, x < 4294967296) : TakeInv us us ds n q 0 0 0 :=
  ⟨h, hl, by omega, by omega, by simp [val]⟩

theorem take_key (u t b : Nat) (hu : u < 4294967296) (hb : b ≤ 1) : (u + 4294967296 - t % 4294967296 - b) % 4294967296 + t % 4294967296 + b = u + 4294967296 * (if u < t % 4294967296 + b then 1 else 0) := by
  split <;> omega

theorem takeInv_step {us0 us ds : List Nat} {n q k c b d u : Nat} (h : TakeInv us0 us ds n q k c b) (hk : k < n) (hn : ds.length = n) (hd : ds.getD k 0 = d) (bd : d < 4294967296) (hu : us.getD k 0 = u) (bu : u < 4294967296) (hq : q < 4294967296) :
    TakeInv us0 (us.set k ((u + 4294967296 - (c + q * d) % 4294967296 - b) % 4294967296)) ds n q (k + 1) ((c + q * d) / 4294967296) (if u < (c + q * d) % 4294967296 + b then 1 else 0) := by
  obtain ⟨h1, h2, h3, h4, h5⟩ := h
  have hm := Nat.mul_le_mul (Nat.le_of_lt_succ hq) (Nat.le_of_lt_succ bd)
  have key := take_key u (c + q * d) b bu h4
  refine ⟨by simpa using h1, mem_set_lt h2 (by omega), by omega, by split <;> omega, ?_⟩
  have hs := val_set_at (zs := us) (k := k) (x := (u + 4294967296 - (c + q * d) % 4294967296 - b) % 4294967296) (by omega)
  rw [hu] at hs
  rw [val_take_last (by omega), hd, Nat.pow_succ]
  generalize (u + 4294967296 - (c + q * d) % 4294967296 - b) % 4294967296 = z at *
  generalize (if u < (c + q * d) % 4294967296 + b then 1 else 0) = b' at *
  have hdm : (c + q * d) % 4294967296 + 4294967296 * ((c + q * d) / 4294967296) = c + q * d := by omega
  generalize (c + q * d) % 4294967296 = lo at *
  generalize (c + q * d) / 4294967296 = hi at *
  generalize 4294967296 ^ k = p at *
  have e1 : p * z + p * lo + p * b = p * u + p * (4294967296 * b') := by rw [← Nat.mul_add, ← Nat.mul_add, key, Nat.mul_add]
  have e2 : p * lo + p * (4294967296 * hi) = p * c + p * (q * d) := by rw [← Nat.mul_add, hdm, Nat.mul_add]
  have e3 : q * (val (ds.take k) + p * d) = q * val (ds.take k) + p * (q * d) := by rw [Nat.mul_add, Nat.mul_left_comm]
  have e4 : p * 4294967296 * (hi + b') = p * (4294967296 * hi) + p * (4294967296 * b') := by rw [Nat.mul_assoc, Nat.mul_add, Nat.mul_add]
  rw [e3, e4]
  rw [Nat.mul_add] at h5
  omega

/-- the last limb of the taking -/
theorem takeInv_last {us0 us ds : List Nat} {n q c b u : Nat} (h : TakeInv us0 us ds n q n c b) (hn : ds.length = n) (hu : us.getD n 0 = u) (bu : u < 4294967296) :
    (us.set n ((u + 4294967296 - c - b) % 4294967296)).length = n + 1 ∧ (∀ x ∈ us.set n ((u + 4294967296 - c - b) % 4294967296), x < 4294967296) ∧
    val (us.set n ((u + 4294967296 - c - b) % 4294967296)) + q * val ds = val us0 + 4294967296 ^ (n + 1) * (if u < c + b then 1 else 0) := by
  obtain ⟨h1, h2, h3, h4, h5⟩ := h
  have key := take_key u c b bu h4
  rw [Nat.mod_eq_of_lt h3] at key
  refine ⟨by simpa using h1, mem_set_lt h2 (by omega), ?_⟩
  have hs := val_set_at (zs := us) (k := n) (x := (u + 4294967296 - c - b) % 4294967296) (by omega)
  rw [hu] at hs
  rw [List.take_of_length_le (by omega)] at h5
  rw [Nat.pow_succ]
  generalize (u + 4294967296 - c - b) % 4294967296 = z at *
  generalize (if u < c + b then 1 else 0) = b' at *
  generalize 4294967296 ^ n = p at *
  have e1 : p * z + p * c + p * b = p * u + p * (4294967296 * b') := by rw [← Nat.mul_add, ← Nat.mul_add, key, Nat.mul_add]
  rw [Nat.mul_assoc]
  rw [Nat.mul_add] at h5
  omega

/-- the piece behind k limbs of the giving back -/
def GiveInv (us0 us ds : List Nat) (n k c : Nat) : Prop :=
  us.length = n + 1 ∧ (∀ x ∈ us, x < 4294967296) ∧ c ≤ 1 ∧ val us + 4294967296 ^ k * c = val us0 + val (ds.take k)

theorem giveInv_zero {us ds : List Nat} {n : Nat} (h : us.length = n + 1) (hl : ∀ x ∈ us, x < 4294967296) : GiveInv us us ds n 0 0 := ⟨h, hl, by omega, by simp [val]⟩

theorem giveInv_step {us0 us ds : List Nat} {n k c d u : Nat} (h : GiveInv us0 us ds n k c) (hk : k < n) (hn : ds.length = n) (hd : ds.getD k 0 = d) (bd : d < 4294967296) (hu : us.getD k 0 = u) (bu : u < 4294967296) :
    GiveInv us0 (us.set k ((u + d + c) % 4294967296)) ds n (k + 1) ((u + d + c) / 4294967296) := by
  obtain ⟨h1, h2, h3, h4⟩ := h
  refine ⟨by simpa using h1, mem_set_lt h2 (by omega), by omega, ?_⟩
  have hs := val_set_at (zs := us) (k := k) (x := (u + d + c) % 4294967296) (by omega)
  rw [hu] at hs
  rw [val_take_last (by omega), hd, Nat.pow_succ]
  have key : (u + d + c) % 4294967296 + 4294967296 * ((u + d + c) / 4294967296) = u + d + c := by omega
  generalize (u + d + c) % 4294967296 = lo at *
  generalize (u + d + c) / 4294967296 = hi at *
  generalize 4294967296 ^ k = p at *
  have e1 : p * lo + p * 4294967296 * hi = p * u + p * d + p * c := by rw [Nat.mul_assoc, ← Nat.mul_add, key, Nat.mul_add, Nat.mul_add]
  omega

theorem giveInv_last {us0 us ds : List Nat} {n c u : Nat} (h : GiveInv us0 us ds n n c) (hn : ds.length = n) (hu : us.getD n 0 = u) :
    (us.set n ((u + c) % 4294967296)).length = n + 1 ∧ (∀ x ∈ us.set n ((u + c) % 4294967296), x < 4294967296) ∧
    val (us.set n ((u + c) % 4294967296)) + 4294967296 ^ (n + 1) * ((u + c) / 4294967296) = val us0 + val ds := by
  obtain ⟨h1, h2, h3, h4⟩ := h
  refine ⟨by simpa using h1, mem_set_lt h2 (by omega), ?_⟩
  have hs := val_set_at (zs := us) (k := n) (x := (u + c) % 4294967296) (by omega)
  rw [hu] at hs
  rw [List.take_of_length_le (by omega)] at h4
  rw [Nat.pow_succ]
  have key : (u + c) % 4294967296 + 4294967296 * ((u + c) / 4294967296) = u + c := by omega
  generalize (u + c) % 4294967296 = lo at *
  generalize (u + c) / 4294967296 = hi at *
  generalize 4294967296 ^ n = p at *
  have e1 : p * lo + p * 4294967296 * hi = p * u + p * c := by rw [Nat.mul_assoc, ← Nat.mul_add, key, Nat.mul_add]
  omega

/-- what is there when nothing was taken too often -/
theorem take_fits {a m s : Nat} (h : a + m = s + 4294967296 * 0) : m ≤ s ∧ a = s - m := by omega

def takenOf (U D q : Nat) : Nat := if q * D ≤ U then U - q * D else U + D - q * D

/-- What nat.takes leaves. -/
def RetTakes (E g n : Nat) (pre us ds post : List Nat) (q : Nat) (w : World) (e : Ending) (w' : World) : Prop :=
  ∃ us', e = .returned (.bool (decide (val us < q * val ds))) ∧ RowIs E w' g (pre ++ us' ++ post) ∧ us'.length = n + 1 ∧ (∀ x ∈ us', x < 4294967296) ∧ val us' = takenOf (val us) (val ds) q ∧ Only g w w'

theorem takes_no {us us' ds : List Nat} {n q : Nat} (h : val us' + q * val ds = val us + 4294967296 ^ (n + 1) * 0) :
    val us' = takenOf (val us) (val ds) q ∧ decide (val us < q * val ds) = false := by
  rw [Nat.mul_zero, Nat.add_zero] at h
  unfold takenOf
  rw [if_pos (by omega)]
  exact ⟨by omega, by simp; omega⟩

theorem takes_yes {us us' us'' ds : List Nat} {n q c : Nat} (hl : us'.length = n + 1) (h2 : ∀ x ∈ us', x < 4294967296) (h : val us' + q * val ds = val us + 4294967296 ^ (n + 1) * 1)
    (hl2 : us''.length = n + 1) (h4 : ∀ x ∈ us'', x < 4294967296) (h5 : val us'' + 4294967296 ^ (n + 1) * c = val us' + val ds) (h6 : c ≤ 1) (hq : q * val ds ≤ val us + val ds) :
    val us'' = takenOf (val us) (val ds) q ∧ decide (val us < q * val ds) = true := by
  have l1 := val_lt h2
  have l2 := val_lt h4
  rw [hl] at l1
  rw [hl2] at l2
  rw [Nat.mul_one] at h
  unfold takenOf
  rw [if_neg (by omega)]
  refine ⟨?_, by simp; omega⟩
  generalize 4294967296 ^ (n + 1) = p at *
  have : c = 1 := by
    rcases Nat.eq_zero_or_pos c with h0 | h0
    · subst h0; rw [Nat.mul_zero] at h5; omega
    · omega
  subst this
  rw [Nat.mul_one] at h5
  omega

theorem bitsSub32I (x y b : Nat) (X Y B : Int) (w : World) (hX : X = (x : Int)) (hY : Y = (y : Int)) (hB : B = (b : Int)) (hx : x < 4294967296) (hy : y < 4294967296) (hb : b ≤ 1) :
    Calls Try.prog 104 #[.int .u32 X, .int .u32 Y, .int .u32 B] w fun e w' => e = .returned (.tuple #[.int .u32 (((x + 4294967296 - y - b) % 4294967296 : Nat) : Int), .int .u32 ((if x < y + b then 1 else 0 : Nat) : Int)]) ∧ w = w' := by
  subst hX hY hB
  exact bitsSub32 x y b w hx hy hb

set_option maxRecDepth 100000 in
set_option maxHeartbeats 2000000 in
theorem natTakes (w : World) (g gd i n cap q : Nat) (pre us post ds : List Nat) (hR : RowIs 39 w g (pre ++ us ++ post)) (hD : RowIs 39 w gd ds) (hne : gd ≠ g)
    (hpre : pre.length = i) (hus : us.length = n + 1) (hds : ds.length = n) (hlu : ∀ x ∈ us, x < 4294967296) (hld : ∀ x ∈ ds, x < 4294967296) (hq : q < 4294967296)
    (hfit : q * val ds ≤ val us + val ds) (hn : n ≤ 8000000000000) (_hi : i ≤ 8000000000000) (hcap : n + 1 ≤ cap) :
    Calls Try.prog 117 #[.slice (some ⟨g, i, none⟩) (n + 1) cap, .slice (some ⟨gd, 0, none⟩) n n, .int .u64 q] w (RetTakes 39 g n pre us ds post q w) := by
  have T0 := Lib.hid (takeInv_zero ds q hus hlu)
  have HF := Lib.hid hfit
  clear hfit
  have HP := Lib.hid hpre
  have HDS := Lib.hid hds
  have HLD := Lib.hid hld
  clear hpre hds hus
  go_enter Try.func117, Try.ntmps117
  go_wp2
  go_loopw [7, 8, 16] (fun c b j wr => ∃ (k cr bo : Nat) (us' : List Nat), k ≤ n ∧ j = .int .i64 k ∧ c = .int .u64 cr ∧ b = .int .u32 bo ∧ RowIs 39 wr g (pre ++ us' ++ post) ∧ TakeInv us us' ds n q k cr bo ∧ Only g w wr) (fun _ _ j _ => n - (intOf j).toNat)
  case atStart => exact ⟨0, 0, 0, us, Nat.zero_le _, rfl, rfl, rfl, hR, T0.out, Only.refl _ _⟩
  case round =>
    obtain ⟨k, cr, bo, us', hk, rfl, rfl, rfl, hRz, hinv, hO⟩ := hrel
    have hcr : cr < 4294967296 := hinv.2.2.1
    have hbo : bo ≤ 1 := hinv.2.2.2.1
    have hl' := Lib.hid hinv.1
    have hDz := hO.row hD hne
    by_cases hlt : k < n
    · have hd := hDz.cell (i := k) (by have := HDS.out; omega)
      have bd := getD_lt HLD.out k
      have hu := hRz.cell (i := i + k) (mid_len HP.out (by have := hl'.out; omega))
      rw [mid_getD HP.out (by have := hl'.out; omega)] at hu
      have bu := getD_lt hinv.2.1 k
      have hfr := hRz.frozen (i + k)
      have hst := Lib.hid (takeInv_step hinv hlt HDS.out rfl bd rfl bu hq)
      have hset := fun x => mid_set (post := post) (x := x) HP.out (show k < us'.length by have := hl'.out; omega)
      have HSET := Lib.hid hset
      clear hinv hset
      generalize ds.getD k 0 = d at *
      generalize us'.getD k 0 = u at *
      have hm := Nat.mul_le_mul (Nat.le_of_lt_succ hq) (Nat.le_of_lt_succ bd)
      have hm0 : (0 : Int) ≤ (q : Int) * d := by rw [← Int.natCast_mul]; omega
      have hm1 : (q : Int) * d ≤ 18446744065119617025 := by rw [← Int.natCast_mul]; omega
      go_wp2_with fail
      refine (bitsSub32I u ((cr + q * d) % 4294967296) bo _ _ _ _ rfl ?hY rfl bu (Nat.mod_lt _ (by omega)) hbo).mono ?_
      case hY => clear hm0 hm1; rw [← Int.natCast_mul]; omega
      rintro e w3 ⟨rfl, rfl⟩
      go_wp2
      go_roundw
      case rel => exact ⟨k + 1, _, _, _, by omega, by go_num, int_eq (by clear hm0 hm1; rw [← Int.natCast_mul]; omega), rfl, (HSET.out _) ▸ (hRz.storeI (i + k) _ _ rfl), hst.out, hO.setCell _ _⟩
      case measure => simp [intOf]; omega
    · obtain rfl : k = n := by omega
      have hu := hRz.cell (i := i + k) (mid_len HP.out (by have := hl'.out; omega))
      rw [mid_getD HP.out (by have := hl'.out; omega)] at hu
      have bu := getD_lt hinv.2.1 k
      have hfr := hRz.frozen (i + k)
      have hst := Lib.hid (takeInv_last hinv HDS.out rfl bu)
      have HSET := Lib.hid (fun x => mid_set (post := post) (x := x) HP.out (show k < us'.length by have := hl'.out; omega))
      clear hinv
      generalize us'.getD k 0 = u at *
      by_cases hb1 : u < cr + bo
      · have hif : (if u < cr + bo then 1 else 0 : Nat) = 1 := if_pos hb1
        rw [hif] at hst
        have HIF := Lib.hid hif; clear hif hb1
        go_wp2_with fail
        refine (bitsSub32I u cr bo _ _ _ _ rfl ?hY rfl bu hcr hbo).mono ?_
        case hY => omega
        rw [HIF.out]
        rintro e w3 ⟨rfl, rfl⟩
        have hO2 := hO.setCell (i + k) (.int .u32 (((u + 4294967296 - cr - bo) % 4294967296 : Nat) : Int))
        have hR2 := hRz.storeI (i + k) ((u + 4294967296 - cr - bo) % 4294967296) _ rfl
        rw [HSET.out] at hR2
        obtain ⟨hs1, hs2, hs3⟩ := hst.out
        have S3 := Lib.hid hs3
        have G0 := Lib.hid (giveInv_zero (ds := ds) hs1 hs2)
        generalize us'.set k ((u + 4294967296 - cr - bo) % 4294967296) = us2 at *
        generalize ((u + 4294967296 - cr - bo) % 4294967296 : Nat) = z2 at *
        clear hst HSET hs1 hs3 HIF hl'
        go_wp2
        clear hu
        generalize wr.setCell ⟨g, i + k, none⟩ (.int .u32 (z2 : Int)) = w4 at *
        clear hO hRz hDz
        go_loopw [11, 64] (fun c j wr => ∃ (m mo : Nat) (us3 : List Nat), m ≤ k ∧ j = .int .i64 m ∧ c = .int .u32 mo ∧ RowIs 39 wr g (pre ++ us3 ++ post) ∧ GiveInv us2 us3 ds k m mo ∧ Only g w wr) (fun _ j _ => k - (intOf j).toNat)
        case atStart => exact ⟨0, 0, us2, Nat.zero_le _, rfl, rfl, hR2, G0.out, hO2⟩
        case round =>
          clear hR2 hO2
          obtain ⟨m, mo, us3, hm, rfl, rfl, hR3, hg3, hO3⟩ := hrel
          have hmo : mo ≤ 1 := hg3.2.2.1
          have hl3 := Lib.hid hg3.1
          have hD3 := hO3.row hD hne
          by_cases hlt2 : m < k
          · have hd := hD3.cell (i := m) (by have := HDS.out; omega)
            have bd := getD_lt HLD.out m
            have hu := hR3.cell (i := i + m) (mid_len HP.out (by have := hl3.out; omega))
            rw [mid_getD HP.out (by have := hl3.out; omega)] at hu
            have bu3 := getD_lt hg3.2.1 m
            have hfr3 := hR3.frozen (i + m)
            have hst3 := Lib.hid (giveInv_step hg3 hlt2 HDS.out rfl bd rfl bu3)
            have HSET3 := Lib.hid (fun x => mid_set (post := post) (x := x) HP.out (show m < us3.length by have := hl3.out; omega))
            clear hg3
            generalize ds.getD m 0 = d at *
            generalize us3.getD m 0 = u3 at *
            go_wp2_with (go_at_call 118; refine (bitsAdd32 u3 d mo _ bu3 bd hmo).mono ?_; rintro e w5 ⟨rfl, rfl⟩)
            go_roundw
            case rel => exact ⟨m + 1, _, _, by omega, by go_num, int_eq (by omega), (HSET3.out _) ▸ (hR3.storeI (i + m) _ _ (by omega)), hst3.out, hO3.setCell _ _⟩
            case measure => simp [intOf]; omega
          · obtain rfl : m = k := by omega
            have hu := hR3.cell (i := i + m) (mid_len HP.out (by have := hl3.out; omega))
            rw [mid_getD HP.out (by have := hl3.out; omega)] at hu
            have bu3 := getD_lt hg3.2.1 m
            have hfr3 := hR3.frozen (i + m)
            obtain ⟨k1, k2, k3⟩ := giveInv_last hg3 HDS.out rfl
            have HSET3 := Lib.hid (fun x => mid_set (post := post) (x := x) HP.out (show m < us3.length by have := hl3.out; omega))
            have hfin := takes_yes (by have := T0.out; exact G0.out.1) hs2 S3.out k1 k2 k3 (by omega) HF.out
            have HE := Lib.hid hfin
            have K1 := Lib.hid k1
            clear hg3 hfin k1 k3
            generalize us3.getD m 0 = u3 at *
            go_wp2
            go_ret
            exact ⟨_, ret_bool HE.out.2.symm, (HSET3.out _) ▸ (hR3.storeI (i + m) _ _ (by omega)), K1.out, k2, HE.out.1, hO3.setCell _ _⟩
      · have hif : (if u < cr + bo then 1 else 0 : Nat) = 0 := if_neg hb1
        rw [hif] at hst
        have HIF := Lib.hid hif; clear hif hb1
        obtain ⟨hs1, hs2, hs3⟩ := hst.out
        have HE := Lib.hid (takes_no hs3)
        have S1 := Lib.hid hs1
        clear hs1 hs3 hst
        go_wp2_with fail
        refine (bitsSub32I u cr bo _ _ _ _ rfl ?hY rfl bu hcr hbo).mono ?_
        case hY => omega
        rw [HIF.out]
        rintro e w3 ⟨rfl, rfl⟩
        go_wp2
        go_ret
        exact ⟨_, ret_bool HE.out.2.symm, (HSET.out _) ▸ (hRz.storeI (i + k) _ _ rfl), S1.out, hs2, HE.out.1, hO.setCell _ _⟩

end Go.Proofs.Ytdojdghhbjjoeaa
