/- Contract of vernierref1.Shift, down and up. Conditions: at most 10^12 limbs, at most 4096 bits. -/
import Derived.Test.YtocpmekblkfdiaaGreatDoorGF
import Derived.Test.YtocpmekblkfdiaaGreatDoorShiftUp
import Derived.Test.YtocpmekblkfdiaaGreatDoorGB
namespace Go.Proofs.YtocpmekblkfdiaaGreatDoor
open Go.RowKit
theorem Nt.drop {base : Nat} {w : World} {b off n c : Nat} {xs : List Nat} (h : Nt base w (.slice (some ⟨b, off, none⟩) n c) xs) (L : Nat) (hL : L ≤ n) :
    Nt base w (.slice (some ⟨b, off + L, none⟩) (n - L) (c - L)) (xs.drop L) := by
  obtain ⟨ao', cap', h1, h2, h3, h4, h5⟩ := h
  simp only [Value.slice.injEq] at h1
  obtain ⟨rfl, rfl, rfl⟩ := h1
  refine ⟨_, c - L, by rw [List.length_drop], by rw [List.length_drop]; omega, fun x hx => h3 x (List.mem_of_mem_drop hx), ⟨fun ad e => ?_, fun e => by cases e⟩, fun hp => ?_⟩
  · cases e; exact h4.1 ⟨b, off, none⟩ rfl
  · rw [List.length_drop] at hp
    obtain ⟨b', off', e, hc⟩ := h5 (by omega)
    cases e
    refine ⟨b, off + L, rfl, fun i hi => ?_⟩
    rw [List.length_drop] at hi
    have := hc (L + i) (by omega)
    rw [Nat.add_assoc, this]
    simp only [List.getD_eq_getElem?_getD, List.getElem?_drop]
theorem val_div_pow (A : List Nat) (hA : ∀ x ∈ A, x < 4294967296) (k : Nat) (hk : k ≤ A.length) : val A / 4294967296 ^ k = val (A.drop k) := by
  have h1 := val_split A k hk
  have h2 := val_lt (xs := A.take k) (fun x hx => hA x (List.mem_of_mem_take hx))
  have h3 : (A.take k).length = k := by simp; omega
  rw [h3] at h2
  rw [h1, Nat.add_mul_div_left _ _ (Nat.pow_pos (by omega)), Nat.div_eq_of_lt h2, Nat.zero_add]
theorem wpList_make_own {P : Program} (w : World) {ops : Array Oper} {rest : List Oper} {o : Oper} {a : Act} {Q : Exit → Act → World → Prop}
    (hg : o.guard = none) (l c : Operand) (t E : Nat) (hop : o.op = Op.makeSlice t l c) (h1 : P.underlying t = some (.slice E))
    (hinfo : (P.info? E).map (fun i => (i.zero, i.size, i.bytes)) = some (some (.int .u32 0), 1, 4))
    (n : Nat) (L C : Int) (hl : a.eval l = .int .i64 L) (hc : a.eval c = .int .i64 C) (hL : L = (n : Int)) (hC : C = (n : Int)) (hn : n ≤ 70000000000000)
    (hK : ∀ w', w'.ownsRow w.heap.size E 1 (.slice (some ⟨w.heap.size, 0, none⟩) n n) n (u32s (List.replicate n 0)) → Below w.heap.size w w' → w.heap.size < w'.heap.size →
      wpList P ops Q rest (a.put o.dst (.slice (some ⟨w.heap.size, 0, none⟩) n n)) w') : wpList P ops Q (o :: rest) a w := by
  obtain ⟨i0, hi, hz0, hz1, hz2⟩ := info_parts hinfo
  refine wpList_make_full w hg l c t hop w.heap.size E i0 (.int .u32 0) 1 h1 hi hz0 hz1 .i64 .i64 L C n hl hc hL hC ?_ ?_ (Nat.le_refl _) ?_
  · rw [hz2]; omega
  · unfold maxLen; omega
  · intro w' hown hgrow
    have hR : RowIs E w' w.heap.size (List.replicate n 0) := RowIs.of_make (by rfl) hown
    refine hK w' ?_ ((Below.refl _ _).grown hgrow (Nat.le_refl _) (fun k hk => by cases hk)) hR.lt
    have e : (madeCells (Value.int IntKind.u32 0).cells (n * 1)).toList = u32s (List.replicate n 0) := by
      rw [show (Value.int IntKind.u32 0).cells = #[.int .u32 0] from rfl, Nat.mul_one, toList_madeCells_one]
      simp [u32s]
    rw [e] at hown
    exact hown
/-- the limbs of a number times a power of two, after the zeros and j of them -/
def UpApp (T zs : List Nat) (L by_ j low : Nat) : Prop :=
  zs.length = L + j ∧ (∀ x ∈ zs, x < 4294967296) ∧ low < 2 ^ by_ ∧ val zs + 4294967296 ^ (L + j) * low = 4294967296 ^ L * (2 ^ by_ * val (T.take j))
theorem upApp_zero (T : List Nat) (L by_ : Nat) : UpApp T (List.replicate L 0) L by_ 0 0 :=
  ⟨by simp, replicate_lt L, Nat.two_pow_pos _, by simp [val_replicate, val]⟩
theorem up_word (by_ x low : Nat) (hb : by_ < 32) (hx : x < 4294967296) (hl : low < 2 ^ by_) :
    x * 2 ^ by_ ||| low = x * 2 ^ by_ + low ∧ (x * 2 ^ by_ + low) / 4294967296 = x * 2 ^ by_ / 4294967296 ∧ x * 2 ^ by_ / 4294967296 < 2 ^ by_ ∧ x * 2 ^ by_ < 9223372036854775808 := by
  have hp := pow_parts by_ hb
  have h2 : 2 ^ by_ ≤ 2 ^ 31 := Nat.pow_le_pow_right (by omega) (by omega)
  have h31 : (2 : Nat) ^ 31 = 2147483648 := rfl
  refine ⟨by rw [← Nat.shiftLeft_eq, ← Nat.shiftLeft_add_eq_or_of_lt hl], ?_, ?_, ?_⟩
  · have e : 4294967296 = 2 ^ by_ * 2 ^ (32 - by_) := hp.symm
    rw [e, ← Nat.div_div_eq_div_mul, ← Nat.div_div_eq_div_mul, Nat.mul_comm x, Nat.mul_add_div (Nat.two_pow_pos _), Nat.div_eq_of_lt hl, Nat.add_zero, Nat.mul_div_cancel_left _ (Nat.two_pow_pos _)]
  · rw [Nat.div_lt_iff_lt_mul (by omega), Nat.mul_comm]
    exact Nat.mul_lt_mul_of_pos_left hx (Nat.two_pow_pos _)
  · have := Nat.mul_le_mul (Nat.le_of_lt_succ (show x < 4294967295 + 1 from hx)) h2
    rw [h31] at this
    omega
theorem upApp_step {T zs : List Nat} {L by_ j low x : Nat} (h : UpApp T zs L by_ j low) (hb : by_ < 32) (hT : ∀ x ∈ T, x < 4294967296) (hx : x = T.getD j 0) :
    UpApp T (zs ++ [(x * 2 ^ by_ + low) % 4294967296]) L by_ (j + 1) (x * 2 ^ by_ / 4294967296) := by
  obtain ⟨h1, h2, h3, h4⟩ := h
  have bx : x < 4294967296 := by rw [hx]; exact getD_lt hT j
  obtain ⟨_, e2, e3, _⟩ := up_word by_ x low hb bx h3
  refine ⟨by simp [h1]; omega, snoc_lt h2 (Nat.mod_lt _ (by omega)), e3, ?_⟩
  rw [val_snoc, h1, ← e2, ← Nat.add_assoc L j 1, Nat.pow_succ 4294967296 (L + j), val_take_any, ← hx]
  have key : (x * 2 ^ by_ + low) % 4294967296 + 4294967296 * ((x * 2 ^ by_ + low) / 4294967296) = x * 2 ^ by_ + low := by omega
  generalize (x * 2 ^ by_ + low) % 4294967296 = r at *
  generalize (x * 2 ^ by_ + low) / 4294967296 = q at *
  have e5 : 4294967296 ^ (L + j) * r + 4294967296 ^ (L + j) * 4294967296 * q = 4294967296 ^ (L + j) * (x * 2 ^ by_) + 4294967296 ^ (L + j) * low := by
    rw [Nat.mul_assoc, ← Nat.mul_add, key, Nat.mul_add]
  have e6 : 4294967296 ^ (L + j) * (x * 2 ^ by_) = 4294967296 ^ L * (2 ^ by_ * (4294967296 ^ j * x)) := by
    rw [Nat.pow_add]; simp only [Nat.mul_assoc, Nat.mul_comm, Nat.mul_left_comm]
  rw [Nat.mul_add (2 ^ by_), Nat.mul_add (4294967296 ^ L)]
  omega
theorem upApp_end {T zs : List Nat} {L by_ low k m : Nat} (h : UpApp T zs L by_ (T.length + 1) low) (hl : low = 0) (hk : k = 32 * L + by_) (hm : val T = m) : val zs = m * 2 ^ k := by
  obtain ⟨h1, h2, h3, h4⟩ := h
  rw [hl, List.take_of_length_le (by omega), Nat.mul_zero, Nat.add_zero, hm] at h4
  rw [h4, hk, Nat.pow_add, show 4294967296 = 2 ^ 32 from rfl, ← Nat.pow_mul]
  ac_rfl
set_option maxRecDepth 100000 in
set_option maxHeartbeats 1000000 in
theorem refShiftUp (w : World) (v : Value) (xs : List Nat) (base k : Nat) (h : Nt base w v xs) (hk2 : k ≤ 4096) (hL : xs.length ≤ 1000000000000) :
    Calls Tryz.prog 146 #[v, .int .i64 (k : Int)] w (RetNat (val xs * 2 ^ k) w) := by
  have CT := Lib.hid (refTrim w v xs base h (by omega))
  have l1 := limbs_len_val h.lt
  obtain ⟨L, hLk⟩ : ∃ L, L = k / 32 := ⟨_, rfl⟩
  obtain ⟨by_, hby⟩ : ∃ b, b = k % 32 := ⟨_, rfl⟩
  have HK : Hid (k = 32 * L + by_) := Lib.hid (by omega)
  have hb32 : by_ < 32 := by omega
  have e1 : (k : Int) / 32 = (L : Int) := by omega
  have e2 : (k : Int) % 32 = (by_ : Int) := by omega
  have hLb : L ≤ 4096 := by omega
  have k0 : decide ((k : Int) < 0) = false := by simp
  clear hLk hby h
  generalize hm : val xs = m at *
  clear hm
  have X1 := Lib.hid (limbs_lt m)
  have V := Lib.hid (val_limbs m)
  unfold RetNat at CT
  generalize limbs m = T at *
  go_enter Tryz.func146, Tryz.ntmps146
  go_wp2_with fail
  refine CT.out.mono ?_
  rintro e w1 ⟨u, rfl, t, hb⟩
  obtain ⟨ao, c, rfl, hcap⟩ := t.open
  have C1 := Lib.hid (fun w2 i (hb2 : Below w1.heap.size w1 w2) => refAt w2 _ _ _ i (t.below hb2 (Nat.le_refl _)))
  go_wp2_with (refine wpList_make_own _ rfl (.tmp 60) (.tmp 60) 22 46 rfl Tryz.underlying22 Tryz.infoU32 L _ _ rfl rfl (by omega) (by omega) (by omega) ?_; intro w2 hR hB hsz)
  try rw [e2]
  go_loopw [10, 12, 13, 14] (fun v c i _ wr => ∃ (j low : Nat) (zs : List Nat), j ≤ T.length + 1 ∧ i = .int .i64 j ∧ c = .int .u64 low ∧ wr.ownsRow w1.heap.size 46 1 v (L + j) (u32s zs) ∧ Hid (UpApp T zs L by_ j low) ∧ Below w1.heap.size w1 wr ∧ Hid (j = T.length + 1 → low = 0)) (fun _ _ i _ _ => (T.length + 1) - (intOf i).toNat)
  case atStart => exact ⟨0, 0, _, Nat.zero_le _, rfl, rfl, hR, Lib.hid (upApp_zero T L by_), hB, Lib.hid (by omega)⟩
  case round =>
    obtain ⟨j, low, zs, hj, rfl, rfl, hown, hinv, hBw, hlz⟩ := hrel
    have q2 : IntKind.i64.wrap ((T.length : Int) + 1) = ((T.length + 1 : Nat) : Int) := by rw [IntWalk.i64_in _ (by omega)]; omega
    by_cases hjl : j < T.length + 1
    · have q1 : (j : Int) < ((T.length + 1 : Nat) : Int) := by omega
      have bv := getD_lt X1.out j
      have D1 := Lib.hid (C1.out wr j hBw)
      have hst := Lib.hid (upApp_step hinv.out hb32 X1.out rfl)
      have hl0 : Hid (j + 1 = T.length + 1 → T.getD j 0 * 2 ^ by_ / 4294967296 = 0) := Lib.hid (by intro hj2; rw [getD_of_len (by omega)]; simp)
      have W1 := up_word by_ (T.getD j 0) low hb32 bv hinv.out.2.2.1
      generalize T.getD j 0 = x at *
      obtain ⟨w1', w2', w3', w4'⟩ := W1
      have bl : low < 4294967296 := Nat.lt_of_lt_of_le hinv.out.2.2.1 (Nat.le_trans (Nat.pow_le_pow_right (by omega) (by omega : by_ ≤ 32)) (by decide))
      have es : (x : Int) * 2 ^ by_ = ((x * 2 ^ by_ : Nat) : Int) := by rw [Int.natCast_mul, Int.natCast_pow]; rfl
      have eo : bits .or .u64 ((x * 2 ^ by_ : Nat) : Int) (low : Int) = ((x * 2 ^ by_ + low : Nat) : Int) := by
        rw [u64_or_nat _ _ (by omega) (by omega), w1']
      clear w1' w2' w3'
      generalize x * 2 ^ by_ = y at *
      have L1 : L + j + 1 ≤ 30000000000000 := by omega
      have L2 : w1.heap.size ≤ wr.heap.size + 1 := Nat.le_succ_of_le hBw.size
      have HX := Lib.hid (nt_one 46 wr ((y + low) % 4294967296) (((y + low : Nat) : Int) % 4294967296) (by omega) (Nat.mod_lt _ (by omega)))
      go_wp2_with fail
      refine D1.out.mono ?_
      rintro e w3 ⟨rfl, rfl⟩
      go_wp2_with (at_builtin; refine wpList_append_row _ rfl _ _ 22 46 rfl Tryz.underlying22 Tryz.infoU32 w1.heap.size wr.heap.size (L + j) _ _ zs [(y + low) % 4294967296] rfl (hown.alloc _) rfl HX.out L1 (by rw [World.size_alloc]; exact L2) ?_; intro v' w3 ho hg)
      have hB1 : Below w1.heap.size w1 w3 := ((hBw.alloc hBw.size _).grown hg (by rw [World.size_alloc]; exact L2) (fun b hb => (hown.lt b hb).1))
      go_wp2
      go_roundw
      case rel => exact ⟨j + 1, y / 4294967296, _, by omega, by go_num, int_eq (by omega), ho, hst, hB1, hl0⟩
      case measure => simp [intOf]; omega
    · obtain rfl : j = T.length + 1 := by omega
      have q1 : ¬ ((T.length + 1 : Nat) : Int) < ((T.length + 1 : Nat) : Int) := by omega
      have hE := Lib.hid (upApp_end hinv.out (hlz.out rfl) HK.out V.out)
      have hnt := Nt.of_owns hown hinv.out.1.symm hinv.out.2.1
      have CT2 := Lib.hid (refTrim wr _ zs _ hnt (by have := hinv.out.1; omega))
      rw [hE.out] at CT2
      clear hnt hown
      go_wp2_with fail
      refine CT2.out.mono ?_
      rintro e w3 ⟨u, rfl, t2, hb2⟩
      go_wp2
      go_ret
      exact ⟨_, rfl, t2.mono (Nat.le_trans hb.size hBw.size), bthen hb (bthen hBw hb2)⟩
end Go.Proofs.YtocpmekblkfdiaaGreatDoor
