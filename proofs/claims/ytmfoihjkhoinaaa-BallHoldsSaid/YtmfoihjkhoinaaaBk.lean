/- vernierref4.Div, vernierlaw4.along, by the abstract walk. Condition: numbers of at most 10^7 limbs. -/
import Derived.Test.YtmfoihjkhoinaaaBg
import Derived.Test.YtmfoihjkhoinaaaBi
namespace Go.Proofs.Ytmfoihjkhoinaaa
open Go.RowKit
set_option linter.unusedSimpArgs false
set_option linter.unusedVariables false

theorem bits_3 (n : Int) : ((BitVec.ofInt 64 n &&& BitVec.ofInt 64 3).toNat : Int) = n % 4 := by
  have h3 : (BitVec.ofInt 64 3).toNat = 2 ^ 2 - 1 := by decide
  rw [BitVec.toNat_and, h3, Nat.and_two_pow_sub_one_eq_mod, BitVec.toNat_ofInt]
  omega
theorem and_3 (n : Int) : bitsI .and .i64 n 3 = n % 4 := by
  show IntKind.i64.wrap ((BitVec.ofInt 64 n &&& BitVec.ofInt 64 3).toNat : Int) = n % 4
  rw [bits_3]
  exact IntWalk.i64_in _ (by omega)
theorem wrap_u32 (n : Int) : IntKind.u32.wrap (n % 4) = n % 4 := by
  have h : ∀ m : Fin 4, IntKind.u32.wrap (m.val : Int) = (m.val : Int) := by decide +kernel
  have := h ⟨(n % 4).toNat, by omega⟩
  simp only at this
  rwa [show (((n % 4).toNat : Nat) : Int) = n % 4 by omega] at this
def alongF (i : Int) : Rat := qv false (i % 4).toNat 3
def alongQ (l h : Rat) (i : Int) : Rat := l + alongF i * (h - l)
theorem alongF_01 (i : Int) : 0 ≤ alongF i ∧ alongF i ≤ 1 := by
  refine ⟨qv_nonneg _ _, ?_⟩
  have e : qv false 1 1 = 1 := by decide +kernel
  unfold alongF
  rw [← e]
  exact (qv_le (by omega) (by omega)).2 (by omega)
theorem rs_alongF (i : Int) : rs (alongF i) ≤ 1 := rs_qv _ _ _ _ (limbs_len_le (by omega)) (by decide) (by omega)
theorem rs_powLo {l h : Rat} {K : Nat} (h1 : rs l ≤ K) (h2 : rs h ≤ K) (hK : 1 ≤ K) {n : Nat} (hn : n ≤ 64) : rs (powLo l h n) ≤ 64 * K + 1 := by
  have k := mul_64 (K := K) hn
  unfold powLo
  split
  · exact rs1 (by omega)
  · split
    · have := rs_qpow (rs_absLo h1 h2 hK) n; omega
    · have := rs_qpow h1 n; omega
theorem rs_powHi {l h : Rat} {K : Nat} (h1 : rs l ≤ K) (h2 : rs h ≤ K) (hK : 1 ≤ K) {n : Nat} (hn : n ≤ 64) : rs (powHi l h n) ≤ 64 * K + 1 := by
  have k := mul_64 (K := K) hn
  unfold powHi
  split
  · exact rs1 (by omega)
  · split
    · have := rs_qpow (rs_absHi h1 h2) n; omega
    · have := rs_qpow h2 n; omega
theorem pn_64 (n : Int) : pn n ≤ 64 := by unfold pn; omega
theorem rs_divLo {a b : BB} {K : Nat} (h1 : rs a.lo.q ≤ K) (h2 : rs a.hi.q ≤ K) (h3 : rs b.lo.q ≤ K) (h4 : rs b.hi.q ≤ K) (hK : 1 ≤ K) : rs (divLo a b) ≤ 2 * (1 + K) := by
  have s1 := rs_one_by h3
  have s2 := rs_one_by h4
  unfold divLo
  split
  · exact rs0 (by omega)
  · exact rs_mulLo (by omega) (by omega) (by show rs (cr _).q ≤ _; rw [cr_q]; omega) (by show rs (cr _).q ≤ _; rw [cr_q]; omega)
theorem rs_divHi {a b : BB} {K : Nat} (h1 : rs a.lo.q ≤ K) (h2 : rs a.hi.q ≤ K) (h3 : rs b.lo.q ≤ K) (h4 : rs b.hi.q ≤ K) (hK : 1 ≤ K) : rs (divHi a b) ≤ 2 * (1 + K) := by
  have s1 := rs_one_by h3
  have s2 := rs_one_by h4
  unfold divHi
  split
  · exact rs0 (by omega)
  · exact rs_mulHi (by omega) (by omega) (by show rs (cr _).q ≤ _; rw [cr_q]; omega) (by show rs (cr _).q ≤ _; rw [cr_q]; omega)
theorem along_f (i : Int) : qv false (val [(i % 4).toNat]) (val [3]) = alongF i := rfl
theorem rs_alongQ {l h : Rat} {K : Nat} (h1 : rs l ≤ K) (h2 : rs h ≤ K) (i : Int) : rs (alongQ l h i) ≤ 3 * K + 3 :=
  rsb_add h1 (rsb_mul (rs_alongF i) (rsb_sub h2 h1 (Nat.le_refl _)) (Nat.le_refl _)) (by omega)
theorem along_mem {l h : Rat} (k : l ≤ h) (i : Int) : l ≤ alongQ l h i ∧ alongQ l h i ≤ h := along_in k (alongF_01 i).1 (alongF_01 i).2
theorem alongQ_eq (l h : Rat) (i : Int) : l + alongF i * (h - l) = alongQ l h i := rfl
theorem val_1 (n : Nat) : val [n] = n := by unfold val; rfl

def d_ref4_Div : Den := den2 aBall aBall (fun a b => a.sz ≤ 10000000 ∧ b.sz ≤ 10000000) fun a b => ballOkV (bb (divLo a b) (divHi a b)) (!zeroIn b)
set_option maxRecDepth 100000 in
set_option maxHeartbeats 4000000 in
theorem s_ref4_Div : Sound Try.prog 134 d_ref4_Div := by
  refine sound2 (fz := nofz) (l := [(72, d_ref2_Int), (124, d_ref4_Has), (86, d_ref4_Of), (93, d_ref2_Div), (50, d_ref4_Mul)]) TT_ok ⟨s_ref2_Int, s_ref4_Has, s_ref4_Of, s_ref2_Div, s_ref4_Mul, trivial⟩ mixed Try.func134 Try.ntmps134 Try.results134 Try.call134 rfl (by omega) (fun _ _ => rfl) ?_
  intro a b hp ha hb
  rw [codeK_start]
  have l := BB.lens hp.1
  have m := BB.lens hp.2
  have q1 : rs a.lo.q ≤ 10000000 := rs_ok ha.1 l.1 (by omega)
  have q2 : rs a.hi.q ≤ 10000000 := rs_ok ha.2 l.2 (by omega)
  have q3 : rs b.lo.q ≤ 10000000 := rs_ok hb.1 m.1 (by omega)
  have q4 : rs b.hi.q ≤ 10000000 := rs_ok hb.2 m.2 (by omega)
  have s1 := rs_one_by q3
  have s2 := rs_one_by q4
  have t1 : rs (1 : Rat) ≤ 1 := rs1 (by omega)
  have t0 : rs (0 : Rat) ≤ 1 := rs0 (by omega)
  cases hz : hasB b.lo.q b.hi.q 0
  · skip
    have e1 : divLo a b = mulLo a ⟨cr (1 / b.hi.q), cr (1 / b.lo.q)⟩ := by unfold divLo zeroIn; rw [hz]; rfl
    have e2 : divHi a b = mulHi a ⟨cr (1 / b.hi.q), cr (1 / b.lo.q)⟩ := by unfold divHi zeroIn; rw [hz]; rfl
    have e3 : zeroIn b = false := hz
    refine cut_seq fun C hC => ?_
    simp only [go_sem, d_ref2_Int, d_ref4_Has, d_ref4_Of, d_ref2_Div, d_ref4_Mul, hz, int1, int0, e1, e2, e3, Nat.reduceBEq, Nat.reduceBNe, Nat.reduceLT, Nat.reduceLeDiff, Nat.reduceAdd, Nat.reduceSub, Nat.reduceMul, Nat.reduceEqDiff, Int.reduceNeg, Int.reduceAdd, Int.reduceLT, Int.reduceLE, Int.reduceToNat, ↓reduceIte]
    try and_intros
    all_goals try (first | assumption | omega | (show okDraw _ _ = true; kernel_rfl))
    subst hC
    refine cut_seq fun C hC => ?_
    simp only [go_sem, d_ref2_Int, d_ref4_Has, d_ref4_Of, d_ref2_Div, d_ref4_Mul, hz, int1, int0, e1, e2, e3, Nat.reduceBEq, Nat.reduceBNe, Nat.reduceLT, Nat.reduceLeDiff, Nat.reduceAdd, Nat.reduceSub, Nat.reduceMul, Nat.reduceEqDiff, Int.reduceNeg, Int.reduceAdd, Int.reduceLT, Int.reduceLE, Int.reduceToNat, ↓reduceIte]
    try and_intros
    all_goals try (first | assumption | omega | (show okDraw _ _ = true; kernel_rfl))
    subst hC
    refine cut_seq fun C hC => ?_
    simp only [go_sem, d_ref2_Int, d_ref4_Has, d_ref4_Of, d_ref2_Div, d_ref4_Mul, hz, int1, int0, e1, e2, e3, Nat.reduceBEq, Nat.reduceBNe, Nat.reduceLT, Nat.reduceLeDiff, Nat.reduceAdd, Nat.reduceSub, Nat.reduceMul, Nat.reduceEqDiff, Int.reduceNeg, Int.reduceAdd, Int.reduceLT, Int.reduceLE, Int.reduceToNat, ↓reduceIte]
    try and_intros
    all_goals try (first | assumption | omega | (show okDraw _ _ = true; kernel_rfl))
    subst hC
    refine cut_seq fun C hC => ?_
    simp only [go_sem, d_ref2_Int, d_ref4_Has, d_ref4_Of, d_ref2_Div, d_ref4_Mul, hz, int1, int0, e1, e2, e3, Nat.reduceBEq, Nat.reduceBNe, Nat.reduceLT, Nat.reduceLeDiff, Nat.reduceAdd, Nat.reduceSub, Nat.reduceMul, Nat.reduceEqDiff, Int.reduceNeg, Int.reduceAdd, Int.reduceLT, Int.reduceLE, Int.reduceToNat, ↓reduceIte]
    try and_intros
    all_goals try (first | assumption | omega | (show okDraw _ _ = true; kernel_rfl))
    subst hC
    simp only [go_sem, d_ref2_Int, d_ref4_Has, d_ref4_Of, d_ref2_Div, d_ref4_Mul, hz, int1, int0, e1, e2, e3, Nat.reduceBEq, Nat.reduceBNe, Nat.reduceLT, Nat.reduceLeDiff, Nat.reduceAdd, Nat.reduceSub, Nat.reduceMul, Nat.reduceEqDiff, Int.reduceNeg, Int.reduceAdd, Int.reduceLT, Int.reduceLE, Int.reduceToNat, ↓reduceIte]
    and_intros
    all_goals first
      | assumption
      | omega
      | exact Nat.max_le.2 ⟨by rw [cr_sz]; omega, by rw [cr_sz]; omega⟩
      | (show okDraw _ _ = true; kernel_rfl)
      | rfl
  · skip
    have e1 : divLo a b = 0 := by unfold divLo zeroIn; rw [hz]; rfl
    have e2 : divHi a b = 0 := by unfold divHi zeroIn; rw [hz]; rfl
    have e3 : zeroIn b = true := hz
    simp only [go_sem, d_ref2_Int, d_ref4_Has, d_ref4_Of, d_ref2_Div, d_ref4_Mul, hz, int1, int0, e1, e2, e3, Nat.reduceBEq, Nat.reduceBNe, Nat.reduceLT, Nat.reduceLeDiff, Nat.reduceAdd, Nat.reduceSub, Nat.reduceMul, Nat.reduceEqDiff, Int.reduceNeg, Int.reduceAdd, Int.reduceLT, Int.reduceLE, Int.reduceToNat, ↓reduceIte]
    and_intros
    all_goals first
      | assumption
      | omega
      | exact Nat.max_le.2 ⟨by rw [cr_sz]; omega, by rw [cr_sz]; omega⟩
      | (show okDraw _ _ = true; kernel_rfl)
      | rfl

def d_law4_along : Den := den2 aBall aInt (fun a _ => a.sz ≤ 10000000) fun a i => ratV (cr (alongQ a.lo.q a.hi.q i))
set_option maxRecDepth 100000 in
set_option maxHeartbeats 1000000 in
theorem s_law4_along : Sound Try.prog 142 d_law4_along := by
  refine sound2 (fz := nofz) (l := [(106, d_ref2_Of), (95, d_ref2_Sub), (42, d_ref2_Mul), (59, d_ref2_Add)]) TT_ok ⟨s_ref2_Of, s_ref2_Sub, s_ref2_Mul, s_ref2_Add, trivial⟩ mixed Try.func142 Try.ntmps142 Try.results142 Try.call142 rfl (by omega) (fun _ _ => rfl) ?_
  intro a b hp ha hb
  rw [codeK_start]
  simp only [go_sem, d_ref2_Of, d_ref2_Sub, d_ref2_Mul, d_ref2_Add, and_3, wrap_u32, along_f, Nat.reduceBEq, Nat.reduceBNe, Nat.reduceLT, Nat.reduceLeDiff, Nat.reduceAdd, Nat.reduceSub, Nat.reduceMul, Nat.reduceEqDiff, Int.reduceNeg, Int.reduceAdd, Int.reduceLT, Int.reduceLE, Int.reduceToNat, ↓reduceIte]
  have l := BB.lens hp
  have q1 : rs a.lo.q ≤ 10000000 := rs_ok ha.1 l.1 (by omega)
  have q2 : rs a.hi.q ≤ 10000000 := rs_ok ha.2 l.2 (by omega)
  have r1 := rs_alongF b
  have r2 : rs (a.hi.q - a.lo.q) ≤ 20000001 := rsb_sub q2 q1 (by omega)
  have r3 : rs (alongF b * (a.hi.q - a.lo.q)) ≤ 20000002 := rsb_mul r1 r2 (by omega)
  exact ⟨⟨by omega, by omega⟩, ⟨by omega, by omega⟩, ⟨by omega, by omega⟩, ⟨by omega, by omega⟩, by kernel_rfl, rfl, rfl, rfl⟩


end Go.Proofs.Ytmfoihjkhoinaaa
