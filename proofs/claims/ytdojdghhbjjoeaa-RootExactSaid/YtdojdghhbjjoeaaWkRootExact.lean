/- The law RootExact. Condition: rows shorter than 10^14. -/
import Derived.Test.YtdojdghhbjjoeaaAx
namespace Go.Proofs.Ytdojdghhbjjoeaa
open Go.RowKit
set_option linter.unusedSimpArgs false
set_option linter.unusedVariables false
def d_law5_RootExact : Den := den2 aRat aInt (fun a p => a.sz ≤ 100000000000000) fun a p => boolV true
set_option maxRecDepth 100000 in
set_option maxHeartbeats 4000000 in
theorem s_law5_RootExact : Sound Try.prog 7 d_law5_RootExact := by
  refine sound2 (fz := nofz) (l := [(29, d_law5_big), (22, d_ref2_Norm), (33, d_ref2_Mul), (40, d_root_Square), (32, d_root_Sqrt), (41, d_ref2_Same), (43, d_ref4_Of), (42, d_ref4_Same), (44, d_ref2_Neg), (25, d_ref2_Zero), (39, d_law5_known)]) TT_ok ⟨s_law5_big, s_ref2_Norm, s_ref2_Mul, s_root_Square, s_root_Sqrt, s_ref2_Same, s_ref4_Of, s_ref4_Same, s_ref2_Neg, s_ref2_Zero, s_law5_known, trivial⟩ mixed Try.func7 Try.ntmps7 Try.results7 Try.call7 rfl (by omega) (fun _ _ => rfl) ?_
  intro a p hp ha hp
  rw [codeK_start]
  have hall : ∀ r ∈ [a], r.sz ≤ 100000000000000 := by
    intro r hr
    simp only [List.mem_cons, List.not_mem_nil, or_false] at hr
    rcases hr with rfl <;> first | exact hp | exact hp.1 | exact hp.2 | exact hp.2.1 | exact hp.2.2
  by_cases hbig : [a].any bigR = true
  · skip
    simp only [go_sem, d_law5_big, d_ref2_Norm, d_ref2_Mul, d_root_Square, d_root_Sqrt, d_ref2_Same, d_ref4_Of, d_ref4_Same, d_ref2_Neg, d_ref2_Zero, d_law5_known, hbig, Nat.reduceBEq, Nat.reduceBNe, Nat.reduceLT, Nat.reduceLeDiff, Nat.reduceAdd, Nat.reduceSub, Nat.reduceMul, Nat.reduceEqDiff, Int.reduceNeg, Int.reduceAdd, Int.reduceLT, Int.reduceLE, Int.reduceToNat, ↓reduceIte]
    exact hall
  rw [Bool.not_eq_true] at hbig
  have sa : a.sz ≤ 3 := not_big (any_false hbig a (by simp))
  have ra : rs a.q ≤ 3 := rs_ok ha sa (by omega)
  by_cases h1 : (200 : Int) < p
  · skip
    simp only [go_sem, d_law5_big, d_ref2_Norm, d_ref2_Mul, d_root_Square, d_root_Sqrt, d_ref2_Same, d_ref4_Of, d_ref4_Same, d_ref2_Neg, d_ref2_Zero, d_law5_known, hbig, h1, Nat.reduceBEq, Nat.reduceBNe, Nat.reduceLT, Nat.reduceLeDiff, Nat.reduceAdd, Nat.reduceSub, Nat.reduceMul, Nat.reduceEqDiff, Int.reduceNeg, Int.reduceAdd, Int.reduceLT, Int.reduceLE, Int.reduceToNat, ↓reduceIte]
    exact hall
  have e3 := rr_ab a
  have e1 := sqB_sq a.q
  have e2 := ng_sq a.q
  have e4 := sqR_sq a.q
  have e5 := sqLo_sq a.q p
  have e6 := sqHi_sq a.q p
  have e7 := ng_neg_ab a.q
  have r1 := rs_ab ra (by omega)
  have rp := rs_parts ra
  have sy : (⟨false, (cr a.q).n, (cr a.q).d⟩ : RR).sz ≤ 3 := RR.sz_le rp.1 rp.2
  have es : sameB ⟨cr (ab a.q), cr (ab a.q)⟩ ⟨cr (ab a.q), cr (ab a.q)⟩ = true := by unfold sameB; simp
  have sb : (⟨cr (ab a.q), cr (ab a.q)⟩ : BB).sz ≤ 3 := Nat.max_le.2 ⟨r1, r1⟩
  simp only [go_sem, d_law5_big, d_ref2_Norm, d_ref2_Mul, d_root_Square, d_root_Sqrt, d_ref2_Same, d_ref4_Of, d_ref4_Same, d_ref2_Neg, d_ref2_Zero, d_law5_known, hbig, h1, e1, e2, e3, e4, e5, e6, e7, es, eq_self, decide_true, Bool.not_true, Bool.not_false, Nat.reduceBEq, Nat.reduceBNe, Nat.reduceLT, Nat.reduceLeDiff, Nat.reduceAdd, Nat.reduceSub, Nat.reduceMul, Nat.reduceEqDiff, Int.reduceNeg, Int.reduceAdd, Int.reduceLT, Int.reduceLE, Int.reduceToNat, ↓reduceIte]
  have r2 : rs (a.q * a.q) ≤ 6 := rsb_mul ra ra (by omega)
  have r3 : rs (-ab a.q) ≤ 3 := rsb_neg r1
  and_intros
  all_goals first
    | exact hall
    | omega
    | (show okDraw _ _ = true; kernel_rfl)

end Go.Proofs.Ytdojdghhbjjoeaa
