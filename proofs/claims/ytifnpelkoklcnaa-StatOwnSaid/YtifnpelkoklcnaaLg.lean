/- stat.Quantile and stat.Median by the abstract walk. Condition: rows of fewer than 20 numbers of at most 1000 limbs. -/
import Derived.Test.YtifnpelkoklcnaaLf
import Derived.Test.YtifnpelkoklcnaaCd
namespace Go.Proofs.Ytifnpelkoklcnaa
open Go.RowKit
set_option linter.unusedSimpArgs false
set_option linter.unusedVariables false

/-- the number that lies q of the way along n numbers -/
def placeQ (q : Rat) (n : Nat) : Rat := q * (((n : Int) - 1 : Int) : Rat)
def wayQ (f : Nat → Rat) (q : Rat) (n : Nat) : Rat :=
  if (placeQ q n).floor.toNat + 1 < n then f (placeQ q n).floor.toNat + (placeQ q n - (((placeQ q n).floor : Int) : Rat)) * (f ((placeQ q n).floor.toNat + 1) - f (placeQ q n).floor.toNat) else f (placeQ q n).floor.toNat
def quantQ (q : Rat) (l : List RR) : Rat := if q < 0 ∨ 1 < q then 0 else if l.length = 0 then 0 else wayQ (atQ (sortR l)) q l.length
def errQ (q : Rat) (l : List RR) : Int := if q < 0 ∨ 1 < q then 1 else if l.length = 0 then 5 else 0
theorem sortR_cr (l : List RR) {i : Nat} (h : i < l.length) : (sortR l).getD i rr0 = cr (atQ (sortR l) i) := by
  have hi : i < (sortR l).length := by rw [sortR_len]; exact h
  have hm : (sortR l).getD i rr0 ∈ sortR l := getD_mem hi
  exact mkL_cr _ ((isort_perm _).mem_iff.1 hm)
theorem place_facts {q : Rat} {n : Nat} (h0 : 0 ≤ q) (h1 : q ≤ 1) (hn : 0 < n) : 0 ≤ (placeQ q n).floor ∧ (placeQ q n).floor < (n : Int) := by
  have hn' : (0 : Rat) ≤ (((n : Int) - 1 : Int) : Rat) := by
    rw [show (0 : Rat) = ((0 : Int) : Rat) from rfl, Rat.intCast_le_intCast]; omega
  have hp : 0 ≤ placeQ q n := Rat.mul_nonneg h0 hn'
  have hp1 : placeQ q n ≤ (((n : Int) - 1 : Int) : Rat) := by
    have := Rat.mul_le_mul_of_nonneg_right h1 hn'
    rw [Rat.one_mul] at this
    exact this
  refine ⟨Rat.le_floor_iff.2 (by rw [show ((0 : Int) : Rat) = 0 from rfl]; exact hp), ?_⟩
  have h2 := Rat.le_trans (Rat.floor_le _) hp1
  rw [Rat.intCast_le_intCast] at h2
  omega

def d_stat_Quantile : Den := den2 aRat aRats (fun q l => q.sz ≤ 1 ∧ l.length < 20 ∧ ∀ r ∈ l, r.sz ≤ 1000) fun q l => ratIntV (cr (quantQ q.q l)) (errQ q.q l)
set_option maxRecDepth 100000 in
set_option maxHeartbeats 1000000 in
theorem s_stat_Quantile : Sound Try.prog 54 d_stat_Quantile := by
  refine sound2 (fz := nofz) (l := [(84, d_rat_Int), (83, d_rat_Cmp), (58, d_stat_Sorted), (98, d_rat_Mul), (99, d_rat_Floor), (100, d_nat_To), (102, d_rat_Sub), (101, d_rat_Add)]) TT_ok ⟨s_rat_Int, s_rat_Cmp, s_stat_Sorted, s_rat_Mul, s_rat_Floor, s_nat_To, s_rat_Sub, s_rat_Add, trivial⟩ mixed Try.func54 Try.ntmps54 Try.results54 Try.call54 rfl (by omega) (fun _ _ => rfl) ?_
  intro q l hp hq hl
  rw [codeK_start]
  have rq : rs q.q ≤ 1 := rs_ok hq hp.1 (by omega)
  have t0 : rs (0 : Rat) ≤ 1 := rs0 (by omega)
  have t1 : rs (1 : Rat) ≤ 1 := rs1 (by omega)
  have zq := hp.1
  have zl := hp.2.1
  have zr := hp.2.2
  have pl : ∀ r ∈ l, r.sz ≤ 1000 := fun r hr => Nat.le_trans (zr r hr) (by omega)
  unfold quantQ errQ
  by_cases c1 : q.q < 0
  · simp only [go_sem, d_rat_Int, d_rat_Cmp, d_stat_Sorted, d_rat_Mul, d_rat_Floor, d_nat_To, d_rat_Sub, d_rat_Add, beq_self_eq_true, eq_self, decide_true, decide_false, Bool.not_true, Bool.not_false, int0, int1, c1, true_or, if_true, Nat.reduceBEq, Nat.reduceBNe, Nat.reduceLT, Nat.reduceLeDiff, Nat.reduceAdd, Nat.reduceSub, Nat.reduceMul, Nat.reduceEqDiff, Int.reduceNeg, Int.reduceAdd, Int.reduceLT, Int.reduceLE, Int.reduceToNat, ↓reduceIte]
    and_intros
    all_goals first | assumption | omega | exact trivial | (show okDraw _ _ = true; kernel_rfl)
  · have c1f : (q.q < 0) = False := eq_false c1
    by_cases c2 : 1 < q.q
    · simp only [go_sem, d_rat_Int, d_rat_Cmp, d_stat_Sorted, d_rat_Mul, d_rat_Floor, d_nat_To, d_rat_Sub, d_rat_Add, beq_self_eq_true, eq_self, decide_true, decide_false, Bool.not_true, Bool.not_false, int0, int1, c1f, c2, false_or, if_true, Nat.reduceBEq, Nat.reduceBNe, Nat.reduceLT, Nat.reduceLeDiff, Nat.reduceAdd, Nat.reduceSub, Nat.reduceMul, Nat.reduceEqDiff, Int.reduceNeg, Int.reduceAdd, Int.reduceLT, Int.reduceLE, Int.reduceToNat, ↓reduceIte]
      and_intros
      all_goals first | assumption | omega | exact trivial | (show okDraw _ _ = true; kernel_rfl)
    · have c2f : (1 < q.q) = False := eq_false c2
      by_cases c3 : l.length = 0
      · have x3 : (((l.length : Nat) : Int) = 0) = True := eq_true (by omega)
        simp only [go_sem, d_rat_Int, d_rat_Cmp, d_stat_Sorted, d_rat_Mul, d_rat_Floor, d_nat_To, d_rat_Sub, d_rat_Add, beq_self_eq_true, eq_self, decide_true, decide_false, Bool.not_true, Bool.not_false, int0, int1, c1f, c2f, c3, x3, or_self, if_true, if_false, Nat.reduceBEq, Nat.reduceBNe, Nat.reduceLT, Nat.reduceLeDiff, Nat.reduceAdd, Nat.reduceSub, Nat.reduceMul, Nat.reduceEqDiff, Int.reduceNeg, Int.reduceAdd, Int.reduceLT, Int.reduceLE, Int.reduceToNat, ↓reduceIte]
        and_intros
        all_goals first | assumption | omega | exact trivial | (show okDraw _ _ = true; kernel_rfl)
      · have x3 : (((l.length : Nat) : Int) = 0) = False := eq_false (by omega)
        have c3f : (l.length = 0) = False := eq_false c3
        obtain ⟨f0, f1⟩ := place_facts (q := q.q) (n := l.length) (Rat.not_lt.1 c1) (Rat.not_lt.1 c2) (by omega)
        obtain ⟨k, hk⟩ : ∃ k : Nat, (placeQ q.q l.length).floor = k := ⟨_, (Int.toNat_of_nonneg f0).symm⟩
        rw [hk] at f1
        have hkl : k < l.length := by omega
        have hpq : q.q * ((((l.length : Nat) : Int) - 1 : Int) : Rat) = placeQ q.q l.length := rfl
        have hnm : val (cr (((k : Nat) : Int) : Rat)).n = k := by
          show val (limbs (nm (((k : Nat) : Int) : Rat))) = k
          rw [val_limbs]
          show (((k : Nat) : Int) : Rat).num.natAbs = k
          rw [Rat.num_intCast]; rfl
        have rql : rs ((((l.length : Nat) : Int) - 1 : Int) : Rat) ≤ 2 := rsb_int (by omega) (by omega) (by omega)
        have rp : rs (placeQ q.q l.length) ≤ 3 := rsb_mul rq rql (by omega)
        have rk : rs (((k : Nat) : Int) : Rat) ≤ 2 := rsb_int (by omega) (by omega) (by omega)
        have hkn : (cr (((k : Nat) : Int) : Rat)).n.length ≤ 2 := by
          have h : (cr (((k : Nat) : Int) : Rat)).sz ≤ 2 := by rw [cr_sz]; exact rk
          unfold RR.sz at h
          omega
        have hq2 := rs_atQ hl zr (by omega)
        have sz := sortR_sz (a := l) hq2
        have srl := sortR_len l
        have hks : k < (sortR l).length := by omega
        have hw1 : IntKind.wrap .i64 ((k : Nat) : Int) = k := by rw [IntKind.wrap_i64]; omega
        have hg := sortR_cr l hkl
        have ha : ∀ i, i < l.length → rs (atQ (sortR l) i) ≤ 1000 := fun i hi => by
          have h := sz _ (getD_mem (d := rr0) (l := sortR l) (i := i) (by omega))
          rw [sortR_cr l hi, cr_sz] at h
          exact h
        have hak := ha k hkl
        unfold wayQ
        rw [hk, Int.toNat_natCast]
        by_cases c4 : k + 1 < l.length
        · have x4 : (((k : Nat) : Int) < ((l.length : Nat) : Int) - 1) = True := eq_true (by omega)
          have hg1 := sortR_cr l c4
          have hks1 : k + 1 < (sortR l).length := by omega
          have hak1 := ha (k + 1) c4
          have hw2 : IntKind.wrap .u64 (((k : Nat) : Int) + 1) = ((k + 1 : Nat) : Int) := by rw [IntKind.wrap_u64]; omega
          have ra := rsb_sub rp rk (Nat.le_refl _)
          have rd := rsb_sub hak1 hak (Nat.le_refl _)
          have rm := rsb_mul ra rd (Nat.le_refl _)
          rw [if_pos c4]
          simp only [go_sem, d_rat_Int, d_rat_Cmp, d_stat_Sorted, d_rat_Mul, d_rat_Floor, d_nat_To, d_rat_Sub, d_rat_Add, beq_self_eq_true, eq_self, decide_true, decide_false, Bool.not_true, Bool.not_false, int0, int1, c1f, c2f, c3f, x3, or_self, if_true, if_false, hpq, hk, hnm, hw1, hw2, x4, srl, getD_rats hks, getD_ratsI hks, getD_rats hks1, getD_ratsI hks1, hg, hg1, Int.ofNat_lt, Int.toNat_natCast, Nat.reduceBEq, Nat.reduceBNe, Nat.reduceLT, Nat.reduceLeDiff, Nat.reduceAdd, Nat.reduceSub, Nat.reduceMul, Nat.reduceEqDiff, Int.reduceNeg, Int.reduceAdd, Int.reduceLT, Int.reduceLE, Int.reduceToNat, ↓reduceIte]
          and_intros
          all_goals first | assumption | omega | exact trivial | (show okDraw _ _ = true; kernel_rfl)
        · have x4 : (((k : Nat) : Int) < ((l.length : Nat) : Int) - 1) = False := eq_false (by omega)
          rw [if_neg c4]
          simp only [go_sem, d_rat_Int, d_rat_Cmp, d_stat_Sorted, d_rat_Mul, d_rat_Floor, d_nat_To, d_rat_Sub, d_rat_Add, beq_self_eq_true, eq_self, decide_true, decide_false, Bool.not_true, Bool.not_false, int0, int1, c1f, c2f, c3f, x3, or_self, if_true, if_false, hpq, hk, hnm, hw1, x4, srl, getD_rats hks, getD_ratsI hks, hg, Int.ofNat_lt, Int.toNat_natCast, Nat.reduceBEq, Nat.reduceBNe, Nat.reduceLT, Nat.reduceLeDiff, Nat.reduceAdd, Nat.reduceSub, Nat.reduceMul, Nat.reduceEqDiff, Int.reduceNeg, Int.reduceAdd, Int.reduceLT, Int.reduceLE, Int.reduceToNat, ↓reduceIte]
          and_intros
          all_goals first | assumption | omega | exact trivial | (show okDraw _ _ = true; kernel_rfl)


end Go.Proofs.Ytifnpelkoklcnaa
