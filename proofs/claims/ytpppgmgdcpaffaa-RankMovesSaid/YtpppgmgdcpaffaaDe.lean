/- What the laws of chapter 18 ask of ranks and pairs. No condition. -/
import Derived.Test.YtpppgmgdcpaffaaDd
namespace Go.Proofs.Ytpppgmgdcpaffaa
open Go.RowKit
set_option linter.unusedSimpArgs false
set_option linter.unusedVariables false

theorem qv_nat (n m : Nat) : qv false n m = (((n : Nat) : Int) : Rat) / (((m : Nat) : Int) : Rat) := by
  unfold qv sg
  rw [Rat.mkRat_eq_div]
  rfl
theorem rs_kenQ {a b : List RR} (ha : a.length ≤ 1000) : rs (kenQ a b) ≤ 5 := by
  unfold kenQ
  split
  · split
    · exact rs0 (by omega)
    · have x1 := pc_bound v1_bd (atQ a) (atQ b) ha
      have x2 := pc_bound v2_bd (atQ a) (atQ b) ha
      have x3 := pc_bound v3_bd (atQ a) (atQ b) ha
      exact rsb_div (rsb_int (K := 2) (by omega) (by omega) (by omega)) (rsb_int (K := 2) (by omega) (by omega) (by omega)) (by omega)
  · exact rs0 (by omega)
theorem rs_speQ {a b : List RR} (ha : a.length ≤ 1000) (hb : b.length ≤ 1000) : rs (speQ a b) ≤ 8800008001 := by
  unfold speQ
  split
  · have c1 := rs_rkC ha hb
    have c2 := rs_rkC ha ha
    have c3 := rs_rkC hb hb
    exact rsb_div (rsb_mul (K := 4400004000) c1 c1 (by omega)) (rsb_mul (K := 4400004000) c2 c3 (by omega)) (by omega)
  · exact rs0 (by omega)

theorem atQ_ranks (l : List RR) {i : Nat} (h : i < l.length) : atQ (ranksL l) i = rankQ (atQ l) l.length i := mkL_at _ h

theorem ranks_sumL (l : List RR) (h : l.length ≤ 12) : sumTo (atQ (ranksL l)) (ranksL l).length = qv false (val [l.length * (l.length + 1)]) (val [2]) := by
  have e : sumTo (atQ (ranksL l)) (ranksL l).length = sumTo (rankQ (atQ l) l.length) l.length := by
    rw [ranksL_len]
    exact sumTo_congr fun i hi => atQ_ranks l hi
  rw [e, ranks_sum, qv_nat]
  have e1 : val [l.length * (l.length + 1)] = l.length * (l.length + 1) := by simp only [val]; omega
  have e2 : val [2] = 2 := rfl
  rw [e1, e2]
  congr 2

/-- all so many times as much, and so much more -/
def moveL (l : List RR) (a b : Rat) (n : Nat) : List RR := mkL (fun i => atQ l i * a + b) n
def negL (l : List RR) (n : Nat) : List RR := mkL (fun i => - atQ l i) n
def turnL (l : List RR) (n : Nat) : List RR := mkL (fun i => (((l.length : Int) + 1 : Int) : Rat) - rankQ (atQ l) l.length i) n

theorem ranks_move {l : List RR} {a b : Rat} (ha : 0 < a) : ranksL (moveL l a b l.length) = ranksL l := by
  unfold ranksL moveL
  rw [mkL_len]
  refine mkL_congr fun i hi => rank_congr fun k hk => ?_
  rw [mkL_at _ hk, mkL_at _ hi]
  exact cmpQ_move ha
theorem ranks_neg (l : List RR) : ranksL (negL l l.length) = turnL l l.length := by
  unfold ranksL negL turnL
  rw [mkL_len]
  exact mkL_congr fun i hi => rank_turn hi fun k hk => mkL_at _ hk

theorem pc_neg {v u : Int → Int} (h : ∀ c, u (-c) = v c) (a b : List RR) (hl : a.length = b.length) : pc u (atQ a) (atQ (negL b b.length)) a.length = pc v (atQ a) (atQ b) a.length :=
  pc_turn h fun k hk => mkL_at _ (by omega)

theorem spe_bound {a b : List RR} (h : a.length = b.length) (h2 : 2 ≤ a.length) (hz : ¬ rkC a a * rkC b b = 0) : 0 ≤ speQ a b ∧ speQ a b ≤ 1 ∧ (speQ a b = 0 ↔ rkC a b = 0) := by
  have he : errP a b = 0 := by unfold errP; rw [if_pos h, if_neg (by omega)]
  have hl : (ranksL a).length = (ranksL b).length := by rw [ranksL_len, ranksL_len]; exact h
  obtain ⟨k1, k2, k3⟩ := cov_cauchy hl (by rw [ranksL_len]; exact h2)
  have hn : 0 ≤ rkC a a * rkC b b := Rat.mul_nonneg k2 k3
  have hp : 0 < rkC a a * rkC b b := by
    rcases Classical.em (0 < rkC a a * rkC b b) with h | h
    · exact h
    · exact absurd (Rat.le_antisymm (Rat.not_lt.1 h) hn) hz
  unfold speQ
  rw [if_pos he]
  refine ⟨div_nonneg' hp (sq_nonneg _), div_le_one hp k1, ?_⟩
  rw [div_zero_iff hz]
  refine ⟨fun h => ?_, fun h => by rw [h, Rat.zero_mul]⟩
  rcases Rat.mul_eq_zero.1 h with h | h <;> exact h

end Go.Proofs.Ytpppgmgdcpaffaa
