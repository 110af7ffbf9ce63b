/- Contract of nat.long: a number by one of several limbs, and what is left. Conditions: both without noughts at the end, the divisor of two limbs at least and not longer; at most 10^12 limbs. -/
import Derived.Test.YtdojdghhbjjoeaaLong
namespace Go.Proofs.Ytdojdghhbjjoeaa
open Go.RowKit
attribute [local go_sem ↓] Go.wp_at_zero Go.wp_at_succ

theorem piece_getD {zs : List Nat} {i n k : Nat} (h : k < n) : ((zs.drop i).take n).getD k 0 = zs.getD (i + k) 0 := by
  simp only [List.getD_eq_getElem?_getD]
  rw [List.getElem?_take_of_lt h, List.getElem?_drop]

set_option maxRecDepth 100000 in
set_option maxHeartbeats 2000000 in
theorem natLong (w : World) (v1 v2 : Value) (a b b1 b2 : Nat) (h1 : Nt b1 w v1 (limbs a)) (h2 : Nt b2 w v2 (limbs b)) (hn : 2 ≤ (limbs b).length) (hle : (limbs b).length ≤ (limbs a).length) (hL : (limbs a).length ≤ 1000000000000) :
    Calls Try.prog 109 #[v1, v2] w (RetNat2 (a / b) (a % b) w) := by
  have hb0 : 0 < b := by
    rcases Nat.eq_zero_or_pos b with h | h
    · subst h; simp [limbs_zero] at hn
    · exact h
  have TP := limbs_top b hb0
  have V1 := Lib.hid (val_limbs a)
  have V2 := Lib.hid (val_limbs b)
  have X1 := Lib.hid (limbs_lt a)
  have X2 := Lib.hid (limbs_lt b)
  generalize limbs a = A at *
  generalize limbs b = C at *
  obtain ⟨n, hn'⟩ : ∃ n, C.length = n + 2 := ⟨C.length - 2, by omega⟩
  obtain ⟨la, hla⟩ : ∃ la, A.length = la := ⟨_, rfl⟩
  obtain ⟨ao1, c1, rfl, hc1⟩ := h1.open
  obtain ⟨ao2, c2, rfl, hc2⟩ := h2.open
  obtain ⟨b4, off4, rfl, _, hb4, hcC⟩ := h2.at_some (k := n + 1) (by omega)
  have hd := hcC (n + 1) (by omega)
  rw [hn', show n + 2 - 1 = n + 1 from rfl] at TP
  have bt := getD_lt X2.out (n + 1)
  have LZ := lz_spec (by omega) bt
  have NF := norm_fits hn' X2.out LZ.2.2 LZ.1
  have NT := fun ds hd hld hv => norm_top (ds := ds) hn' hd hld hv LZ.2.1
  have NN := norm_num hla X1.out LZ.1
  rw [V2.out] at NF
  rw [V1.out] at NN
  have L1 := fun w1 (hb : Below w.heap.size w w1) B N hB hN => natLeftI w1 _ A b1 (lz (C.getD (n + 1) 0)) (la + 1) B N hB hN (h1.below hb (Nat.le_refl _)) LZ.1 (by omega) (by omega) (by omega) (by rw [V1.out]; exact NN.2)
  have L2 := fun w1 (hb : Below w.heap.size w w1) B N hB hN => natLeftI w1 _ C b2 (lz (C.getD (n + 1) 0)) (n + 2) B N hB hN (h2.below hb (Nat.le_refl _)) LZ.1 (by omega) (by omega) (by omega) (by rw [V2.out]; exact NF)
  rw [V1.out] at L1
  rw [V2.out] at L2
  have hs32 := LZ.1
  have NT' := Lib.hid NT
  rw [V2.out] at NT'
  have NF' := Lib.hid NF
  have NN' := Lib.hid NN
  have L1' := Lib.hid L1
  have L2' := Lib.hid L2
  clear NT NF NN L1 L2 LZ hcC
  have LZC := Lib.hid (bitsLZ (C.getD (n + 1) 0) w bt)
  generalize hs : lz (C.getD (n + 1) 0) = s at *
  clear hs
  generalize C.getD (n + 1) 0 = t at *
  have hle2 : n + 2 ≤ la := by omega
  have hL2 : la ≤ 1000000000000 := by omega
  rw [hn'] at *
  rw [hla] at *
  have hd' : w.cell? ⟨b4, off4 + (n + 2 - 1), none⟩ = some (.int .u32 (t : Int)) := hd
  clear h1 h2 TP
  go_enter Try.func109, Try.ntmps109
  go_wp2_with fail
  refine LZC.out.mono ?_
  rintro e w1 ⟨rfl, rfl⟩
  go_wp2_with fail
  refine (L1'.out w (Below.refl _ _) _ _ ?g1 ?g2).mono ?_
  case g1 => omega
  case g2 => omega
  rintro e w1 ⟨zs, rfl, hR1, hl1, hlt1, hv1, hB1, hsz1⟩
  go_wp2_with fail
  refine (L2'.out w1 hB1 _ _ ?g1 ?g2).mono ?_
  case g1 => omega
  case g2 => omega
  rintro e w2 ⟨ds, rfl, hR2, hl2, hlt2, hv2, hB2, hsz2⟩
  have htop := NT'.out ds hl2 hlt2 hv2
  have HTOP := Lib.hid htop
  clear htop L1' L2' LZC
  obtain ⟨m, hm⟩ : ∃ m, m = la + 1 - (n + 2) := ⟨_, rfl⟩
  have hm1 : la ≤ n + 1 + m := by omega
  have hm2 : n + 1 + m ≤ la := by omega
  have HM := Lib.hid hm
  clear hm
  go_wp2_with (refine wpList_make_row _ rfl _ _ 22 39 rfl Try.underlying22 Try.infoU32 m _ _ rfl rfl (by omega) (by omega) (by omega) ?_; intro w3 hR3 hB3 hsz3)
  have hI0 : LongInv zs (List.replicate m 0) la (n + 2) (a * 2 ^ s) (b * 2 ^ s) m := by
    have := longInv_zero (zs := zs) (ds := ds) (la := la) (n := n + 2) hl1 hlt1 hv1 hl2 (by omega) (by omega) HTOP.out NN'.out.1
    rw [← HM.out, hv2] at this
    exact this
  have HI0 := Lib.hid hI0
  clear hI0
  have HV2 := Lib.hid hv2
  have HL2 := Lib.hid hl2
  have hld' := hlt2
  have b01 : w.heap.size < w1.heap.size := hsz1
  have b12 : w1.heap.size < w2.heap.size := hsz2
  have hZ3 : RowIs 39 w3 w.heap.size zs := (hR1.below hB2 hsz1).below hB3 (by omega)
  have hD3 : RowIs 39 w3 w1.heap.size ds := hR2.below hB3 hsz2
  have hBB : Below w.heap.size w w3 := bthen (bthen hB1 hB2) hB3
  clear hR1 hR2 hB1 hB2 hB3 hv1 hl1 hlt1 hv2 hl2 NN' hd hd'
  generalize hg0 : w.heap.size = g0 at *
  generalize hg1 : w1.heap.size = g1 at *
  generalize hg2 : w2.heap.size = g2 at *
  have HG0 := Lib.hid hg0
  clear hg0 hg1 hg2
  go_loopw [10] (fun i wr => ∃ (k : Nat) (zs qs : List Nat), k ≤ m ∧ i = .int .i64 ((k : Int) - 1) ∧ RowIs 39 wr g0 zs ∧ RowIs 39 wr g1 ds ∧ RowIs 39 wr g2 qs ∧ LongInv zs qs la (n + 2) (a * 2 ^ s) (b * 2 ^ s) k ∧ Below g0 w wr ∧ g2 < wr.heap.size) (fun i _ => ((intOf i) + 1).toNat)
  case atStart => exact ⟨m, zs, _, Nat.le_refl _, rfl, hZ3, hD3, hR3, HI0.out, hBB, hsz3⟩
  case round =>
    clear hZ3 hD3 hR3 HI0 hBB hsz3 zs
    obtain ⟨k, zs, qs, hk, rfl, hZ, hD, hQ, hinv, hBw, hgs⟩ := hrel
    by_cases h0 : k = 0
    · subst h0
      have hend := longInv_end hinv NF'.out hle2
      have hq := hQ.nt (n := m) (cap := m) (by have := hinv.2.2.1; have := HM.out; omega) (Nat.le_refl _) hinv.2.2.2.1
      have hz := (hZ.nt (n := la + 1) (cap := la + 1) hinv.1.symm (Nat.le_refl _) hinv.2.1).take (n + 2) (by omega)
      have hlz : (zs.take (n + 2)).length ≤ 7000000000000 := by simp; omega
      have HE := Lib.hid hend
      have CQ := Lib.hid (fun w4 (hb : Below wr.heap.size wr w4) => natTrim w4 (some ⟨g2, 0, none⟩) m m qs g2 (a / b) (hq.below hb (Nat.le_refl _)) (by omega) hend.1)
      have tq := hq.trimS hend.1
      have CS := Lib.hid (fun w4 N hN (hb : Below wr.heap.size wr w4) => natShiftNeg w4 _ _ g0 s N hN (hz.below hb (Nat.le_refl _)) (by omega) hlz)
      rw [hend.2] at CS
      have bb1 : (0 : Int) ≤ (n : Int) + 2 := by omega
      have bb2 : (n : Int) + 2 ≤ (la : Int) + 1 := by omega
      have q1 : IntKind.i64.wrap (-(s : Int)) = -(s : Int) := by rw [IntWalk.i64_in _ (by omega)]
      have q2 : ((n : Int) + 2).toNat = n + 2 := by omega
      have q3 : IntKind.i64.wrap (s : Int) = (s : Int) := by rw [IntWalk.i64_in _ (by omega)]
      clear hinv hend hq hz hlz hD hQ hZ
      go_wp2_with fail
      go_region_held3 (fun _ => True) (trivial) (first | ((go_simp; go_at_call 103; refine (CQ.out _ (Below.refl _ _).drew).mono ?_; rintro e w4 ⟨rfl, rfl⟩)) | ((go_simp; go_at_call 79; (with_reducible refine (CS.out _ (-(s : Int)) rfl (Below.refl _ _).drew).mono ?_); rintro e w5 ⟨v5, rfl, hn5, hb5⟩)))
      clear q1 q2 q3
      have hbw : Below wr.heap.size wr w5 := ((Below.refl wr.heap.size wr).drew).trans hb5
      have hB5 : Below g0 w w5 := hBw.trans (hbw.mono (by omega))
      have tq5 := tq.below hbw (Nat.le_refl _)
      go_wp2
      go_ret2
      exact ⟨_, _, rfl, by rw [HG0.out]; exact tq5.mono (by omega), by rw [HG0.out]; exact hn5.mono (by show g0 ≤ wr.heap.size; omega), by rw [HG0.out]; exact hB5⟩
    · obtain ⟨i, rfl⟩ : ∃ i, k = i + 1 := ⟨k - 1, by omega⟩
      have hi1 : ((i + 1 : Nat) : Int) - 1 = (i : Int) := by omega
      rw [hi1]
      clear hi1
      have hzl := Lib.hid hinv.1
      have hdl := HL2.out
      have P := longInv_piece hinv (by omega) NF'.out
      obtain ⟨p1, p2, p3, p4, p5, p6⟩ := P
      rw [← HV2.out] at p4
      have GP := guess_piece (n := n) p2 hdl p3 hld' HTOP.out p4
      have hu2 : ((zs.drop i).take (n + 2 + 1)).getD (n + 2) 0 = zs.getD (i + (n + 2)) 0 := piece_getD (by omega)
      have hu1 : ((zs.drop i).take (n + 2 + 1)).getD (n + 1) 0 = zs.getD (i + (n + 1)) 0 := piece_getD (by omega)
      have hu0 : ((zs.drop i).take (n + 2 + 1)).getD n 0 = zs.getD (i + n) 0 := piece_getD (by omega)
      have bz2 := getD_lt hinv.2.1 (i + (n + 2))
      have bz1 := getD_lt hinv.2.1 (i + (n + 1))
      have bz0 := getD_lt hinv.2.1 (i + n)
      have be1 := getD_lt hld' (n + 1)
      have be0 := getD_lt hld' n
      rw [hu2, hu1, hu0] at GP
      have ht1 := HTOP.out
      have u2 := hZ.cell (i := i + (n + 2)) (by have := hzl.out; omega)
      have u1 := hZ.cell (i := i + (n + 1)) (by have := hzl.out; omega)
      have u0 := hZ.cell (i := i + n) (by have := hzl.out; omega)
      have d1 := hD.cell (i := n + 1) (by omega)
      have d0 := hD.cell (i := n) (by omega)
      generalize zs.getD (i + (n + 2)) 0 = z2 at *
      generalize zs.getD (i + (n + 1)) 0 = z1 at *
      generalize zs.getD (i + n) 0 = z0 at *
      generalize ds.getD (n + 1) 0 = e1 at *
      generalize ds.getD n 0 = e0 at *
      have CG := fun w => natGuess w z2 z1 z0 e1 e0 GP.1 bz1 bz0 ht1 be1 be0
      have hX0 := GP.2.1
      generalize hX : guessOf (z2 * 4294967296 + z1) z0 e1 e0 = X at *
      have GP' := Lib.hid GP
      have CG' := Lib.hid CG
      clear GP CG hX hu2 hu1 hu0 p4
      have HINV := Lib.hid hinv
      clear hinv hdl
      obtain ⟨J, hJ⟩ : ∃ J, J = i + (n + 2) := ⟨_, rfl⟩
      obtain ⟨J1, hJ1⟩ : ∃ J, J = i + (n + 1) := ⟨_, rfl⟩
      obtain ⟨J0, hJ0⟩ : ∃ J, J = i + n := ⟨_, rfl⟩
      obtain ⟨N1, hN1⟩ : ∃ J, J = n + 1 := ⟨_, rfl⟩
      rw [← hJ] at u2
      rw [← hJ1] at u1
      rw [← hJ0] at u0
      rw [← hN1] at d1
      have bb1 : (0 : Int) ≤ (J : Int) := by omega
      have bb2 : (J : Int) < (la : Int) + 1 := by omega
      have bb3 : (0 : Int) ≤ (J1 : Int) := by omega
      have bb4 : (J1 : Int) < (la : Int) + 1 := by omega
      have bb5 : (0 : Int) ≤ (J0 : Int) := by omega
      have bb6 : (J0 : Int) < (la : Int) + 1 := by omega
      have bb7 : (0 : Int) ≤ (N1 : Int) := by omega
      have bb8 : (N1 : Int) < (n : Int) + 2 := by omega
      have bb9 : (n : Int) < (n : Int) + 2 := by omega
      have q1 : IntKind.i64.wrap ((i : Int) + ((n : Int) + 2)) = (J : Int) := by rw [IntWalk.i64_in _ (by omega)]; omega
      have q2 : IntKind.i64.wrap ((J : Int) - 1) = (J1 : Int) := by rw [IntWalk.i64_in _ (by omega)]; omega
      have q3 : IntKind.i64.wrap ((J : Int) - 2) = (J0 : Int) := by rw [IntWalk.i64_in _ (by omega)]; omega
      have q4 : IntKind.i64.wrap ((n : Int) + 2 - 1) = (N1 : Int) := by rw [IntWalk.i64_in _ (by omega)]; omega
      have q5 : IntKind.i64.wrap ((n : Int) + 2 - 2) = (n : Int) := by rw [IntWalk.i64_in _ (by omega)]; omega
      have q6 : IntKind.i64.wrap (n : Int) = (n : Int) := by rw [IntWalk.i64_in _ (by omega)]
      have bb10 : (0 : Int) ≤ (n : Int) := by omega
      have HJ := Lib.hid (And.intro hJ (And.intro hJ1 (And.intro hJ0 hN1)))
      clear hJ hJ1 hJ0 hN1
      go_wp2_with fail
      have kz : g0 < wr.drew.heap.size := by show g0 < wr.heap.size; omega
      have kd : g1 < wr.drew.heap.size := by show g1 < wr.heap.size; omega
      go_region_held3 (fun w' => w'.cell? ⟨g0, J, none⟩ = some (.int .u32 z2) ∧ w'.cell? ⟨g0, J1, none⟩ = some (.int .u32 z1) ∧ w'.cell? ⟨g0, J0, none⟩ = some (.int .u32 z0) ∧ w'.cell? ⟨g1, N1, none⟩ = some (.int .u32 e1) ∧ w'.cell? ⟨g1, n, none⟩ = some (.int .u32 e0)) (first | exact ⟨(hbq.cell kz).trans u2, (hbq.cell kz).trans u1, (hbq.cell kz).trans u0, (hbq.cell kd).trans d1, (hbq.cell kd).trans d0⟩ | go_keep) (first | ((go_simp; go_at_call 116; refine (CG'.out _).mono ?_; rintro e w4 ⟨rfl, hbq⟩)))
      clear q1 q2 q3 q4 q5 q6 bb1 bb2 bb3 bb4 bb5 bb6 bb7 bb8 bb9 bb10 u2 u1 u0 d1 d0
      have hbr : Below wr.heap.size wr w4 := ((Below.refl wr.heap.size wr).drew).trans hbq
      have hZ4 := hZ.below hbr (by omega)
      have hD4 := hD.below hbr (by omega)
      have hQ4 := hQ.below hbr hgs
      have hB4 : Below g0 w w4 := hBw.trans (hbr.mono (by omega))
      have hgs4 : g2 < w4.heap.size := Nat.lt_of_lt_of_le hgs hbr.size
      clear hZ hD hQ hBw hgs kz kd hbq hbr
      rw [cut3 zs i (n + 2 + 1)] at hZ4
      have CT := Lib.hid (fun cap hcap => natTakes w4 g0 g1 i (n + 2) cap X (zs.take i) ((zs.drop i).take (n + 2 + 1)) (zs.drop (i + (n + 2 + 1))) ds hZ4 hD4 (by omega) p1 p2 HL2.out p3 hld' hX0 GP'.out.2.2.2 (by omega) (by omega) hcap)
      go_wp2_with fail
      rw [show i + (n + 2) + 1 - i = n + 2 + 1 from by omega]
      refine (CT.out (la + 1 - i) (by omega)).mono ?_
      rintro e w5 ⟨us', rfl, hZ5, hl5, hlt5, hv5, hO5⟩
      have GR := guess_right (U := val ((zs.drop i).take (n + 2 + 1))) (D := val ds) (X := X) (by have := NF'.out; have h := HV2.out; rw [h]; exact Nat.mul_pos hb0 (Nat.two_pow_pos _)) GP'.out.2.2.1 GP'.out.2.2.2
      rw [← hv5] at GR
      have hx5 : (if val ((zs.drop i).take (n + 2 + 1)) < X * val ds then X - 1 else X) < 4294967296 := by split <;> omega
      have ST := longInv_step HINV.out (by omega) NF'.out hl5 hlt5 hx5 (by rw [← HV2.out]; exact GR.1) (by rw [← HV2.out]; exact GR.2)
      have hD5 := hO5.row hD4 (by omega)
      have hQ5 := hO5.row hQ4 (by omega)
      have hB5 : Below g0 w w5 := hB4.trans (hO5.below (Nat.le_refl _))
      have hgs5 : g2 < w5.heap.size := by rw [hO5.size]; exact hgs4
      have hrow := hQ5.cell (i := i) (by have := HINV.out.2.2.1; rw [this]; omega)
      have hfr := hQ5.frozen i
      have hX1 : val ((zs.drop i).take (n + 2 + 1)) < X * val ds → 1 ≤ X := by
        intro h
        rcases Nat.eq_zero_or_pos X with h0 | h0
        · subst h0; simp at h
        · exact h0
      have HHJ := HJ.out
      clear CT GR hx5 hO5 hZ4 hD4 hQ4 hB4 hgs4 hv5
      generalize val ((zs.drop i).take (n + 2 + 1)) = U at *
      generalize val ds = D at *
      generalize qs.getD i 0 = q0 at *
      by_cases hover : U < X * D
      · have hif : (if U < X * D then X - 1 else X) = X - 1 := if_pos hover
        have hde : decide (U < X * D) = true := by simp; exact hover
        have hx1 := hX1 hover
        rw [hif] at ST
        have ST' := Lib.hid ST
        clear ST hif hX1 hover
        go_wp2
        go_roundw
        case rel => exact ⟨i, _, _, by omega, rfl, hZ5.below ((Below.refl _ _).setCell (show g0 + 1 ≤ _ by show g0 + 1 ≤ g2; omega) _) (by omega), hD5.below ((Below.refl _ _).setCell (show g1 + 1 ≤ _ by show g1 + 1 ≤ g2; omega) _) (by omega), hQ5.storeI i (X - 1) _ (by omega), ST'.out, hB5.setCell (by show g0 ≤ g2; omega) _, by simpa using hgs5⟩
        case measure => simp [intOf]
      · have hif : (if U < X * D then X - 1 else X) = X := if_neg hover
        have hde : decide (U < X * D) = false := by simp; omega
        rw [hif] at ST
        have ST' := Lib.hid ST
        clear ST hif hX1 hover
        go_wp2
        go_roundw
        case rel => exact ⟨i, _, _, by omega, rfl, hZ5.below ((Below.refl _ _).setCell (show g0 + 1 ≤ _ by show g0 + 1 ≤ g2; omega) _) (by omega), hD5.below ((Below.refl _ _).setCell (show g1 + 1 ≤ _ by show g1 + 1 ≤ g2; omega) _) (by omega), hQ5.storeI i X _ (by omega), ST'.out, hB5.setCell (by show g0 ≤ g2; omega) _, by simpa using hgs5⟩
        case measure => simp [intOf]

end Go.Proofs.Ytdojdghhbjjoeaa
