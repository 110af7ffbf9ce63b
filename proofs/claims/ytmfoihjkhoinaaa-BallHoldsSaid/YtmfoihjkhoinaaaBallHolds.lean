/- The statement BallHolds: what comes of a number of one ball and one of another one is in what comes of the balls. For every input. -/
import Derived.Test.YtmfoihjkhoinaaaRows
import Derived.Test.YtmfoihjkhoinaaaWkBallHolds
import Derived.WalkKit
import Derived.ProofKit
import Derived.OpenShut
import Derived.Deep.DeepHandedRow
import Derived.Test.YtmfoihjkhoinaaaFx
import Derived.Test.YtmfoihjkhoinaaaGH
import Derived.Test.YtmfoihjkhoinaaaOx
namespace Go.Proofs.Ytmfoihjkhoinaaa.ballHolds
open Go.ChangeShapes Go.WideShapes Go.ChangeAt Go.RowKit Go.Joins

theorem own : ownKnob Try.prog.godebug = none := by kernel_rfl
theorem laidOut : laidOutB Try.prog = true := by kernel_rfl

set_option maxRecDepth 100000 in
set_option maxHeartbeats 1000000 in
theorem contract (H : Type) (enc : TypeId × Value → H) (W : World) (base : Nat) (args : Array Value) (ds gs : List (DataW H)) (before : List MemPlace)
    (hval : ∀ (j : Nat) t v, Try.f28.params[j]? = some t → args[j]? = some v → Value.okWide Try.prog W .any base t v)
    (hW : DataW.Whole enc Try.prog Try.f28.params.toList Rows.ballHoldsSpec.vars false W args.toList ds gs before)
    (hsz0 : (DataW.weightsEach Try.prog (Try.f28.params.toList ++ (OpenSpec.ofChange Rows.ballHoldsSpec).bare.plain.varTypes Try.prog) (ds ++ gs)).all (· ≤ reachBytes) = true) :
    Calls Try.prog 28 args W fun e W' => ∃ v, e = .returned v ∧ Rows.ballHoldsSpec.post enc Try.prog Try.f28 false true false false W args v W' := by
  have hW' := hW
  have hsz := hsz0
  obtain ⟨p, q, hA0, hV, rfl, hfz, hnd⟩ := hW
  have hA : DataW.TrodAll enc Try.prog W 0 (fun _ => true) true Try.f28.params.toList args.toList ds p := hA0
  rw [Try.params28] at hA hval hsz
  obtain ⟨v0, vs0, d0, ds0, p0, q0, hargs0, rfl, rfl, h0, r0⟩ := trodAll_cons hA
  obtain ⟨v1, vs1, d1, ds1, p1, q1, hargs1, rfl, rfl, h1, r1⟩ := trodAll_cons r0
  obtain ⟨v2, vs2, d2, ds2, p2, q2, hargs2, rfl, rfl, h2, r2⟩ := trodAll_cons r1
  obtain ⟨v3, vs3, d3, ds3, p3, q3, hargs3, rfl, rfl, h3, r3⟩ := trodAll_cons r2
  obtain ⟨rfl, rfl, rfl⟩ := trodAll_nil r3
  obtain rfl : args = #[v0, v1, v2, v3] := by cases args; simp_all
  obtain ⟨rfl, rfl⟩ := trodVars_none hV
  have h0k := h0
  have h1k := h1
  have h2k := h2
  have h3k := h3
  obtain ⟨s0, x0, y0, s0', x0', y0', A0, B0, A0', B0', rfl, n0, m0, n0', m0', hball0⟩ := openBall (hval 0 31 v0 rfl rfl) h0
  obtain ⟨la0, lb0, la0', lb0'⟩ := hball0 hsz 0 rfl rfl
  obtain ⟨s1, x1, y1, s1', x1', y1', A1, B1, A1', B1', rfl, n1, m1, n1', m1', hball1⟩ := openBall (hval 1 31 v1 rfl rfl) h1
  obtain ⟨la1, lb1, la1', lb1'⟩ := hball1 hsz 1 rfl rfl
  obtain ⟨z2, rfl, _, _, wz2⟩ := open_int Try.underlying3 (hval 2 3 v2 rfl rfl) h2
  simp [Lit.wf, IntKind.min, IntKind.max, IntKind.signed, IntKind.bits] at wz2
  obtain ⟨z3, rfl, _, _, wz3⟩ := open_int Try.underlying3 (hval 3 3 v3 rfl rfl) h3
  simp [Lit.wf, IntKind.min, IntKind.max, IntKind.signed, IntKind.bits] at wz3
  have hlt0 : ∀ x ∈ p0, x.block < W.heap.size := fun x hx => by simpa using hW'.lt x (by simp [hx])
  have hlt1 : ∀ x ∈ p1, x.block < W.heap.size := fun x hx => by simpa using hW'.lt x (by simp [hx])
  have hlt2 : ∀ x ∈ p2, x.block < W.heap.size := fun x hx => by simpa using hW'.lt x (by simp [hx])
  have hlt3 : ∀ x ∈ p3, x.block < W.heap.size := fun x hx => by simpa using hW'.lt x (by simp [hx])
  refine (law_run s_law4_BallHolds (avs := [ballV ⟨⟨s0, A0, B0⟩, ⟨s0', A0', B0'⟩⟩, ballV ⟨⟨s1, A1, B1⟩, ⟨s1', A1', B1'⟩⟩, intV z2, intV z3]) (w := W) (⟨Nat.max_le.2 ⟨RR.sz_le la0 lb0, RR.sz_le la0' lb0'⟩, Nat.max_le.2 ⟨RR.sz_le la1 lb1, RR.sz_le la1' lb1'⟩⟩) rfl (.cons (ball_P n0 m0 n0' m0') (.cons (ball_P n1 m1 n1' m1') (.cons (int_P) (.cons (int_P) (.nil)))))).mono fun e W' ⟨he, hb⟩ => ?_
  subst he
  exact ⟨_, rfl, _, _, _, [], p0 ++ (p1 ++ (p2 ++ (p3 ++ ([])))), [], hW', trodAll_cons_mk (shut_bool Try.underlying4 _) trodAll_mk0, trodAll_cons_mk (Below.trod laidOut (by kernel_rfl) (of_decide_eq_true (by kernel_rfl)) h0k hb hlt0) (trodAll_cons_mk (Below.trod laidOut (by kernel_rfl) (of_decide_eq_true (by kernel_rfl)) h1k hb hlt1) (trodAll_cons_mk (Below.trod laidOut (by kernel_rfl) (of_decide_eq_true (by kernel_rfl)) h2k hb hlt2) (trodAll_cons_mk (Below.trod laidOut (by kernel_rfl) (of_decide_eq_true (by kernel_rfl)) h3k hb hlt3) (trodAll_mk0)))), rfl, hb.frame _, fun h => by cases h⟩

theorem laid_met (os : Os) (args : Array Value) : laidMet Try.prog Rows.ballHoldsRow.laid (((World.holding Try.prog os ⟨#[], #[], []⟩)).forCall (fun _ _ => 0) ⟨#[], args, []⟩).memory := by
  first | trivial | exact laidMet_of_run' 8 (by kernel_rfl) (by kernel_rfl)
theorem reads (os : Os) {H : Type} (enc : TypeId × Value → H) : ∃ places, DataW.whole enc Try.prog ((World.holding Try.prog os ⟨#[], #[], []⟩).forCall (fun _ _ => 0) ⟨#[], #[.agg #[.bool false, .slice none 0 0, .slice none 0 0, .bool false, .slice none 0 0, .slice none 0 0], .agg #[.bool false, .slice none 0 0, .slice none 0 0, .bool false, .slice none 0 0, .slice none 0 0], .int .i64 0, .int .i64 0], []⟩).memory Try.f28.params.toList Rows.ballHoldsSpec.vars false #[Value.agg #[.bool false, .slice none 0 0, .slice none 0 0, .bool false, .slice none 0 0, .slice none 0 0], Value.agg #[.bool false, .slice none 0 0, .slice none 0 0, .bool false, .slice none 0 0, .slice none 0 0], Value.int .i64 0, Value.int .i64 0].toList 8 = some ([.agg [.agg [.lit (.bool false), .nil, .nil], .agg [.lit (.bool false), .nil, .nil]], .agg [.agg [.lit (.bool false), .nil, .nil], .agg [.lit (.bool false), .nil, .nil]], .lit (.int .i64 0), .lit (.int .i64 0)], [], places) :=
  ⟨[], by kernel_rfl⟩

set_option maxRecDepth 100000 in
theorem lifted (os : Os) (started : os.Started) (H : Type) (enc : TypeId × Value → H) (F : Stop.Interp) :
    ReturnsInHanded {} Try.checked os 28 .any ((OpenSpec.ofChange Rows.ballHoldsSpec).preRow enc Try.prog Try.f28 Rows.ballHoldsRow.domain false Rows.ballHoldsRow.laid) (((OpenSpec.ofChange Rows.ballHoldsSpec).at F).post enc Try.prog Try.f28 false true false false) := by
  obtain ⟨places, hx⟩ := reads os enc
  refine returnsInHanded_of_row (C := Try.checked) (s := OpenSpec.ofChange Rows.ballHoldsSpec) own started (by kernel_rfl) Try.func28
    (witness_row_at (enc := enc) (C := Try.checked) false (World.holding Try.prog os ⟨#[], #[], []⟩) #[.agg #[.bool false, .slice none 0 0, .slice none 0 0, .bool false, .slice none 0 0, .slice none 0 0], .agg #[.bool false, .slice none 0 0, .slice none 0 0, .bool false, .slice none 0 0, .slice none 0 0], .int .i64 0, .int .i64 0] rfl (by kernel_rfl) (by kernel_rfl) (by kernel_rfl)
      (OpenSpec.preRow_of_cond 8 hx (by kernel_rfl) (fun k hk => by cases hk) (by kernel_rfl) (laid_met os _))) ?_
  intro W base args ds gs before hval hW _ _ hsz _ _ _
  exact contract H enc W base args ds gs before hval hW hsz

theorem c0 : (Rows.ballHoldsRow.wf (OpenSpec.ofChange (OpenSpec.ofChange Rows.ballHoldsSpec).bare)) = true := by kernel_rfl
theorem c1 : (laidOutB Try.prog) = true := by exact laidOutIs
theorem c2 : (mapsRowed Try.prog) = true := by kernel_rfl
theorem c3 : (Try.f28.params.all (Try.prog.readableRec ·)) = true := by kernel_rfl
theorem c4 : (namedTie Try.prog Rows.ballHoldsRow.named (OpenSpec.ofChange Rows.ballHoldsSpec).bare.vars) = true := by kernel_rfl
theorem c5 : ((Rows.ballHoldsRow.stops == [])) = true := by kernel_rfl
theorem c6 : ((Try.prog.stops == [])) = true := by kernel_rfl
theorem c7 : ((Rows.ballHoldsRow.knobs == [])) = true := by kernel_rfl
theorem c8 : ((Try.prog.stopKnobs == [])) = true := by kernel_rfl
theorem c9 : ((Rows.ballHoldsRow.inPlace == Try.prog.inPlace 28)) = true := by kernel_rfl
theorem c10 : ((Rows.ballHoldsRow.unfollowed == Try.prog.unfollowed 28)) = true := by kernel_rfl
theorem c11 : ((Rows.ballHoldsRow.recurses == Try.prog.recurses 28)) = true := by kernel_rfl
theorem c12 : ((Rows.ballHoldsRow.named == Try.prog.varsNamed 28)) = true := by kernel_rfl
theorem c13 : ((Rows.ballHoldsRow.maps == (Try.f28.params.toList ++ (OpenSpec.ofChange Rows.ballHoldsSpec).bare.plain.varTypes Try.prog).any (Try.prog.mapsRec ·))) = true := by kernel_rfl
theorem c14 : ((Rows.ballHoldsRow.ifaces == (Try.f28.params.toList ++ (OpenSpec.ofChange Rows.ballHoldsSpec).bare.plain.varTypes Try.prog).any (Try.prog.ifacesRec ·))) = true := by kernel_rfl
theorem c15 : ((Rows.ballHoldsRow.mapsOut == Try.prog.mapsAmong Try.f28.resultTypes.toList)) = true := by kernel_rfl
theorem c16 : ((Rows.ballHoldsRow.loops == (Try.f28.params.toList ++ (OpenSpec.ofChange Rows.ballHoldsSpec).bare.plain.varTypes Try.prog).any (Try.prog.loopsFrom ·))) = true := by kernel_rfl
theorem c17 : ((Rows.ballHoldsRow.wideKeys == (Try.f28.params.toList ++ (OpenSpec.ofChange Rows.ballHoldsSpec).bare.plain.varTypes Try.prog ++ Try.f28.resultTypes.toList).any (Try.prog.wideKeysFrom ·))) = true := by kernel_rfl
theorem c18 : ((OpenSpec.ofChange Rows.ballHoldsSpec).bare.vars.all (Try.prog.varReadable ·)) = true := by kernel_rfl
theorem c19 : (Try.f28.resultTypes.all (fun t => Try.prog.readableRec t && decide (t < Try.prog.types.size))) = true := by kernel_rfl
theorem c20 : ((Rows.ballHoldsRow.ifacesOut == Try.f28.resultTypes.toList.any (Try.prog.ifacesRec ·))) = true := by kernel_rfl
theorem c21 : ((Rows.ballHoldsRow.loopsOut == Try.f28.resultTypes.toList.any (Try.prog.loopsFrom ·))) = true := by kernel_rfl
theorem c22 : ((Rows.ballHoldsRow.plainKeys == Try.prog.plainKeys)) = true := by rw [plainKeysIs]; rfl
theorem c23 : (Rows.ballHoldsRow.shortTexts.isNone) = true := by kernel_rfl
theorem c24 : (Try.prog.stopsHeard) = true := by exact stopsHeardIs
theorem c25 : (Try.prog.mayEnter) = true := by exact mayEnterIs
theorem c26 : ((Rows.ballHoldsRow.lifted == Try.prog.liftsFinal)) = true := by rw [liftsFinalIs]; rfl
theorem c27 : ((Try.prog.make == some Rows.ballHoldsRow.make)) = true := by rw [makeIs]; rfl
theorem c29 : ((Rows.ballHoldsRow.pinned == Rows.ballHoldsRow.pinnedBy)) = true := by kernel_rfl
theorem c30 : ((Rows.ballHoldsRow.veiled == (Try.f28.params.toList ++ (OpenSpec.ofChange Rows.ballHoldsSpec).bare.plain.varTypes Try.prog ++ Try.f28.resultTypes.toList).any (Try.prog.veiledRec ·))) = true := by kernel_rfl
theorem c31 : (Rows.ballHoldsRow.veiledFits Try.prog Try.f28.params.toList (Try.f28.params.toList ++ (OpenSpec.ofChange Rows.ballHoldsSpec).bare.plain.varTypes Try.prog ++ Try.f28.resultTypes.toList)) = true := by kernel_rfl
theorem band {a b : Bool} (h : a = true) (k : b = true) : (a && b) = true := by rw [h, k]; rfl
theorem closed : joinedFacts Try.prog 28 Try.f28 (OpenSpec.ofChange Rows.ballHoldsSpec).bare Rows.ballHoldsRow = true := by
  unfold joinedFacts
  exact band (band (band (band (band (band (band (band (band (band (band (band (band (band (band (band (band (band (band (band (band (band (band (band (band (band (band (band (band (band (band (c0) c1) c2) c3) c4) c5) c6) c7) c8) c9) c10) c11) c12) c13) c14) c15) c16) c17) c18) c19) c20) c21) c22) c23) c24) c25) c26) c27) (by kernel_rfl)) c29) c30) c31

theorem said : Rows.BallHoldsSaid :=
  OpenClaim.holds_of_cond 28 Try.f28 rfl rfl rfl rfl rfl rfl rfl ⟨rfl, rfl, rfl, rfl, rfl⟩ rfl rfl rfl rfl rfl (by kernel_rfl) Try.func28 (by rw [progIs]; exact closed)
    (of_decide_eq_true (by kernel_rfl)) (by unfold Func.isWrapper; first | (rw [if_pos (by decide +kernel)]; kernel_rfl) | (rw [if_neg (by decide +kernel)]; exact ⟨rfl, rfl⟩))
    (fun os started H enc _ F => by rw [OpenClaim.pre_eq_preRow]; exact lifted os started H enc F)

end Go.Proofs.Ytmfoihjkhoinaaa.ballHolds
