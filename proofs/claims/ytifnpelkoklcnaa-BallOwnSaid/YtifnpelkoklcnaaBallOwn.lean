/- The statement BallOwn: what is handed in is neither changed nor kept. For every input. -/
import Derived.Test.YtifnpelkoklcnaaRows
import Derived.Test.YtifnpelkoklcnaaWkBallOwn
import Derived.WalkKit
import Derived.ProofKit
import Derived.OpenShut
import Derived.Deep.DeepHandedRow
import Derived.Test.YtifnpelkoklcnaaFx
import Derived.Test.YtifnpelkoklcnaaGH
namespace Go.Proofs.Ytifnpelkoklcnaa.ballOwn
open Go.ChangeShapes Go.WideShapes Go.ChangeAt Go.RowKit Go.Joins

theorem own : ownKnob Try.prog.godebug = none := by kernel_rfl
theorem laidOut : laidOutB Try.prog = true := by kernel_rfl

set_option maxRecDepth 100000 in
set_option maxHeartbeats 1000000 in
theorem contract (H : Type) (enc : TypeId × Value → H) (W : World) (base : Nat) (args : Array Value) (ds gs : List (DataW H)) (before : List MemPlace)
    (hval : ∀ (j : Nat) t v, Try.f3.params[j]? = some t → args[j]? = some v → Value.okWide Try.prog W .any base t v)
    (hW : DataW.Whole enc Try.prog Try.f3.params.toList Rows.ballOwnSpec.vars false W args.toList ds gs before)
    (hsz0 : (DataW.weightsEach Try.prog (Try.f3.params.toList ++ (OpenSpec.ofChange Rows.ballOwnSpec).bare.plain.varTypes Try.prog) (ds ++ gs)).all (· ≤ reachBytes) = true) :
    Calls Try.prog 3 args W fun e W' => ∃ v, e = .returned v ∧ Rows.ballOwnSpec.post enc Try.prog Try.f3 false true false false W args v W' := by
  have hW' := hW
  have hsz := hsz0
  obtain ⟨p, q, hA0, hV, rfl, hfz, hnd⟩ := hW
  have hA : DataW.TrodAll enc Try.prog W 0 (fun _ => true) true Try.f3.params.toList args.toList ds p := hA0
  rw [Try.params3] at hA hval hsz
  obtain ⟨v0, vs0, d0, ds0, p0, q0, hargs0, rfl, rfl, h0, r0⟩ := trodAll_cons hA
  obtain ⟨rfl, rfl, rfl⟩ := trodAll_nil r0
  obtain rfl : args = #[v0] := by cases args; simp_all
  obtain ⟨rfl, rfl⟩ := trodVars_none hV
  have h0k := h0
  obtain ⟨s0, x0, y0, A0, B0, e0, g0, rfl, rfl, n0, m0, u0, t0⟩ := openRat (hval 0 24 v0 rfl rfl) h0
  obtain ⟨la0, lb0⟩ := ratLens hsz 0 rfl rfl u0 t0
  have hlt0 : ∀ x ∈ p0, x.block < W.heap.size := fun x hx => by simpa using hW'.lt x (by simp [hx])
  refine (law_run s_law4_BallOwn (avs := [ratV ⟨s0, A0, B0⟩]) (w := W) (RR.sz_le la0 lb0) rfl (.cons (rat_P n0 m0) (.nil))).mono fun e W' ⟨he, hb⟩ => ?_
  subst he
  exact ⟨_, rfl, _, _, _, [], p0 ++ ([]), [], hW', trodAll_cons_mk (shut_bool Try.underlying4 _) trodAll_mk0, trodAll_cons_mk (Below.trod laidOut (by kernel_rfl) (of_decide_eq_true (by kernel_rfl)) h0k hb hlt0) (trodAll_mk0), rfl, hb.frame _, fun h => by cases h⟩

theorem laid_met (os : Os) (args : Array Value) : laidMet Try.prog Rows.ballOwnRow.laid (((World.holding Try.prog os ⟨#[], #[], []⟩)).forCall (fun _ _ => 0) ⟨#[], args, []⟩).memory := by
  first | trivial | exact laidMet_of_run' 8 (by kernel_rfl) (by kernel_rfl)
theorem reads (os : Os) {H : Type} (enc : TypeId × Value → H) : ∃ places, DataW.whole enc Try.prog ((World.holding Try.prog os ⟨#[], #[], []⟩).forCall (fun _ _ => 0) ⟨#[], #[.agg #[.bool false, .slice none 0 0, .slice none 0 0]], []⟩).memory Try.f3.params.toList Rows.ballOwnSpec.vars false #[Value.agg #[.bool false, .slice none 0 0, .slice none 0 0]].toList 8 = some ([.agg [.lit (.bool false), .nil, .nil]], [], places) :=
  ⟨[], by kernel_rfl⟩

set_option maxRecDepth 100000 in
theorem lifted (os : Os) (started : os.Started) (H : Type) (enc : TypeId × Value → H) (F : Stop.Interp) :
    ReturnsInHanded {} Try.checked os 3 .any ((OpenSpec.ofChange Rows.ballOwnSpec).preRow enc Try.prog Try.f3 Rows.ballOwnRow.domain false Rows.ballOwnRow.laid) (((OpenSpec.ofChange Rows.ballOwnSpec).at F).post enc Try.prog Try.f3 false true false false) := by
  obtain ⟨places, hx⟩ := reads os enc
  refine returnsInHanded_of_row (C := Try.checked) (s := OpenSpec.ofChange Rows.ballOwnSpec) own started (by kernel_rfl) Try.func3
    (witness_row_at (enc := enc) (C := Try.checked) false (World.holding Try.prog os ⟨#[], #[], []⟩) #[.agg #[.bool false, .slice none 0 0, .slice none 0 0]] rfl (by kernel_rfl) (by kernel_rfl) (by kernel_rfl)
      (OpenSpec.preRow_of_cond 8 hx (by kernel_rfl) (fun k hk => by cases hk) (by kernel_rfl) (laid_met os _))) ?_
  intro W base args ds gs before hval hW _ _ hsz _ _ _
  exact contract H enc W base args ds gs before hval hW hsz

theorem c0 : (Rows.ballOwnRow.wf (OpenSpec.ofChange (OpenSpec.ofChange Rows.ballOwnSpec).bare)) = true := by kernel_rfl
theorem c1 : (laidOutB Try.prog) = true := by exact laidOutIs
theorem c2 : (mapsRowed Try.prog) = true := by kernel_rfl
theorem c3 : (Try.f3.params.all (Try.prog.readableRec ·)) = true := by kernel_rfl
theorem c4 : (namedTie Try.prog Rows.ballOwnRow.named (OpenSpec.ofChange Rows.ballOwnSpec).bare.vars) = true := by kernel_rfl
theorem c5 : ((Rows.ballOwnRow.stops == [])) = true := by kernel_rfl
theorem c6 : ((Try.prog.stops == [])) = true := by kernel_rfl
theorem c7 : ((Rows.ballOwnRow.knobs == [])) = true := by kernel_rfl
theorem c8 : ((Try.prog.stopKnobs == [])) = true := by kernel_rfl
theorem c9 : ((Rows.ballOwnRow.inPlace == Try.prog.inPlace 3)) = true := by kernel_rfl
theorem c10 : ((Rows.ballOwnRow.unfollowed == Try.prog.unfollowed 3)) = true := by kernel_rfl
theorem c11 : ((Rows.ballOwnRow.recurses == Try.prog.recurses 3)) = true := by kernel_rfl
theorem c12 : ((Rows.ballOwnRow.named == Try.prog.varsNamed 3)) = true := by kernel_rfl
theorem c13 : ((Rows.ballOwnRow.maps == (Try.f3.params.toList ++ (OpenSpec.ofChange Rows.ballOwnSpec).bare.plain.varTypes Try.prog).any (Try.prog.mapsRec ·))) = true := by kernel_rfl
theorem c14 : ((Rows.ballOwnRow.ifaces == (Try.f3.params.toList ++ (OpenSpec.ofChange Rows.ballOwnSpec).bare.plain.varTypes Try.prog).any (Try.prog.ifacesRec ·))) = true := by kernel_rfl
theorem c15 : ((Rows.ballOwnRow.mapsOut == Try.prog.mapsAmong Try.f3.resultTypes.toList)) = true := by kernel_rfl
theorem c16 : ((Rows.ballOwnRow.loops == (Try.f3.params.toList ++ (OpenSpec.ofChange Rows.ballOwnSpec).bare.plain.varTypes Try.prog).any (Try.prog.loopsFrom ·))) = true := by kernel_rfl
theorem c17 : ((Rows.ballOwnRow.wideKeys == (Try.f3.params.toList ++ (OpenSpec.ofChange Rows.ballOwnSpec).bare.plain.varTypes Try.prog ++ Try.f3.resultTypes.toList).any (Try.prog.wideKeysFrom ·))) = true := by kernel_rfl
theorem c18 : ((OpenSpec.ofChange Rows.ballOwnSpec).bare.vars.all (Try.prog.varReadable ·)) = true := by kernel_rfl
theorem c19 : (Try.f3.resultTypes.all (fun t => Try.prog.readableRec t && decide (t < Try.prog.types.size))) = true := by kernel_rfl
theorem c20 : ((Rows.ballOwnRow.ifacesOut == Try.f3.resultTypes.toList.any (Try.prog.ifacesRec ·))) = true := by kernel_rfl
theorem c21 : ((Rows.ballOwnRow.loopsOut == Try.f3.resultTypes.toList.any (Try.prog.loopsFrom ·))) = true := by kernel_rfl
theorem c22 : ((Rows.ballOwnRow.plainKeys == Try.prog.plainKeys)) = true := by rw [plainKeysIs]; rfl
theorem c23 : (Rows.ballOwnRow.shortTexts.isNone) = true := by kernel_rfl
theorem c24 : (Try.prog.stopsHeard) = true := by exact stopsHeardIs
theorem c25 : (Try.prog.mayEnter) = true := by exact mayEnterIs
theorem c26 : ((Rows.ballOwnRow.lifted == Try.prog.liftsFinal)) = true := by rw [liftsFinalIs]; rfl
theorem c27 : ((Try.prog.make == some Rows.ballOwnRow.make)) = true := by rw [makeIs]; rfl
theorem c29 : ((Rows.ballOwnRow.pinned == Rows.ballOwnRow.pinnedBy)) = true := by kernel_rfl
theorem c30 : ((Rows.ballOwnRow.veiled == (Try.f3.params.toList ++ (OpenSpec.ofChange Rows.ballOwnSpec).bare.plain.varTypes Try.prog ++ Try.f3.resultTypes.toList).any (Try.prog.veiledRec ·))) = true := by kernel_rfl
theorem c31 : (Rows.ballOwnRow.veiledFits Try.prog Try.f3.params.toList (Try.f3.params.toList ++ (OpenSpec.ofChange Rows.ballOwnSpec).bare.plain.varTypes Try.prog ++ Try.f3.resultTypes.toList)) = true := by kernel_rfl
theorem band {a b : Bool} (h : a = true) (k : b = true) : (a && b) = true := by rw [h, k]; rfl
theorem closed : joinedFacts Try.prog 3 Try.f3 (OpenSpec.ofChange Rows.ballOwnSpec).bare Rows.ballOwnRow = true := by
  unfold joinedFacts
  exact band (band (band (band (band (band (band (band (band (band (band (band (band (band (band (band (band (band (band (band (band (band (band (band (band (band (band (band (band (band (band (c0) c1) c2) c3) c4) c5) c6) c7) c8) c9) c10) c11) c12) c13) c14) c15) c16) c17) c18) c19) c20) c21) c22) c23) c24) c25) c26) c27) (by kernel_rfl)) c29) c30) c31

theorem said : Rows.BallOwnSaid :=
  OpenClaim.holds_of_cond 3 Try.f3 rfl rfl rfl rfl rfl rfl rfl ⟨rfl, rfl, rfl, rfl, rfl⟩ rfl rfl rfl rfl rfl (by kernel_rfl) Try.func3 (by rw [progIs]; exact closed)
    (of_decide_eq_true (by kernel_rfl)) (by unfold Func.isWrapper; first | (rw [if_pos (by decide +kernel)]; kernel_rfl) | (rw [if_neg (by decide +kernel)]; exact ⟨rfl, rfl⟩))
    (fun os started H enc _ F => by rw [OpenClaim.pre_eq_preRow]; exact lifted os started H enc F)

end Go.Proofs.Ytifnpelkoklcnaa.ballOwn
