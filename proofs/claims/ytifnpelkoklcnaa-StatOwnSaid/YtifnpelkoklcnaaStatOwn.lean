/- The statement StatOwn: what is handed in is neither changed nor kept. For every input. -/
import Derived.Test.YtifnpelkoklcnaaRows
import Derived.Test.YtifnpelkoklcnaaWkStatOwn
import Derived.WalkKit
import Derived.ProofKit
import Derived.OpenShut
import Derived.Deep.DeepHandedRow
import Derived.Test.YtifnpelkoklcnaaFx
import Derived.Test.YtifnpelkoklcnaaGH
import Derived.Test.YtifnpelkoklcnaaOx
namespace Go.Proofs.Ytifnpelkoklcnaa.statOwn
open Go.ChangeShapes Go.WideShapes Go.ChangeAt Go.RowKit Go.Joins

theorem own : ownKnob Try.prog.godebug = none := by kernel_rfl
theorem laidOut : laidOutB Try.prog = true := by kernel_rfl

set_option maxRecDepth 100000 in
set_option maxHeartbeats 1000000 in
theorem contract (H : Type) (enc : TypeId × Value → H) (W : World) (base : Nat) (args : Array Value) (ds gs : List (DataW H)) (before : List MemPlace)
    (hval : ∀ (j : Nat) t v, Try.f11.params[j]? = some t → args[j]? = some v → Value.okWide Try.prog W .any base t v)
    (hW : DataW.Whole enc Try.prog Try.f11.params.toList Rows.statOwnSpec.vars false W args.toList ds gs before)
    (hsz0 : (DataW.weightsEach Try.prog (Try.f11.params.toList ++ (OpenSpec.ofChange Rows.statOwnSpec).bare.plain.varTypes Try.prog) (ds ++ gs)).all (· ≤ reachBytes) = true) :
    Calls Try.prog 11 args W fun e W' => ∃ v, e = .returned v ∧ Rows.statOwnSpec.post enc Try.prog Try.f11 false true false false W args v W' := by
  have hW' := hW
  have hsz := hsz0
  obtain ⟨p, q, hA0, hV, rfl, hfz, hnd⟩ := hW
  have hA : DataW.TrodAll enc Try.prog W 0 (fun _ => true) true Try.f11.params.toList args.toList ds p := hA0
  rw [Try.params11] at hA hval hsz
  obtain ⟨v0, vs0, d0, ds0, p0, q0, hargs0, rfl, rfl, h0, r0⟩ := trodAll_cons hA
  obtain ⟨rfl, rfl, rfl⟩ := trodAll_nil r0
  obtain rfl : args = #[v0] := by cases args; simp_all
  obtain ⟨rfl, rfl⟩ := trodVars_none hV
  have h0k := h0
  obtain ⟨L0, n0, hrats0⟩ := openRats (hval 0 59 v0 rfl rfl) h0
  have la0 := hrats0 hsz 0 rfl rfl
  have hlt0 : ∀ x ∈ p0, x.block < W.heap.size := fun x hx => by simpa using hW'.lt x (by simp [hx])
  refine (law_run s_law17_StatOwn (avs := [ratsV L0]) (w := W) (by simp only [go_sem, d_law17_StatOwn, Nat.reduceBEq, ↓reduceIte]; exact la0) (by simp only [go_sem, d_law17_StatOwn, Nat.reduceBEq, ↓reduceIte]) (.cons (n0) (.nil))).mono fun e W' ⟨he, hb⟩ => ?_
  subst he
  exact ⟨_, rfl, _, _, _, [], p0 ++ ([]), [], hW', trodAll_cons_mk (shut_bool Try.underlying4 _) trodAll_mk0, trodAll_cons_mk (Below.trod laidOut (by kernel_rfl) (of_decide_eq_true (by kernel_rfl)) h0k hb hlt0) (trodAll_mk0), rfl, hb.frame _, fun h => by cases h⟩

theorem laid_met (os : Os) (args : Array Value) : laidMet Try.prog Rows.statOwnRow.laid (((World.holding Try.prog os ⟨#[], #[], []⟩)).forCall (fun _ _ => 0) ⟨#[], args, []⟩).memory := by
  first | trivial | exact laidMet_of_run' 8 (by kernel_rfl) (by kernel_rfl)
theorem reads (os : Os) {H : Type} (enc : TypeId × Value → H) : ∃ places, DataW.whole enc Try.prog ((World.holding Try.prog os ⟨#[], #[], []⟩).forCall (fun _ _ => 0) ⟨#[], #[.slice none 0 0], []⟩).memory Try.f11.params.toList Rows.statOwnSpec.vars false #[Value.slice none 0 0].toList 8 = some ([.nil], [], places) :=
  ⟨[], by kernel_rfl⟩

set_option maxRecDepth 100000 in
theorem lifted (os : Os) (started : os.Started) (H : Type) (enc : TypeId × Value → H) (F : Stop.Interp) :
    ReturnsInHanded {} Try.checked os 11 .any ((OpenSpec.ofChange Rows.statOwnSpec).preRow enc Try.prog Try.f11 Rows.statOwnRow.domain false Rows.statOwnRow.laid) (((OpenSpec.ofChange Rows.statOwnSpec).at F).post enc Try.prog Try.f11 false true false false) := by
  obtain ⟨places, hx⟩ := reads os enc
  refine returnsInHanded_of_row (C := Try.checked) (s := OpenSpec.ofChange Rows.statOwnSpec) own started (by kernel_rfl) Try.func11
    (witness_row_at (enc := enc) (C := Try.checked) false (World.holding Try.prog os ⟨#[], #[], []⟩) #[.slice none 0 0] rfl (by kernel_rfl) (by kernel_rfl) (by kernel_rfl)
      (OpenSpec.preRow_of_cond 8 hx (by kernel_rfl) (fun k hk => by cases hk) (by kernel_rfl) (laid_met os _))) ?_
  intro W base args ds gs before hval hW _ _ hsz _ _ _
  exact contract H enc W base args ds gs before hval hW hsz

theorem c0 : (Rows.statOwnRow.wf (OpenSpec.ofChange (OpenSpec.ofChange Rows.statOwnSpec).bare)) = true := by kernel_rfl
theorem c1 : (laidOutB Try.prog) = true := by exact laidOutIs
theorem c2 : (mapsRowed Try.prog) = true := by kernel_rfl
theorem c3 : (Try.f11.params.all (Try.prog.readableRec ·)) = true := by kernel_rfl
theorem c4 : (namedTie Try.prog Rows.statOwnRow.named (OpenSpec.ofChange Rows.statOwnSpec).bare.vars) = true := by kernel_rfl
theorem c5 : ((Rows.statOwnRow.stops == [])) = true := by kernel_rfl
theorem c6 : ((Try.prog.stops == [])) = true := by kernel_rfl
theorem c7 : ((Rows.statOwnRow.knobs == [])) = true := by kernel_rfl
theorem c8 : ((Try.prog.stopKnobs == [])) = true := by kernel_rfl
theorem c9 : ((Rows.statOwnRow.inPlace == Try.prog.inPlace 11)) = true := by kernel_rfl
theorem c10 : ((Rows.statOwnRow.unfollowed == Try.prog.unfollowed 11)) = true := by kernel_rfl
theorem c11 : ((Rows.statOwnRow.recurses == Try.prog.recurses 11)) = true := by kernel_rfl
theorem c12 : ((Rows.statOwnRow.named == Try.prog.varsNamed 11)) = true := by kernel_rfl
theorem c13 : ((Rows.statOwnRow.maps == (Try.f11.params.toList ++ (OpenSpec.ofChange Rows.statOwnSpec).bare.plain.varTypes Try.prog).any (Try.prog.mapsRec ·))) = true := by kernel_rfl
theorem c14 : ((Rows.statOwnRow.ifaces == (Try.f11.params.toList ++ (OpenSpec.ofChange Rows.statOwnSpec).bare.plain.varTypes Try.prog).any (Try.prog.ifacesRec ·))) = true := by kernel_rfl
theorem c15 : ((Rows.statOwnRow.mapsOut == Try.prog.mapsAmong Try.f11.resultTypes.toList)) = true := by kernel_rfl
theorem c16 : ((Rows.statOwnRow.loops == (Try.f11.params.toList ++ (OpenSpec.ofChange Rows.statOwnSpec).bare.plain.varTypes Try.prog).any (Try.prog.loopsFrom ·))) = true := by kernel_rfl
theorem c17 : ((Rows.statOwnRow.wideKeys == (Try.f11.params.toList ++ (OpenSpec.ofChange Rows.statOwnSpec).bare.plain.varTypes Try.prog ++ Try.f11.resultTypes.toList).any (Try.prog.wideKeysFrom ·))) = true := by kernel_rfl
theorem c18 : ((OpenSpec.ofChange Rows.statOwnSpec).bare.vars.all (Try.prog.varReadable ·)) = true := by kernel_rfl
theorem c19 : (Try.f11.resultTypes.all (fun t => Try.prog.readableRec t && decide (t < Try.prog.types.size))) = true := by kernel_rfl
theorem c20 : ((Rows.statOwnRow.ifacesOut == Try.f11.resultTypes.toList.any (Try.prog.ifacesRec ·))) = true := by kernel_rfl
theorem c21 : ((Rows.statOwnRow.loopsOut == Try.f11.resultTypes.toList.any (Try.prog.loopsFrom ·))) = true := by kernel_rfl
theorem c22 : ((Rows.statOwnRow.plainKeys == Try.prog.plainKeys)) = true := by rw [plainKeysIs]; rfl
theorem c23 : (Rows.statOwnRow.shortTexts.isNone) = true := by kernel_rfl
theorem c24 : (Try.prog.stopsHeard) = true := by exact stopsHeardIs
theorem c25 : (Try.prog.mayEnter) = true := by exact mayEnterIs
theorem c26 : ((Rows.statOwnRow.lifted == Try.prog.liftsFinal)) = true := by rw [liftsFinalIs]; rfl
theorem c27 : ((Try.prog.make == some Rows.statOwnRow.make)) = true := by rw [makeIs]; rfl
theorem c29 : ((Rows.statOwnRow.pinned == Rows.statOwnRow.pinnedBy)) = true := by kernel_rfl
theorem c30 : ((Rows.statOwnRow.veiled == (Try.f11.params.toList ++ (OpenSpec.ofChange Rows.statOwnSpec).bare.plain.varTypes Try.prog ++ Try.f11.resultTypes.toList).any (Try.prog.veiledRec ·))) = true := by kernel_rfl
theorem c31 : (Rows.statOwnRow.veiledFits Try.prog Try.f11.params.toList (Try.f11.params.toList ++ (OpenSpec.ofChange Rows.statOwnSpec).bare.plain.varTypes Try.prog ++ Try.f11.resultTypes.toList)) = true := by kernel_rfl
theorem band {a b : Bool} (h : a = true) (k : b = true) : (a && b) = true := by rw [h, k]; rfl
theorem closed : joinedFacts Try.prog 11 Try.f11 (OpenSpec.ofChange Rows.statOwnSpec).bare Rows.statOwnRow = true := by
  unfold joinedFacts
  exact band (band (band (band (band (band (band (band (band (band (band (band (band (band (band (band (band (band (band (band (band (band (band (band (band (band (band (band (band (band (band (c0) c1) c2) c3) c4) c5) c6) c7) c8) c9) c10) c11) c12) c13) c14) c15) c16) c17) c18) c19) c20) c21) c22) c23) c24) c25) c26) c27) (by kernel_rfl)) c29) c30) c31

theorem said : Rows.StatOwnSaid :=
  OpenClaim.holds_of_cond 11 Try.f11 rfl rfl rfl rfl rfl rfl rfl ⟨rfl, rfl, rfl, rfl, rfl⟩ rfl rfl rfl rfl rfl (by kernel_rfl) Try.func11 (by rw [progIs]; exact closed)
    (of_decide_eq_true (by kernel_rfl)) (by unfold Func.isWrapper; first | (rw [if_pos (by decide +kernel)]; kernel_rfl) | (rw [if_neg (by decide +kernel)]; exact ⟨rfl, rfl⟩))
    (fun os started H enc _ F => by rw [OpenClaim.pre_eq_preRow]; exact lifted os started H enc F)

end Go.Proofs.Ytifnpelkoklcnaa.statOwn
