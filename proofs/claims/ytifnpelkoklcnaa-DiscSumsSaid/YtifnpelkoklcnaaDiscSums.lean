/- The statement DiscSums: at most so many is at most one fewer, and just so many. For every input. -/
import Derived.Test.YtifnpelkoklcnaaRows
import Derived.Test.YtifnpelkoklcnaaWkDiscSums
import Derived.WalkKit
import Derived.ProofKit
import Derived.OpenShut
import Derived.Deep.DeepHandedRow
import Derived.Test.YtifnpelkoklcnaaFx
import Derived.Test.YtifnpelkoklcnaaGH
namespace Go.Proofs.Ytifnpelkoklcnaa.discSums
open Go.ChangeShapes Go.WideShapes Go.ChangeAt Go.RowKit Go.Joins

theorem own : ownKnob Try.prog.godebug = none := by kernel_rfl
theorem laidOut : laidOutB Try.prog = true := by kernel_rfl

set_option maxRecDepth 100000 in
set_option maxHeartbeats 1000000 in
theorem contract (H : Type) (enc : TypeId × Value → H) (W : World) (base : Nat) (args : Array Value) (ds gs : List (DataW H)) (before : List MemPlace)
    (hval : ∀ (j : Nat) t v, Try.f9.params[j]? = some t → args[j]? = some v → Value.okWide Try.prog W .any base t v)
    (hW : DataW.Whole enc Try.prog Try.f9.params.toList Rows.discSumsSpec.vars false W args.toList ds gs before)
    (hsz0 : (DataW.weightsEach Try.prog (Try.f9.params.toList ++ (OpenSpec.ofChange Rows.discSumsSpec).bare.plain.varTypes Try.prog) (ds ++ gs)).all (· ≤ reachBytes) = true) :
    Calls Try.prog 9 args W fun e W' => ∃ v, e = .returned v ∧ Rows.discSumsSpec.post enc Try.prog Try.f9 false true false false W args v W' := by
  have hW' := hW
  have hsz := hsz0
  obtain ⟨p, q, hA0, hV, rfl, hfz, hnd⟩ := hW
  have hA : DataW.TrodAll enc Try.prog W 0 (fun _ => true) true Try.f9.params.toList args.toList ds p := hA0
  rw [Try.params9] at hA hval hsz
  obtain ⟨v0, vs0, d0, ds0, p0, q0, hargs0, rfl, rfl, h0, r0⟩ := trodAll_cons hA
  obtain ⟨v1, vs1, d1, ds1, p1, q1, hargs1, rfl, rfl, h1, r1⟩ := trodAll_cons r0
  obtain ⟨v2, vs2, d2, ds2, p2, q2, hargs2, rfl, rfl, h2, r2⟩ := trodAll_cons r1
  obtain ⟨v3, vs3, d3, ds3, p3, q3, hargs3, rfl, rfl, h3, r3⟩ := trodAll_cons r2
  obtain ⟨v4, vs4, d4, ds4, p4, q4, hargs4, rfl, rfl, h4, r4⟩ := trodAll_cons r3
  obtain ⟨rfl, rfl, rfl⟩ := trodAll_nil r4
  obtain rfl : args = #[v0, v1, v2, v3, v4] := by cases args; simp_all
  obtain ⟨rfl, rfl⟩ := trodVars_none hV
  have h0k := h0
  have h1k := h1
  have h2k := h2
  have h3k := h3
  have h4k := h4
  obtain ⟨z0, rfl, _, _, wz0⟩ := open_int Try.underlying3 (hval 0 3 v0 rfl rfl) h0
  simp [Lit.wf, IntKind.min, IntKind.max, IntKind.signed, IntKind.bits] at wz0
  obtain ⟨z1, rfl, _, _, wz1⟩ := open_int Try.underlying3 (hval 1 3 v1 rfl rfl) h1
  simp [Lit.wf, IntKind.min, IntKind.max, IntKind.signed, IntKind.bits] at wz1
  obtain ⟨s2, x2, y2, A2, B2, e2, g2, rfl, rfl, n2, m2, u2, t2⟩ := openRat (hval 2 24 v2 rfl rfl) h2
  obtain ⟨la2, lb2⟩ := ratLens hsz 2 rfl rfl u2 t2
  obtain ⟨s3, x3, y3, A3, B3, e3, g3, rfl, rfl, n3, m3, u3, t3⟩ := openRat (hval 3 24 v3 rfl rfl) h3
  obtain ⟨la3, lb3⟩ := ratLens hsz 3 rfl rfl u3 t3
  obtain ⟨z4, rfl, _, _, wz4⟩ := open_int Try.underlying3 (hval 4 3 v4 rfl rfl) h4
  simp [Lit.wf, IntKind.min, IntKind.max, IntKind.signed, IntKind.bits] at wz4
  have hlt0 : ∀ x ∈ p0, x.block < W.heap.size := fun x hx => by simpa using hW'.lt x (by simp [hx])
  have hlt1 : ∀ x ∈ p1, x.block < W.heap.size := fun x hx => by simpa using hW'.lt x (by simp [hx])
  have hlt2 : ∀ x ∈ p2, x.block < W.heap.size := fun x hx => by simpa using hW'.lt x (by simp [hx])
  have hlt3 : ∀ x ∈ p3, x.block < W.heap.size := fun x hx => by simpa using hW'.lt x (by simp [hx])
  have hlt4 : ∀ x ∈ p4, x.block < W.heap.size := fun x hx => by simpa using hW'.lt x (by simp [hx])
  refine (law_run s_law13_DiscSums (avs := [intV z0, intV z1, ratV ⟨s2, A2, B2⟩, ratV ⟨s3, A3, B3⟩, intV z4]) (w := W) (⟨RR.sz_le la2 lb2, RR.sz_le la3 lb3⟩) rfl (.cons (int_P) (.cons (int_P) (.cons (rat_P n2 m2) (.cons (rat_P n3 m3) (.cons (int_P) (.nil))))))).mono fun e W' ⟨he, hb⟩ => ?_
  subst he
  exact ⟨_, rfl, _, _, _, [], p0 ++ (p1 ++ (p2 ++ (p3 ++ (p4 ++ ([]))))), [], hW', trodAll_cons_mk (shut_bool Try.underlying4 _) trodAll_mk0, trodAll_cons_mk (Below.trod laidOut (by kernel_rfl) (of_decide_eq_true (by kernel_rfl)) h0k hb hlt0) (trodAll_cons_mk (Below.trod laidOut (by kernel_rfl) (of_decide_eq_true (by kernel_rfl)) h1k hb hlt1) (trodAll_cons_mk (Below.trod laidOut (by kernel_rfl) (of_decide_eq_true (by kernel_rfl)) h2k hb hlt2) (trodAll_cons_mk (Below.trod laidOut (by kernel_rfl) (of_decide_eq_true (by kernel_rfl)) h3k hb hlt3) (trodAll_cons_mk (Below.trod laidOut (by kernel_rfl) (of_decide_eq_true (by kernel_rfl)) h4k hb hlt4) (trodAll_mk0))))), rfl, hb.frame _, fun h => by cases h⟩

theorem laid_met (os : Os) (args : Array Value) : laidMet Try.prog Rows.discSumsRow.laid (((World.holding Try.prog os ⟨#[], #[], []⟩)).forCall (fun _ _ => 0) ⟨#[], args, []⟩).memory := by
  first | trivial | exact laidMet_of_run' 8 (by kernel_rfl) (by kernel_rfl)
theorem reads (os : Os) {H : Type} (enc : TypeId × Value → H) : ∃ places, DataW.whole enc Try.prog ((World.holding Try.prog os ⟨#[], #[], []⟩).forCall (fun _ _ => 0) ⟨#[], #[.int .i64 0, .int .i64 0, .agg #[.bool false, .slice none 0 0, .slice none 0 0], .agg #[.bool false, .slice none 0 0, .slice none 0 0], .int .i64 0], []⟩).memory Try.f9.params.toList Rows.discSumsSpec.vars false #[Value.int .i64 0, Value.int .i64 0, Value.agg #[.bool false, .slice none 0 0, .slice none 0 0], Value.agg #[.bool false, .slice none 0 0, .slice none 0 0], Value.int .i64 0].toList 8 = some ([.lit (.int .i64 0), .lit (.int .i64 0), .agg [.lit (.bool false), .nil, .nil], .agg [.lit (.bool false), .nil, .nil], .lit (.int .i64 0)], [], places) :=
  ⟨[], by kernel_rfl⟩

set_option maxRecDepth 100000 in
theorem lifted (os : Os) (started : os.Started) (H : Type) (enc : TypeId × Value → H) (F : Stop.Interp) :
    ReturnsInHanded {} Try.checked os 9 .any ((OpenSpec.ofChange Rows.discSumsSpec).preRow enc Try.prog Try.f9 Rows.discSumsRow.domain false Rows.discSumsRow.laid) (((OpenSpec.ofChange Rows.discSumsSpec).at F).post enc Try.prog Try.f9 false true false false) := by
  obtain ⟨places, hx⟩ := reads os enc
  refine returnsInHanded_of_row (C := Try.checked) (s := OpenSpec.ofChange Rows.discSumsSpec) own started (by kernel_rfl) Try.func9
    (witness_row_at (enc := enc) (C := Try.checked) false (World.holding Try.prog os ⟨#[], #[], []⟩) #[.int .i64 0, .int .i64 0, .agg #[.bool false, .slice none 0 0, .slice none 0 0], .agg #[.bool false, .slice none 0 0, .slice none 0 0], .int .i64 0] rfl (by kernel_rfl) (by kernel_rfl) (by kernel_rfl)
      (OpenSpec.preRow_of_cond 8 hx (by kernel_rfl) (fun k hk => by cases hk) (by kernel_rfl) (laid_met os _))) ?_
  intro W base args ds gs before hval hW _ _ hsz _ _ _
  exact contract H enc W base args ds gs before hval hW hsz

theorem c0 : (Rows.discSumsRow.wf (OpenSpec.ofChange (OpenSpec.ofChange Rows.discSumsSpec).bare)) = true := by kernel_rfl
theorem c1 : (laidOutB Try.prog) = true := by exact laidOutIs
theorem c2 : (mapsRowed Try.prog) = true := by kernel_rfl
theorem c3 : (Try.f9.params.all (Try.prog.readableRec ·)) = true := by kernel_rfl
theorem c4 : (namedTie Try.prog Rows.discSumsRow.named (OpenSpec.ofChange Rows.discSumsSpec).bare.vars) = true := by kernel_rfl
theorem c5 : ((Rows.discSumsRow.stops == [])) = true := by kernel_rfl
theorem c6 : ((Try.prog.stops == [])) = true := by kernel_rfl
theorem c7 : ((Rows.discSumsRow.knobs == [])) = true := by kernel_rfl
theorem c8 : ((Try.prog.stopKnobs == [])) = true := by kernel_rfl
theorem c9 : ((Rows.discSumsRow.inPlace == Try.prog.inPlace 9)) = true := by kernel_rfl
theorem c10 : ((Rows.discSumsRow.unfollowed == Try.prog.unfollowed 9)) = true := by kernel_rfl
theorem c11 : ((Rows.discSumsRow.recurses == Try.prog.recurses 9)) = true := by kernel_rfl
theorem c12 : ((Rows.discSumsRow.named == Try.prog.varsNamed 9)) = true := by kernel_rfl
theorem c13 : ((Rows.discSumsRow.maps == (Try.f9.params.toList ++ (OpenSpec.ofChange Rows.discSumsSpec).bare.plain.varTypes Try.prog).any (Try.prog.mapsRec ·))) = true := by kernel_rfl
theorem c14 : ((Rows.discSumsRow.ifaces == (Try.f9.params.toList ++ (OpenSpec.ofChange Rows.discSumsSpec).bare.plain.varTypes Try.prog).any (Try.prog.ifacesRec ·))) = true := by kernel_rfl
theorem c15 : ((Rows.discSumsRow.mapsOut == Try.prog.mapsAmong Try.f9.resultTypes.toList)) = true := by kernel_rfl
theorem c16 : ((Rows.discSumsRow.loops == (Try.f9.params.toList ++ (OpenSpec.ofChange Rows.discSumsSpec).bare.plain.varTypes Try.prog).any (Try.prog.loopsFrom ·))) = true := by kernel_rfl
theorem c17 : ((Rows.discSumsRow.wideKeys == (Try.f9.params.toList ++ (OpenSpec.ofChange Rows.discSumsSpec).bare.plain.varTypes Try.prog ++ Try.f9.resultTypes.toList).any (Try.prog.wideKeysFrom ·))) = true := by kernel_rfl
theorem c18 : ((OpenSpec.ofChange Rows.discSumsSpec).bare.vars.all (Try.prog.varReadable ·)) = true := by kernel_rfl
theorem c19 : (Try.f9.resultTypes.all (fun t => Try.prog.readableRec t && decide (t < Try.prog.types.size))) = true := by kernel_rfl
theorem c20 : ((Rows.discSumsRow.ifacesOut == Try.f9.resultTypes.toList.any (Try.prog.ifacesRec ·))) = true := by kernel_rfl
theorem c21 : ((Rows.discSumsRow.loopsOut == Try.f9.resultTypes.toList.any (Try.prog.loopsFrom ·))) = true := by kernel_rfl
theorem c22 : ((Rows.discSumsRow.plainKeys == Try.prog.plainKeys)) = true := by rw [plainKeysIs]; rfl
theorem c23 : (Rows.discSumsRow.shortTexts.isNone) = true := by kernel_rfl
theorem c24 : (Try.prog.stopsHeard) = true := by exact stopsHeardIs
theorem c25 : (Try.prog.mayEnter) = true := by exact mayEnterIs
theorem c26 : ((Rows.discSumsRow.lifted == Try.prog.liftsFinal)) = true := by rw [liftsFinalIs]; rfl
theorem c27 : ((Try.prog.make == some Rows.discSumsRow.make)) = true := by rw [makeIs]; rfl
theorem c29 : ((Rows.discSumsRow.pinned == Rows.discSumsRow.pinnedBy)) = true := by kernel_rfl
theorem c30 : ((Rows.discSumsRow.veiled == (Try.f9.params.toList ++ (OpenSpec.ofChange Rows.discSumsSpec).bare.plain.varTypes Try.prog ++ Try.f9.resultTypes.toList).any (Try.prog.veiledRec ·))) = true := by kernel_rfl
theorem c31 : (Rows.discSumsRow.veiledFits Try.prog Try.f9.params.toList (Try.f9.params.toList ++ (OpenSpec.ofChange Rows.discSumsSpec).bare.plain.varTypes Try.prog ++ Try.f9.resultTypes.toList)) = true := by kernel_rfl
theorem band {a b : Bool} (h : a = true) (k : b = true) : (a && b) = true := by rw [h, k]; rfl
theorem closed : joinedFacts Try.prog 9 Try.f9 (OpenSpec.ofChange Rows.discSumsSpec).bare Rows.discSumsRow = true := by
  unfold joinedFacts
  exact band (band (band (band (band (band (band (band (band (band (band (band (band (band (band (band (band (band (band (band (band (band (band (band (band (band (band (band (band (band (band (c0) c1) c2) c3) c4) c5) c6) c7) c8) c9) c10) c11) c12) c13) c14) c15) c16) c17) c18) c19) c20) c21) c22) c23) c24) c25) c26) c27) (by kernel_rfl)) c29) c30) c31

theorem said : Rows.DiscSumsSaid :=
  OpenClaim.holds_of_cond 9 Try.f9 rfl rfl rfl rfl rfl rfl rfl ⟨rfl, rfl, rfl, rfl, rfl⟩ rfl rfl rfl rfl rfl (by kernel_rfl) Try.func9 (by rw [progIs]; exact closed)
    (of_decide_eq_true (by kernel_rfl)) (by unfold Func.isWrapper; first | (rw [if_pos (by decide +kernel)]; kernel_rfl) | (rw [if_neg (by decide +kernel)]; exact ⟨rfl, rfl⟩))
    (fun os started H enc _ F => by rw [OpenClaim.pre_eq_preRow]; exact lifted os started H enc F)

end Go.Proofs.Ytifnpelkoklcnaa.discSums
