/- The statement TopExact, as its card: how likely so many tries succeed is told exactly, and the decimal of it is near. For every input. The card ties the row's listed variables to the program's text (the given tie). -/
import Derived.Test.YtocpmekblkfdiaaGreatDoorCards
import Derived.Test.YtocpmekblkfdiaaGreatDoorTie
import Derived.Test.YtocpmekblkfdiaaGreatDoorQh
import Derived.Test.YtocpmekblkfdiaaGreatDoorFx
import Derived.Test.YtocpmekblkfdiaaGreatDoorGH
import Derived.WalkKit
import Derived.ProofKit
import Derived.OpenShut
import Derived.Deep.DeepHandedRow
import Derived.LaidMore
import Derived.Lay
import Derived.SevenTiedAt
namespace Go.Proofs.YtocpmekblkfdiaaGreatDoor.topExact
open Go.ChangeShapes Go.WideShapes Go.ChangeAt Go.RowKit Go.Joins
theorem own : ownKnob Tryz.prog.godebug = none := by kernel_rfl
theorem laidOut : laidOutB Tryz.prog = true := by kernel_rfl
/-- a variable of ONE cell, of type int, holds an int -/
theorem int_of_shape {P : Program} {w : World} {g : Nat} {t : TypeId} {zero : Array Value} (h : w.ShapedOpen P) (hg : g < P.globals.size)
    (h0 : ((begin P (fun _ _ => 0) default).world.heap[g]?).bind Obj.row? = some (zero, t)) (hz : zero.size = 1)
    (hb : P.buildable t = true) (hc : P.cellTypes P.depth t = some [t]) (hu : P.underlying t = some (.int .i64)) : g < w.heap.size ∧ ∃ n : Int, w.cell? ⟨g, 0, none⟩ = some (.int .i64 n) := by
  obtain ⟨cs, hh, hs, hr⟩ := h.1 g zero t hg h0
  obtain ⟨ts, hts, _, hall⟩ := hr hb
  rw [hc] at hts
  cases hts
  have h1 : 0 < cs.size := by omega
  obtain ⟨u, hu', hok⟩ := hall 0 cs[0] (by simp [h1])
  have : u = t := by simpa using hu'.symm
  subst this
  have hcell : w.cell? ⟨g, 0, none⟩ = some cs[0] := by simp [World.cell?, hh, h1]
  refine ⟨(Array.getElem?_eq_some_iff.1 hh).1, ?_⟩
  rw [hcell]
  unfold Cell.ok at hok
  rw [hu] at hok
  cases hv : cs[0] with
  | int k n =>
    rw [hv] at hok
    obtain ⟨rfl, _⟩ := hok
    exact ⟨n, rfl⟩
  | _ => rw [hv] at hok; exact hok.elim
theorem gl_row : ((begin Tryz.prog (fun _ _ => 0) default).world.heap[3]?).bind Obj.row? = some (#[.int .i64 0], 3) := by kernel_rfl
theorem gl_lt : 3 < Tryz.prog.globals.size := of_decide_eq_true (by kernel_rfl)
theorem gl_build : Tryz.prog.buildable 3 = true := by kernel_rfl
theorem gl_cells : Tryz.prog.cellTypes Tryz.prog.depth 3 = some [3] := by kernel_rfl
/-- that variable holds an int, in whatever world the form speaks of -/
theorem gl_of {W : World} (h : W.ShapedOpen Tryz.prog) : glW W := int_of_shape h gl_lt gl_row rfl gl_build gl_cells Tryz.underlying3
set_option maxRecDepth 100000 in
set_option maxHeartbeats 1000000 in
theorem contract (H : Type) (enc : TypeId × Value → H) (W : World) (base : Nat) (args : Array Value) (ds gs : List (DataW H)) (before : List MemPlace)
    (hval : ∀ (j : Nat) t v, Tryz.f3.params[j]? = some t → args[j]? = some v → Value.okWide Tryz.prog W .any base t v)
    (hW : DataW.Whole enc Tryz.prog Tryz.f3.params.toList Rows.topExactSpec.vars false W args.toList ds gs before)
    (hsz0 : (DataW.weightsEach Tryz.prog (Tryz.f3.params.toList ++ (OpenSpec.ofChange Rows.topExactSpec).bare.plain.varTypes Tryz.prog) (ds ++ gs)).all (· ≤ reachBytes) = true)
    (hsh : W.ShapedOpen Tryz.prog) :
    Calls Tryz.prog 3 args W fun e W' => ∃ v, e = .returned v ∧ Rows.topExactSpec.post enc Tryz.prog Tryz.f3 false true false false W args v W' := by
  have hW' := hW
  have hsz := hsz0
  obtain ⟨p, q, hA0, hV, rfl, hfz, hnd⟩ := hW
  have hA : DataW.TrodAll enc Tryz.prog W 0 (fun _ => true) true Tryz.f3.params.toList args.toList ds p := hA0
  rw [Tryz.params3] at hA hval hsz
  obtain ⟨v0, vs0, d0, ds0, p0, q0, hargs0, rfl, rfl, h0, r0⟩ := trodAll_cons hA
  obtain ⟨v1, vs1, d1, ds1, p1, q1, hargs1, rfl, rfl, h1, r1⟩ := trodAll_cons r0
  obtain ⟨v2, vs2, d2, ds2, p2, q2, hargs2, rfl, rfl, h2, r2⟩ := trodAll_cons r1
  obtain ⟨v3, vs3, d3, ds3, p3, q3, hargs3, rfl, rfl, h3, r3⟩ := trodAll_cons r2
  obtain ⟨rfl, rfl, rfl⟩ := trodAll_nil r3
  obtain rfl : args = #[v0, v1, v2, v3] := by cases args; simp_all
  obtain ⟨rfl, rfl⟩ := trodVars_none hV
  have h0k := h0
  have h1k := h1
  have h2k := h2
  have h3k := h3
  obtain ⟨z0, rfl, _, _, wz0⟩ := open_int Tryz.underlying3 (hval 0 3 v0 rfl rfl) h0
  simp [Lit.wf, IntKind.min, IntKind.max, IntKind.signed, IntKind.bits] at wz0
  obtain ⟨z1, rfl, _, _, wz1⟩ := open_int Tryz.underlying3 (hval 1 3 v1 rfl rfl) h1
  simp [Lit.wf, IntKind.min, IntKind.max, IntKind.signed, IntKind.bits] at wz1
  obtain ⟨s2, x2, y2, A2, B2, e2, g2, rfl, rfl, n2, m2, u2, t2⟩ := openRat (hval 2 24 v2 rfl rfl) h2
  obtain ⟨la2, lb2⟩ := ratLens hsz 2 rfl rfl u2 t2
  obtain ⟨z3, rfl, _, _, wz3⟩ := open_int Tryz.underlying3 (hval 3 3 v3 rfl rfl) h3
  simp [Lit.wf, IntKind.min, IntKind.max, IntKind.signed, IntKind.bits] at wz3
  have hlt0 : ∀ x ∈ p0, x.block < W.heap.size := fun x hx => by simpa using hW'.lt x (by simp [hx])
  have hlt1 : ∀ x ∈ p1, x.block < W.heap.size := fun x hx => by simpa using hW'.lt x (by simp [hx])
  have hlt2 : ∀ x ∈ p2, x.block < W.heap.size := fun x hx => by simpa using hW'.lt x (by simp [hx])
  have hlt3 : ∀ x ∈ p3, x.block < W.heap.size := fun x hx => by simpa using hW'.lt x (by simp [hx])
  have hrun : Calls Tryz.prog 3 #[.int .i64 z0, .int .i64 z1, .agg #[.bool s2, x2, y2], .int .i64 z3] W fun e w' => e = .returned (.bool true) ∧ Below W.heap.size W w' :=
    (s_top.runs [intV z0, intV z1, ratV ⟨s2, A2, B2⟩, intV z3] noX W _ ⟨⟨by omega, by omega⟩, ⟨by omega, by omega⟩, RR.sz_le la2 lb2⟩ (fun _ _ hx => hx.elim) (gl_of hsh) (.cons int_P (.cons int_P (.cons (rat_P n2 m2) (.cons int_P .nil))))).mono fun e w' ⟨v, he, h1, h2⟩ => by
      have : v = .bool true := h1
      exact ⟨by rw [he, this], h2⟩
  refine hrun.mono fun e W' ⟨he, hb⟩ => ?_
  subst he
  exact ⟨_, rfl, _, _, _, [], p0 ++ (p1 ++ (p2 ++ (p3 ++ ([])))), [], hW', trodAll_cons_mk (shut_bool Tryz.underlying4 _) trodAll_mk0, trodAll_cons_mk (Below.trod laidOut (by kernel_rfl) (of_decide_eq_true (by kernel_rfl)) h0k hb hlt0) (trodAll_cons_mk (Below.trod laidOut (by kernel_rfl) (of_decide_eq_true (by kernel_rfl)) h1k hb hlt1) (trodAll_cons_mk (Below.trod laidOut (by kernel_rfl) (of_decide_eq_true (by kernel_rfl)) h2k hb hlt2) (trodAll_cons_mk (Below.trod laidOut (by kernel_rfl) (of_decide_eq_true (by kernel_rfl)) h3k hb hlt3) (trodAll_mk0)))), rfl, hb.frame _, fun h => by cases h⟩
theorem laid_met (os : Os) (args : Array Value) : laidMetH Tryz.prog Rows.topExactRow.laid ((World.laidAll Tryz.prog os Rows.topExactRow.laid).forCall (fun _ _ => 0) ⟨#[], args, []⟩).memory := by
  rw [MakeChecks.laidMetH_plain _ _ _ (by kernel_rfl)]
  exact laidMet_laidAll _ (by kernel_rfl) (by kernel_rfl)
theorem reads (os : Os) {H : Type} (enc : TypeId × Value → H) : ∃ places, DataW.whole enc Tryz.prog ((World.laidAll Tryz.prog os Rows.topExactRow.laid).forCall (fun _ _ => 0) ⟨#[], #[.int .i64 0, .int .i64 0, .agg #[.bool false, .slice none 0 0, .slice none 0 0], .int .i64 0], []⟩).memory Tryz.f3.params.toList Rows.topExactSpec.vars false #[Value.int .i64 0, Value.int .i64 0, Value.agg #[.bool false, .slice none 0 0, .slice none 0 0], Value.int .i64 0].toList 8 = some ([.lit (.int .i64 0), .lit (.int .i64 0), .agg [.lit (.bool false), .nil, .nil], .lit (.int .i64 0)], [], places) :=
  ⟨[], by kernel_rfl⟩
theorem shaped (os : Os) : ((World.laidAll Tryz.prog os Rows.topExactRow.laid).forCall (fun _ _ => 0) ⟨#[], #[.int .i64 0, .int .i64 0, .agg #[.bool false, .slice none 0 0, .slice none 0 0], .int .i64 0], []⟩).Shaped Tryz.prog :=
  World.shaped_of_ZipB (by kernel_rfl) (by kernel_rfl)
theorem inOk (os : Os) : Input.okWideB Tryz.prog ((World.laidAll Tryz.prog os Rows.topExactRow.laid).forCall (fun _ _ => 0) ⟨#[], #[.int .i64 0, .int .i64 0, .agg #[.bool false, .slice none 0 0, .slice none 0 0], .int .i64 0], []⟩) 3 ⟨#[], #[.int .i64 0, .int .i64 0, .agg #[.bool false, .slice none 0 0, .slice none 0 0], .int .i64 0], []⟩ = true := by kernel_rfl
set_option maxRecDepth 100000 in
theorem lifted (os : Os) (started : os.Started) (H : Type) (enc : TypeId × Value → H) (F : Stop.Interp) :
    ReturnsInHanded {} Tryz.checked os 3 .any ((OpenSpec.ofChange Rows.topExactSpec).preRow enc Tryz.prog Tryz.f3 Rows.topExactRow.domain false Rows.topExactRow.laid) (((OpenSpec.ofChange Rows.topExactSpec).at F).post enc Tryz.prog Tryz.f3 false true false false) := by
  obtain ⟨places, hx⟩ := reads os enc
  refine returnsInHanded_of_row (C := Tryz.checked) (s := OpenSpec.ofChange Rows.topExactSpec) own started (by kernel_rfl) Tryz.func3
    ⟨World.laidAll Tryz.prog os Rows.topExactRow.laid, fun _ _ => 0, ⟨#[], #[.int .i64 0, .int .i64 0, .agg #[.bool false, .slice none 0 0, .slice none 0 0], .int .i64 0], []⟩, World.laidAll_os _ _ _, shaped os, (Input.okWide_of_okWideB (base := 0) (inOk os)).1, (Input.okWide_of_okWideB (inOk os)).2,
      OpenSpec.preRow_of_cond 8 hx (by kernel_rfl) (fun k hk => by cases hk) (by kernel_rfl) (laid_met os _), by
        simp only [Assume.holds]
        exact ⟨by simp, by simp, fun _ => Modest.zero, by simp, by simp⟩⟩ ?_
  intro W base args ds gs before hval hW _ _ hsz _ hsh _
  exact contract H enc W base args ds gs before hval hW hsz hsh
theorem c0 : (Rows.topExactRow.wf (OpenSpec.ofChange (OpenSpec.ofChange Rows.topExactSpec).bare)) = true := by kernel_rfl
theorem c1 : (laidOutB Tryz.prog) = true := by exact laidOutIs
theorem c2 : (mapsRowed Tryz.prog) = true := by kernel_rfl
theorem c3 : (Tryz.f3.params.all (Tryz.prog.readableRec ·)) = true := by kernel_rfl
theorem c4 : (namedTie Tryz.prog Rows.topExactRow.named (OpenSpec.ofChange Rows.topExactSpec).bare.vars) = true := by kernel_rfl
theorem c5 : ((Rows.topExactRow.stops == [])) = true := by kernel_rfl
theorem c6 : ((Tryz.prog.stops == [])) = true := by kernel_rfl
theorem c7 : ((Rows.topExactRow.knobs == [])) = true := by kernel_rfl
theorem c8 : ((Tryz.prog.stopKnobs == [])) = true := by kernel_rfl
theorem c9 : ((Rows.topExactRow.inPlace == Tryz.prog.inPlace 3)) = true := by kernel_rfl
theorem c10 : ((Rows.topExactRow.unfollowed == Tryz.prog.unfollowed 3)) = true := by kernel_rfl
theorem c11 : ((Rows.topExactRow.recurses == Tryz.prog.recurses 3)) = true := by kernel_rfl
theorem c12 : ((Rows.topExactRow.named == Tryz.prog.varsNamed 3)) = true := by kernel_rfl
theorem c13 : ((Rows.topExactRow.maps == (Tryz.f3.params.toList ++ (OpenSpec.ofChange Rows.topExactSpec).bare.plain.varTypes Tryz.prog).any (Tryz.prog.mapsRec ·))) = true := by kernel_rfl
theorem c14 : ((Rows.topExactRow.ifaces == (Tryz.f3.params.toList ++ (OpenSpec.ofChange Rows.topExactSpec).bare.plain.varTypes Tryz.prog).any (Tryz.prog.ifacesRec ·))) = true := by kernel_rfl
theorem c15 : ((Rows.topExactRow.mapsOut == Tryz.prog.mapsAmong Tryz.f3.resultTypes.toList)) = true := by kernel_rfl
theorem c16 : ((Rows.topExactRow.loops == (Tryz.f3.params.toList ++ (OpenSpec.ofChange Rows.topExactSpec).bare.plain.varTypes Tryz.prog).any (Tryz.prog.loopsFrom ·))) = true := by kernel_rfl
theorem c17 : ((Rows.topExactRow.wideKeys == (Tryz.f3.params.toList ++ (OpenSpec.ofChange Rows.topExactSpec).bare.plain.varTypes Tryz.prog ++ Tryz.f3.resultTypes.toList).any (Tryz.prog.wideKeysFrom ·))) = true := by kernel_rfl
theorem c18 : ((OpenSpec.ofChange Rows.topExactSpec).bare.vars.all (Tryz.prog.varReadable ·)) = true := by kernel_rfl
theorem c19 : (Tryz.f3.resultTypes.all (fun t => Tryz.prog.readableRec t && decide (t < Tryz.prog.types.size))) = true := by kernel_rfl
theorem c20 : ((Rows.topExactRow.ifacesOut == Tryz.f3.resultTypes.toList.any (Tryz.prog.ifacesRec ·))) = true := by kernel_rfl
theorem c21 : ((Rows.topExactRow.loopsOut == Tryz.f3.resultTypes.toList.any (Tryz.prog.loopsFrom ·))) = true := by kernel_rfl
theorem c22 : ((Rows.topExactRow.plainKeys == Tryz.prog.plainKeys)) = true := by rw [plainKeysIs]; rfl
theorem c23 : (Rows.topExactRow.shortTexts.isNone) = true := by kernel_rfl
theorem c24 : (Tryz.prog.stopsHeard) = true := by exact stopsHeardIs
theorem c25 : (Tryz.prog.mayEnter) = true := by exact mayEnterIs
theorem c26 : ((Rows.topExactRow.lifted == Tryz.prog.liftsFinal)) = true := by rw [liftsFinalIs]; rfl
theorem c27 : ((Tryz.prog.make == some Rows.topExactRow.make)) = true := by rw [makeIs]; rfl
theorem c29 : ((Rows.topExactRow.pinned == Rows.topExactRow.pinnedBy)) = true := by kernel_rfl
theorem c30 : ((Rows.topExactRow.veiled == (Tryz.f3.params.toList ++ (OpenSpec.ofChange Rows.topExactSpec).bare.plain.varTypes Tryz.prog ++ Tryz.f3.resultTypes.toList).any (Tryz.prog.veiledRec ·))) = true := by kernel_rfl
theorem c31 : (Rows.topExactRow.veiledFits Tryz.prog Tryz.f3.params.toList (Tryz.f3.params.toList ++ (OpenSpec.ofChange Rows.topExactSpec).bare.plain.varTypes Tryz.prog ++ Tryz.f3.resultTypes.toList)) = true := by kernel_rfl
theorem band {a b : Bool} (h : a = true) (k : b = true) : (a && b) = true := by rw [h, k]; rfl
theorem closed : joinedFacts Tryz.prog 3 Tryz.f3 (OpenSpec.ofChange Rows.topExactSpec).bare Rows.topExactRow = true := by
  unfold joinedFacts
  exact band (band (band (band (band (band (band (band (band (band (band (band (band (band (band (band (band (band (band (band (band (band (band (band (band (band (band (band (band (band (band (c0) c1) c2) c3) c4) c5) c6) c7) c8) c9) c10) c11) c12) c13) c14) c15) c16) c17) c18) c19) c20) c21) c22) c23) c24) c25) c26) c27) (by kernel_rfl)) c29) c30) c31
theorem row : Rows.TopExactSaid :=
  OpenClaim.holds_of_cond 3 Tryz.f3 rfl rfl rfl rfl rfl rfl rfl ⟨rfl, rfl, rfl, rfl, rfl⟩ rfl rfl rfl rfl rfl (by kernel_rfl) Tryz.func3 (by rw [progIs]; exact closed)
    (of_decide_eq_true (by kernel_rfl)) (by unfold Func.isWrapper; first | (rw [if_pos (by decide +kernel)]; kernel_rfl) | (rw [if_neg (by decide +kernel)]; exact ⟨rfl, rfl⟩))
    (fun os started H enc _ F => by rw [OpenClaim.pre_eq_preRow]; exact lifted os started H enc F)
theorem k1 : Rows.topExactRow.wfByText (OpenSpec.ofChange Rows.topExactSpec) = true := by kernel_rfl
theorem k2 : Tryz.prog.mainIs = some (true, "d3c48447fd284724e9e97f5c7adff892e8aeb366409c94889fe7e8e3c5a3c73a".toList) := by kernel_rfl
theorem k3 : true = Tryz.prog.looks [] := by kernel_rfl
theorem k4 : false = Rows.topExactRow.goesBy Tryz.prog := by kernel_rfl
theorem k5 : Tryz.prog.funcNamed "vernier/verniertop.TopExact" = some 3 := by kernel_rfl
theorem k6 : ([3, 3, 24, 3].all fun u => !Tryz.prog.wantsStandIn u) = true := by kernel_rfl
theorem k7 (f : FuncId) (fn : Func) (hf : Tryz.prog.funcNamed Rows.topExactRow.func = some f) (hfn : Tryz.prog.funcs[f]? = some fn) : true = Tryz.prog.looks [] ∧ ∀ (j : Nat) t, fn.params[j]? = some t → Tryz.prog.wantsStandIn t = false := by
  obtain rfl : 3 = f := Option.some.inj (k5.symm.trans hf)
  obtain rfl : Tryz.f3 = fn := Option.some.inj (Tryz.func3.symm.trans hfn)
  refine ⟨k3, fun j t ht => ?_⟩
  rw [Tryz.params3] at ht
  have hm : t ∈ [3, 3, 24, 3] := by simpa using Array.mem_of_getElem? ht
  simpa using List.all_eq_true.1 k6 t hm
theorem said : Rows.TopExactCardSaid :=
  Claim7.holds_tied_plain_at .later [] [.data, .data, .data, .data, .sentinel, .sentinel, .pinned] true (true, "d3c48447fd284724e9e97f5c7adff892e8aeb366409c94889fe7e8e3c5a3c73a") true
    row (fun _ h => by cases h) k1 (fun _ h => by cases h) topExact_row_tie rfl ⟨rfl, rfl⟩ (by rw [progIs]; exact k2) rfl
    (by rw [progIs]; exact k7)
    (by rw [progIs]; exact k4)
end Go.Proofs.YtocpmekblkfdiaaGreatDoor.topExact
