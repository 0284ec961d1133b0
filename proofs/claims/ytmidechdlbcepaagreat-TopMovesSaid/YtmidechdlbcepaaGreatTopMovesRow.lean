/- TopMoves: the law returns true at every input, and its arguments read as before. Conditions: none. -/
import Derived.Test.YtmidechdlbcepaaGreatPack50
import Derived.Test.YtmidechdlbcepaaGreatPack03
import Derived.Test.YtmidechdlbcepaaGreatPack08
set_option linter.unusedSimpArgs false
set_option linter.unusedVariables false
namespace Go.Proofs.YtmidechdlbcepaaGreat
open Go.ChangeShapes Go.WideShapes Go.ChangeAt Go.RowKit
set_option maxRecDepth 100000
theorem topMoves_readable : ∀ t ∈ Tryz.f10.params.toList, Tryz.prog.readableRec t = true ∧ t < Tryz.prog.types.size := of_decide_eq_true (by kernel_rfl)
theorem topMoves_contract (H : Type) (enc : TypeId × Value → H) (W : World) (base : Nat) (args : Array Value) (ds gs : List (DataW H)) (before : List MemPlace)
    (hval : ∀ (j : Nat) t v, Tryz.f10.params[j]? = some t → args[j]? = some v → Value.okWide Tryz.prog W .any base t v)
    (hW : DataW.Whole enc Tryz.prog Tryz.f10.params.toList Rows.topMovesSpec.vars false W args.toList ds gs before)
    (hsz : (DataW.weightsEach Tryz.prog (Tryz.f10.params.toList ++ Rows.topMovesSpec.plain.varTypes Tryz.prog) (ds ++ gs)).all (· ≤ reachBytes) = true) :
    Calls Tryz.prog 10 args W fun e W' => ∃ v, e = .returned v ∧ Rows.topMovesSpec.post enc Tryz.prog Tryz.f10 false true false false W args v W' := by
  have hW' := hW
  obtain ⟨p, q, hA, hV, rfl, hfz, hnd⟩ := hW
  rw [Tryz.params10] at hA hval
  obtain ⟨v0, vs0, d0, ds0, p0, q0, hargs0, rfl, rfl, h0, r0⟩ := trodAll_cons hA
  obtain ⟨v1, vs1, d1, ds1, p1, q1, hargs1, rfl, rfl, h1, r1⟩ := trodAll_cons r0
  obtain ⟨v2, vs2, d2, ds2, p2, q2, hargs2, rfl, rfl, h2, r2⟩ := trodAll_cons r1
  obtain ⟨v3, vs3, d3, ds3, p3, q3, hargs3, rfl, rfl, h3, r3⟩ := trodAll_cons r2
  obtain ⟨hnil, rfl, rfl⟩ := trodAll_nil r3
  subst hnil
  subst hargs1
  subst hargs2
  subst hargs3
  obtain rfl : args = #[v0, v1, v2, v3] := by cases args; simp_all
  obtain ⟨rfl, rfl⟩ := trodVars_none hV
  exact (topMoves_open W base (hval 0 _ _ rfl rfl) h0 (fun n hn => by have := List.all_eq_true.1 hsz n (weightsEach_mem (i := 0) (t := 57) rfl rfl n hn); simpa using this) (hval 1 _ _ rfl rfl) h1 (fun n hn => by have := List.all_eq_true.1 hsz n (weightsEach_mem (i := 1) (t := 59) rfl rfl n hn); simpa using this) (hval 2 _ _ rfl rfl) h2 (fun n hn => by have := List.all_eq_true.1 hsz n (weightsEach_mem (i := 2) (t := 3) rfl rfl n hn); simpa using this) (hval 3 _ _ rfl rfl) h3 (fun n hn => by have := List.all_eq_true.1 hsz n (weightsEach_mem (i := 3) (t := 3) rfl rfl n hn); simpa using this)).mono fun e W' ⟨he, hb⟩ => ⟨_, he, law_post laidOut Tryz.underlying4 rfl rfl topMoves_readable hW' rfl hb⟩

theorem topMoves_lifted (os : Os) (started : os.Started) (H : Type) (enc : TypeId × Value → H) :
    ReturnsInHanded {} Tryz.checked os 10 .any (Rows.topMovesSpec.pre6 enc Tryz.prog Tryz.f10 Rows.topMovesRow.domain false) (Rows.topMovesSpec.post enc Tryz.prog Tryz.f10 false true false false) := by
  refine returnsInHanded_of_change_sized (C := Tryz.checked) own started (by kernel_rfl) Tryz.func10
    (ChangeSpec.witness6 (enc := enc) (C := Tryz.checked) false ⟨#[], #[.slice none 0 0, .agg #[.int .i64 0, .int .i64 0, .int .i64 0, .int .i64 0], .int .i64 0, .int .i64 0], []⟩ 8 (by kernel_rfl) (by kernel_rfl) (by kernel_rfl) (by kernel_rfl)) ?_
  intro W base args ds gs before hval hW _ hsz _
  exact topMoves_contract H enc W base args ds gs before hval hW hsz

theorem topMoves_k1 : (Rows.topMovesRow.wf (OpenSpec.ofChange Rows.topMovesSpec)) = true := by kernel_rfl
theorem topMoves_k10 : (Rows.topMovesRow.inPlace == Tryz.prog.inPlace 10) = true := by kernel_rfl
theorem topMoves_k11 : (Rows.topMovesRow.unfollowed == Tryz.prog.unfollowed 10) = true := by kernel_rfl
theorem topMoves_k12 : (Rows.topMovesRow.recurses == Tryz.prog.recurses 10) = true := by kernel_rfl
theorem topMoves_k13 : (Rows.topMovesRow.named == Tryz.prog.varsNamed 10) = true := by kernel_rfl
theorem topMoves_k14 : (Rows.topMovesRow.maps == (Tryz.f10.params.toList ++ Rows.topMovesSpec.plain.varTypes Tryz.prog).any (Tryz.prog.mapsRec ·)) = true := by kernel_rfl
theorem topMoves_k15 : (Rows.topMovesRow.ifaces == (Tryz.f10.params.toList ++ Rows.topMovesSpec.plain.varTypes Tryz.prog).any (Tryz.prog.ifacesRec ·)) = true := by kernel_rfl
theorem topMoves_k17 : (Rows.topMovesRow.loops == (Tryz.f10.params.toList ++ Rows.topMovesSpec.plain.varTypes Tryz.prog).any (Tryz.prog.loopsFrom ·)) = true := by kernel_rfl
theorem topMoves_k17b : (Rows.topMovesRow.wideKeys == (Tryz.f10.params.toList ++ Rows.topMovesSpec.plain.varTypes Tryz.prog ++ Tryz.f10.resultTypes.toList).any (Tryz.prog.wideKeysFrom ·)) = true := by kernel_rfl
theorem topMoves_k24 : (Rows.topMovesRow.veiled == (Tryz.f10.params.toList ++ Rows.topMovesSpec.plain.varTypes Tryz.prog ++ Tryz.f10.resultTypes.toList).any (Tryz.prog.veiledRec ·)) = true := by kernel_rfl
theorem topMoves_k25 : (Rows.topMovesRow.veiledFits Tryz.prog Tryz.f10.params.toList (Tryz.f10.params.toList ++ Rows.topMovesSpec.plain.varTypes Tryz.prog ++ Tryz.f10.resultTypes.toList)) = true := by kernel_rfl
theorem topMoves_named : Tryz.checked.prog.funcNamed Rows.topMovesRow.func = some 10 := by kernel_rfl
theorem topMoves_facts : joinedFacts Tryz.prog 10 Tryz.f10 Rows.topMovesSpec Rows.topMovesRow = true :=
  facts_mk topMoves_k1 laidOut mapsRowed_ (by kernel_rfl) (by kernel_rfl) (by kernel_rfl) stops_ (by kernel_rfl) stopKnobs_ topMoves_k10 topMoves_k11 topMoves_k12 topMoves_k13 topMoves_k14 topMoves_k15 (by kernel_rfl) topMoves_k17 topMoves_k17b
    (by kernel_rfl) (by kernel_rfl) (by kernel_rfl) (by kernel_rfl) plainKeys_ (by kernel_rfl) stopsHeard_ mayEnter_ liftsFinal_ make_ (by kernel_rfl) (by kernel_rfl) topMoves_k24 topMoves_k25
theorem topMoves_instance : Tryz.f10.isInstance Tryz.prog Rows.topMovesRow.origin Rows.topMovesRow.targs := of_decide_eq_true (by kernel_rfl)
theorem topMoves_wrapper : Tryz.f10.isWrapper Tryz.prog Rows.topMovesRow.wrapper Rows.topMovesRow.mainSum := by unfold Func.isWrapper; rw [if_neg (of_decide_eq_false (by kernel_rfl))]; exact ⟨rfl, rfl⟩

theorem topMoves_holds : Rows.TopMovesSaid :=
  OpenClaim.holds_of_wide 10 Tryz.f10 rfl rfl rfl rfl rfl rfl rfl ⟨rfl, rfl, rfl, rfl, rfl⟩ rfl rfl rfl rfl rfl topMoves_named Tryz.func10 topMoves_facts topMoves_instance topMoves_wrapper
    (fun os started H enc _ => topMoves_lifted os started H enc)
#print axioms topMoves_holds
end Go.Proofs.YtmidechdlbcepaaGreat