/- FabricRuns: the law returns true at every input, and its arguments read as before. Conditions: none. -/
import Derived.Test.YtmidechdlbcepaaGreatPack57
import Derived.Test.YtmidechdlbcepaaGreatPack03
set_option linter.unusedSimpArgs false
set_option linter.unusedVariables false
namespace Go.Proofs.YtmidechdlbcepaaGreat
open Go.ChangeShapes Go.WideShapes Go.ChangeAt Go.RowKit
set_option maxRecDepth 100000
theorem fabricRuns_readable : ∀ t ∈ Tryz.f8.params.toList, Tryz.prog.readableRec t = true ∧ t < Tryz.prog.types.size := of_decide_eq_true (by kernel_rfl)
theorem fabricRuns_contract (H : Type) (enc : TypeId × Value → H) (W : World) (base : Nat) (args : Array Value) (ds gs : List (DataW H)) (before : List MemPlace)
    (hval : ∀ (j : Nat) t v, Tryz.f8.params[j]? = some t → args[j]? = some v → Value.okWide Tryz.prog W .any base t v)
    (hW : DataW.Whole enc Tryz.prog Tryz.f8.params.toList Rows.fabricRunsSpec.vars false W args.toList ds gs before)
    (hsz : (DataW.weightsEach Tryz.prog (Tryz.f8.params.toList ++ Rows.fabricRunsSpec.plain.varTypes Tryz.prog) (ds ++ gs)).all (· ≤ reachBytes) = true) :
    Calls Tryz.prog 8 args W fun e W' => ∃ v, e = .returned v ∧ Rows.fabricRunsSpec.post enc Tryz.prog Tryz.f8 false true false false W args v W' := by
  have hW' := hW
  obtain ⟨p, q, hA, hV, rfl, hfz, hnd⟩ := hW
  rw [Tryz.params8] at hA hval
  obtain ⟨v0, vs0, d0, ds0, p0, q0, hargs0, rfl, rfl, h0, r0⟩ := trodAll_cons hA
  obtain ⟨hnil, rfl, rfl⟩ := trodAll_nil r0
  subst hnil
  obtain rfl : args = #[v0] := by cases args; simp_all
  obtain ⟨rfl, rfl⟩ := trodVars_none hV
  exact (fabricRuns_open W base (hval 0 _ _ rfl rfl) h0 (fun n hn => by have := List.all_eq_true.1 hsz n (weightsEach_mem (i := 0) (t := 49) rfl rfl n hn); simpa using this)).mono fun e W' ⟨he, hb⟩ => ⟨_, he, law_post laidOut Tryz.underlying4 rfl rfl fabricRuns_readable hW' rfl hb⟩

theorem fabricRuns_lifted (os : Os) (started : os.Started) (H : Type) (enc : TypeId × Value → H) :
    ReturnsInHanded {} Tryz.checked os 8 .any (Rows.fabricRunsSpec.pre6 enc Tryz.prog Tryz.f8 Rows.fabricRunsRow.domain false) (Rows.fabricRunsSpec.post enc Tryz.prog Tryz.f8 false true false false) := by
  refine returnsInHanded_of_change_sized (C := Tryz.checked) own started (by kernel_rfl) Tryz.func8
    (ChangeSpec.witness6 (enc := enc) (C := Tryz.checked) false ⟨#[], #[.slice none 0 0], []⟩ 8 (by kernel_rfl) (by kernel_rfl) (by kernel_rfl) (by kernel_rfl)) ?_
  intro W base args ds gs before hval hW _ hsz _
  exact fabricRuns_contract H enc W base args ds gs before hval hW hsz

theorem fabricRuns_k1 : (Rows.fabricRunsRow.wf (OpenSpec.ofChange Rows.fabricRunsSpec)) = true := by kernel_rfl
theorem fabricRuns_k10 : (Rows.fabricRunsRow.inPlace == Tryz.prog.inPlace 8) = true := by kernel_rfl
theorem fabricRuns_k11 : (Rows.fabricRunsRow.unfollowed == Tryz.prog.unfollowed 8) = true := by kernel_rfl
theorem fabricRuns_k12 : (Rows.fabricRunsRow.recurses == Tryz.prog.recurses 8) = true := by kernel_rfl
theorem fabricRuns_k13 : (Rows.fabricRunsRow.named == Tryz.prog.varsNamed 8) = true := by kernel_rfl
theorem fabricRuns_k14 : (Rows.fabricRunsRow.maps == (Tryz.f8.params.toList ++ Rows.fabricRunsSpec.plain.varTypes Tryz.prog).any (Tryz.prog.mapsRec ·)) = true := by kernel_rfl
theorem fabricRuns_k15 : (Rows.fabricRunsRow.ifaces == (Tryz.f8.params.toList ++ Rows.fabricRunsSpec.plain.varTypes Tryz.prog).any (Tryz.prog.ifacesRec ·)) = true := by kernel_rfl
theorem fabricRuns_k17 : (Rows.fabricRunsRow.loops == (Tryz.f8.params.toList ++ Rows.fabricRunsSpec.plain.varTypes Tryz.prog).any (Tryz.prog.loopsFrom ·)) = true := by kernel_rfl
theorem fabricRuns_k17b : (Rows.fabricRunsRow.wideKeys == (Tryz.f8.params.toList ++ Rows.fabricRunsSpec.plain.varTypes Tryz.prog ++ Tryz.f8.resultTypes.toList).any (Tryz.prog.wideKeysFrom ·)) = true := by kernel_rfl
theorem fabricRuns_k24 : (Rows.fabricRunsRow.veiled == (Tryz.f8.params.toList ++ Rows.fabricRunsSpec.plain.varTypes Tryz.prog ++ Tryz.f8.resultTypes.toList).any (Tryz.prog.veiledRec ·)) = true := by kernel_rfl
theorem fabricRuns_k25 : (Rows.fabricRunsRow.veiledFits Tryz.prog Tryz.f8.params.toList (Tryz.f8.params.toList ++ Rows.fabricRunsSpec.plain.varTypes Tryz.prog ++ Tryz.f8.resultTypes.toList)) = true := by kernel_rfl
theorem fabricRuns_named : Tryz.checked.prog.funcNamed Rows.fabricRunsRow.func = some 8 := by kernel_rfl
theorem fabricRuns_facts : joinedFacts Tryz.prog 8 Tryz.f8 Rows.fabricRunsSpec Rows.fabricRunsRow = true :=
  facts_mk fabricRuns_k1 laidOut mapsRowed_ (by kernel_rfl) (by kernel_rfl) (by kernel_rfl) stops_ (by kernel_rfl) stopKnobs_ fabricRuns_k10 fabricRuns_k11 fabricRuns_k12 fabricRuns_k13 fabricRuns_k14 fabricRuns_k15 (by kernel_rfl) fabricRuns_k17 fabricRuns_k17b
    (by kernel_rfl) (by kernel_rfl) (by kernel_rfl) (by kernel_rfl) plainKeys_ (by kernel_rfl) stopsHeard_ mayEnter_ liftsFinal_ make_ (by kernel_rfl) (by kernel_rfl) fabricRuns_k24 fabricRuns_k25
theorem fabricRuns_instance : Tryz.f8.isInstance Tryz.prog Rows.fabricRunsRow.origin Rows.fabricRunsRow.targs := of_decide_eq_true (by kernel_rfl)
theorem fabricRuns_wrapper : Tryz.f8.isWrapper Tryz.prog Rows.fabricRunsRow.wrapper Rows.fabricRunsRow.mainSum := by unfold Func.isWrapper; rw [if_neg (of_decide_eq_false (by kernel_rfl))]; exact ⟨rfl, rfl⟩

theorem fabricRuns_holds : Rows.FabricRunsSaid :=
  OpenClaim.holds_of_wide 8 Tryz.f8 rfl rfl rfl rfl rfl rfl rfl ⟨rfl, rfl, rfl, rfl, rfl⟩ rfl rfl rfl rfl rfl fabricRuns_named Tryz.func8 fabricRuns_facts fabricRuns_instance fabricRuns_wrapper
    (fun os started H enc _ => fabricRuns_lifted os started H enc)
#print axioms fabricRuns_holds
end Go.Proofs.YtmidechdlbcepaaGreat