/- FlowRuns: the law returns true at every input, and its arguments read as before. Conditions: none. -/
import Derived.Test.YtfgiehfiieecoaaFlowRuns
import Derived.Test.YtfgiehfiieecoaaFrame
import Derived.Test.YtfgiehfiieecoaaRead
namespace Go.Proofs.Ytfgiehfiieecoaa
open Go.ChangeShapes Go.WideShapes Go.ChangeAt Go.RowKit
set_option maxRecDepth 100000
theorem flowRuns_readable : ∀ t ∈ Try.f16.params.toList, Try.prog.readableRec t = true ∧ t < Try.prog.types.size := of_decide_eq_true (by kernel_rfl)
theorem flowRuns_contract (H : Type) (enc : TypeId × Value → H) (W : World) (base : Nat) (args : Array Value) (ds gs : List (DataW H)) (before : List MemPlace)
    (hval : ∀ (j : Nat) t v, Try.f16.params[j]? = some t → args[j]? = some v → Value.okWide Try.prog W .any base t v)
    (hW : DataW.Whole enc Try.prog Try.f16.params.toList Rows.flowRunsSpec.vars false W args.toList ds gs before)
    (hsz : (DataW.weightsEach Try.prog (Try.f16.params.toList ++ Rows.flowRunsSpec.plain.varTypes Try.prog) (ds ++ gs)).all (· ≤ reachBytes) = true) :
    Calls Try.prog 16 args W fun e W' => ∃ v, e = .returned v ∧ Rows.flowRunsSpec.post enc Try.prog Try.f16 false true false false W args v W' := by
  have hW' := hW
  obtain ⟨p, q, hA, hV, rfl, hfz, hnd⟩ := hW
  rw [Try.params16] at hA hval
  obtain ⟨v0, vs0, d0, ds0, p0, q0, hargs0, rfl, rfl, h0, r0⟩ := trodAll_cons hA
  obtain ⟨v1, vs1, d1, ds1, p1, q1, hargs1, rfl, rfl, h1, r1⟩ := trodAll_cons r0
  obtain ⟨hnil, rfl, rfl⟩ := trodAll_nil r1
  subst hnil
  subst hargs1
  obtain rfl : args = #[v0, v1] := by cases args; simp_all
  obtain ⟨rfl, rfl⟩ := trodVars_none hV
  exact (flowRuns_open W base (hval 0 _ _ rfl rfl) h0 (fun n hn => by have := List.all_eq_true.1 hsz n (weightsEach_mem (i := 0) (t := 53) rfl rfl n hn); simpa using this) (hval 1 _ _ rfl rfl) h1 (fun n hn => by have := List.all_eq_true.1 hsz n (weightsEach_mem (i := 1) (t := 28) rfl rfl n hn); simpa using this)).mono fun e W' ⟨he, hb⟩ => ⟨_, he, law_post laidOut Try.underlying4 rfl rfl flowRuns_readable hW' rfl hb⟩

theorem flowRuns_lifted (os : Os) (started : os.Started) (H : Type) (enc : TypeId × Value → H) :
    ReturnsInHanded {} Try.checked os 16 .any (Rows.flowRunsSpec.pre6 enc Try.prog Try.f16 Rows.flowRunsRow.domain false) (Rows.flowRunsSpec.post enc Try.prog Try.f16 false true false false) := by
  refine returnsInHanded_of_change_sized (C := Try.checked) own started (by kernel_rfl) Try.func16
    (ChangeSpec.witness6 (enc := enc) (C := Try.checked) false ⟨#[], #[.slice none 0 0, .agg #[.int .i64 0, .int .i64 0, .int .i64 0, .int .i64 0, .int .i64 0, .int .i64 0, .int .i64 0, .int .i64 0, .int .i64 0, .int .i64 0, .string ByteArray.empty]], []⟩ 8 (by kernel_rfl) (by kernel_rfl) (by kernel_rfl) (by kernel_rfl)) ?_
  intro W base args ds gs before hval hW _ hsz _
  exact flowRuns_contract H enc W base args ds gs before hval hW hsz

theorem flowRuns_k1 : (Rows.flowRunsRow.wf (OpenSpec.ofChange Rows.flowRunsSpec)) = true := by kernel_rfl
theorem flowRuns_k10 : (Rows.flowRunsRow.inPlace == Try.prog.inPlace 16) = true := by kernel_rfl
theorem flowRuns_k11 : (Rows.flowRunsRow.unfollowed == Try.prog.unfollowed 16) = true := by kernel_rfl
theorem flowRuns_k12 : (Rows.flowRunsRow.recurses == Try.prog.recurses 16) = true := by kernel_rfl
theorem flowRuns_k13 : (Rows.flowRunsRow.named == Try.prog.varsNamed 16) = true := by kernel_rfl
theorem flowRuns_k14 : (Rows.flowRunsRow.maps == (Try.f16.params.toList ++ Rows.flowRunsSpec.plain.varTypes Try.prog).any (Try.prog.mapsRec ·)) = true := by kernel_rfl
theorem flowRuns_k15 : (Rows.flowRunsRow.ifaces == (Try.f16.params.toList ++ Rows.flowRunsSpec.plain.varTypes Try.prog).any (Try.prog.ifacesRec ·)) = true := by kernel_rfl
theorem flowRuns_k17 : (Rows.flowRunsRow.loops == (Try.f16.params.toList ++ Rows.flowRunsSpec.plain.varTypes Try.prog).any (Try.prog.loopsFrom ·)) = true := by kernel_rfl
theorem flowRuns_k17b : (Rows.flowRunsRow.wideKeys == (Try.f16.params.toList ++ Rows.flowRunsSpec.plain.varTypes Try.prog ++ Try.f16.resultTypes.toList).any (Try.prog.wideKeysFrom ·)) = true := by kernel_rfl
theorem flowRuns_k24 : (Rows.flowRunsRow.veiled == (Try.f16.params.toList ++ Rows.flowRunsSpec.plain.varTypes Try.prog ++ Try.f16.resultTypes.toList).any (Try.prog.veiledRec ·)) = true := by kernel_rfl
theorem flowRuns_k25 : (Rows.flowRunsRow.veiledFits Try.prog Try.f16.params.toList (Try.f16.params.toList ++ Rows.flowRunsSpec.plain.varTypes Try.prog ++ Try.f16.resultTypes.toList)) = true := by kernel_rfl
theorem flowRuns_named : Try.checked.prog.funcNamed Rows.flowRunsRow.func = some 16 := by kernel_rfl
theorem flowRuns_facts : joinedFacts Try.prog 16 Try.f16 Rows.flowRunsSpec Rows.flowRunsRow = true :=
  facts_mk flowRuns_k1 laidOut mapsRowed_ (by kernel_rfl) (by kernel_rfl) (by kernel_rfl) stops_ (by kernel_rfl) stopKnobs_ flowRuns_k10 flowRuns_k11 flowRuns_k12 flowRuns_k13 flowRuns_k14 flowRuns_k15 (by kernel_rfl) flowRuns_k17 flowRuns_k17b
    (by kernel_rfl) (by kernel_rfl) (by kernel_rfl) (by kernel_rfl) plainKeys_ (by kernel_rfl) stopsHeard_ mayEnter_ liftsFinal_ make_ (by kernel_rfl) (by kernel_rfl) flowRuns_k24 flowRuns_k25
theorem flowRuns_instance : Try.f16.isInstance Try.prog Rows.flowRunsRow.origin Rows.flowRunsRow.targs := of_decide_eq_true (by kernel_rfl)
theorem flowRuns_wrapper : Try.f16.isWrapper Try.prog Rows.flowRunsRow.wrapper Rows.flowRunsRow.mainSum := by unfold Func.isWrapper; rw [if_neg (of_decide_eq_false (by kernel_rfl))]; exact ⟨rfl, rfl⟩

theorem flowRuns_holds : Rows.FlowRunsSaid :=
  OpenClaim.holds_of_wide 16 Try.f16 rfl rfl rfl rfl rfl rfl rfl ⟨rfl, rfl, rfl, rfl, rfl⟩ rfl rfl rfl rfl rfl flowRuns_named Try.func16 flowRuns_facts flowRuns_instance flowRuns_wrapper
    (fun os started H enc _ => flowRuns_lifted os started H enc)
#print axioms flowRuns_holds
end Go.Proofs.Ytfgiehfiieecoaa
