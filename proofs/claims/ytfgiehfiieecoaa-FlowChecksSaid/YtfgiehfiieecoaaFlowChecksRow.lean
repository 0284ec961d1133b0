/- FlowChecks: the law returns true at every input, and its arguments read as before. Conditions: none. -/
import Derived.Test.YtfgiehfiieecoaaFlowChecks
import Derived.Test.YtfgiehfiieecoaaFrame
import Derived.Test.YtfgiehfiieecoaaRead
namespace Go.Proofs.Ytfgiehfiieecoaa
open Go.ChangeShapes Go.WideShapes Go.ChangeAt Go.RowKit
set_option maxRecDepth 100000
theorem flowChecks_readable : ∀ t ∈ Try.f10.params.toList, Try.prog.readableRec t = true ∧ t < Try.prog.types.size := of_decide_eq_true (by kernel_rfl)
theorem flowChecks_contract (H : Type) (enc : TypeId × Value → H) (W : World) (base : Nat) (args : Array Value) (ds gs : List (DataW H)) (before : List MemPlace)
    (hval : ∀ (j : Nat) t v, Try.f10.params[j]? = some t → args[j]? = some v → Value.okWide Try.prog W .any base t v)
    (hW : DataW.Whole enc Try.prog Try.f10.params.toList Rows.flowChecksSpec.vars false W args.toList ds gs before)
    (hsz : (DataW.weightsEach Try.prog (Try.f10.params.toList ++ Rows.flowChecksSpec.plain.varTypes Try.prog) (ds ++ gs)).all (· ≤ reachBytes) = true) :
    Calls Try.prog 10 args W fun e W' => ∃ v, e = .returned v ∧ Rows.flowChecksSpec.post enc Try.prog Try.f10 false true false false W args v W' := by
  have hW' := hW
  obtain ⟨p, q, hA, hV, rfl, hfz, hnd⟩ := hW
  rw [Try.params10] at hA hval
  obtain ⟨v0, vs0, d0, ds0, p0, q0, hargs0, rfl, rfl, h0, r0⟩ := trodAll_cons hA
  obtain ⟨hnil, rfl, rfl⟩ := trodAll_nil r0
  subst hnil
  obtain rfl : args = #[v0] := by cases args; simp_all
  obtain ⟨rfl, rfl⟩ := trodVars_none hV
  exact (flowChecks_open W base (hval 0 _ _ rfl rfl) h0 (fun n hn => by have := List.all_eq_true.1 hsz n (weightsEach_mem (i := 0) (t := 53) rfl rfl n hn); simpa using this)).mono fun e W' ⟨he, hb⟩ => ⟨_, he, law_post laidOut Try.underlying4 rfl rfl flowChecks_readable hW' rfl hb⟩

theorem flowChecks_lifted (os : Os) (started : os.Started) (H : Type) (enc : TypeId × Value → H) :
    ReturnsInHanded {} Try.checked os 10 .any (Rows.flowChecksSpec.pre6 enc Try.prog Try.f10 Rows.flowChecksRow.domain false) (Rows.flowChecksSpec.post enc Try.prog Try.f10 false true false false) := by
  refine returnsInHanded_of_change_sized (C := Try.checked) own started (by kernel_rfl) Try.func10
    (ChangeSpec.witness6 (enc := enc) (C := Try.checked) false ⟨#[], #[.slice none 0 0], []⟩ 8 (by kernel_rfl) (by kernel_rfl) (by kernel_rfl) (by kernel_rfl)) ?_
  intro W base args ds gs before hval hW _ hsz _
  exact flowChecks_contract H enc W base args ds gs before hval hW hsz

theorem flowChecks_k1 : (Rows.flowChecksRow.wf (OpenSpec.ofChange Rows.flowChecksSpec)) = true := by kernel_rfl
theorem flowChecks_k10 : (Rows.flowChecksRow.inPlace == Try.prog.inPlace 10) = true := by kernel_rfl
theorem flowChecks_k11 : (Rows.flowChecksRow.unfollowed == Try.prog.unfollowed 10) = true := by kernel_rfl
theorem flowChecks_k12 : (Rows.flowChecksRow.recurses == Try.prog.recurses 10) = true := by kernel_rfl
theorem flowChecks_k13 : (Rows.flowChecksRow.named == Try.prog.varsNamed 10) = true := by kernel_rfl
theorem flowChecks_k14 : (Rows.flowChecksRow.maps == (Try.f10.params.toList ++ Rows.flowChecksSpec.plain.varTypes Try.prog).any (Try.prog.mapsRec ·)) = true := by kernel_rfl
theorem flowChecks_k15 : (Rows.flowChecksRow.ifaces == (Try.f10.params.toList ++ Rows.flowChecksSpec.plain.varTypes Try.prog).any (Try.prog.ifacesRec ·)) = true := by kernel_rfl
theorem flowChecks_k17 : (Rows.flowChecksRow.loops == (Try.f10.params.toList ++ Rows.flowChecksSpec.plain.varTypes Try.prog).any (Try.prog.loopsFrom ·)) = true := by kernel_rfl
theorem flowChecks_k17b : (Rows.flowChecksRow.wideKeys == (Try.f10.params.toList ++ Rows.flowChecksSpec.plain.varTypes Try.prog ++ Try.f10.resultTypes.toList).any (Try.prog.wideKeysFrom ·)) = true := by kernel_rfl
theorem flowChecks_k24 : (Rows.flowChecksRow.veiled == (Try.f10.params.toList ++ Rows.flowChecksSpec.plain.varTypes Try.prog ++ Try.f10.resultTypes.toList).any (Try.prog.veiledRec ·)) = true := by kernel_rfl
theorem flowChecks_k25 : (Rows.flowChecksRow.veiledFits Try.prog Try.f10.params.toList (Try.f10.params.toList ++ Rows.flowChecksSpec.plain.varTypes Try.prog ++ Try.f10.resultTypes.toList)) = true := by kernel_rfl
theorem flowChecks_named : Try.checked.prog.funcNamed Rows.flowChecksRow.func = some 10 := by kernel_rfl
theorem flowChecks_facts : joinedFacts Try.prog 10 Try.f10 Rows.flowChecksSpec Rows.flowChecksRow = true :=
  facts_mk flowChecks_k1 laidOut mapsRowed_ (by kernel_rfl) (by kernel_rfl) (by kernel_rfl) stops_ (by kernel_rfl) stopKnobs_ flowChecks_k10 flowChecks_k11 flowChecks_k12 flowChecks_k13 flowChecks_k14 flowChecks_k15 (by kernel_rfl) flowChecks_k17 flowChecks_k17b
    (by kernel_rfl) (by kernel_rfl) (by kernel_rfl) (by kernel_rfl) plainKeys_ (by kernel_rfl) stopsHeard_ mayEnter_ liftsFinal_ make_ (by kernel_rfl) (by kernel_rfl) flowChecks_k24 flowChecks_k25
theorem flowChecks_instance : Try.f10.isInstance Try.prog Rows.flowChecksRow.origin Rows.flowChecksRow.targs := of_decide_eq_true (by kernel_rfl)
theorem flowChecks_wrapper : Try.f10.isWrapper Try.prog Rows.flowChecksRow.wrapper Rows.flowChecksRow.mainSum := by unfold Func.isWrapper; rw [if_neg (of_decide_eq_false (by kernel_rfl))]; exact ⟨rfl, rfl⟩

theorem flowChecks_holds : Rows.FlowChecksSaid :=
  OpenClaim.holds_of_wide 10 Try.f10 rfl rfl rfl rfl rfl rfl rfl ⟨rfl, rfl, rfl, rfl, rfl⟩ rfl rfl rfl rfl rfl flowChecks_named Try.func10 flowChecks_facts flowChecks_instance flowChecks_wrapper
    (fun os started H enc _ => flowChecks_lifted os started H enc)
#print axioms flowChecks_holds
end Go.Proofs.Ytfgiehfiieecoaa
