/- FlowPackets: the law returns true at every input, and its arguments read as before. Conditions: none. -/
import Derived.Test.YtfgiehfiieecoaaFlowPackets
import Derived.Test.YtfgiehfiieecoaaFrame
namespace Go.Proofs.Ytfgiehfiieecoaa
open Go.ChangeShapes Go.WideShapes Go.ChangeAt Go.RowKit
set_option maxRecDepth 100000
theorem flowPackets_readable : ∀ t ∈ Try.f4.params.toList, Try.prog.readableRec t = true ∧ t < Try.prog.types.size := of_decide_eq_true (by kernel_rfl)
theorem flowPackets_contract (H : Type) (enc : TypeId × Value → H) (W : World) (base : Nat) (args : Array Value) (ds gs : List (DataW H)) (before : List MemPlace)
    (hval : ∀ (j : Nat) t v, Try.f4.params[j]? = some t → args[j]? = some v → Value.okWide Try.prog W .any base t v)
    (hW : DataW.Whole enc Try.prog Try.f4.params.toList Rows.flowPacketsSpec.vars false W args.toList ds gs before) :
    Calls Try.prog 4 args W fun e W' => ∃ v, e = .returned v ∧ Rows.flowPacketsSpec.post enc Try.prog Try.f4 false true false false W args v W' := by
  have hW' := hW
  obtain ⟨p, q, hA, hV, rfl, hfz, hnd⟩ := hW
  rw [Try.params4] at hA hval
  obtain ⟨v0, vs0, d0, ds0, p0, q0, hargs0, rfl, rfl, h0, r0⟩ := trodAll_cons hA
  obtain ⟨hnil, rfl, rfl⟩ := trodAll_nil r0
  subst hnil
  obtain rfl : args = #[v0] := by cases args; simp_all
  obtain ⟨rfl, rfl⟩ := trodVars_none hV
  exact (flowPackets_open W base (hval 0 _ _ rfl rfl) h0).mono fun e W' ⟨he, hb⟩ => ⟨_, he, law_post laidOut Try.underlying4 rfl rfl flowPackets_readable hW' rfl hb⟩

theorem flowPackets_lifted (os : Os) (started : os.Started) (H : Type) (enc : TypeId × Value → H) :
    ReturnsInHanded {} Try.checked os 4 .any (Rows.flowPacketsSpec.pre6 enc Try.prog Try.f4 Rows.flowPacketsRow.domain false) (Rows.flowPacketsSpec.post enc Try.prog Try.f4 false true false false) := by
  refine returnsInHanded_of_change (C := Try.checked) own started (by kernel_rfl) Try.func4
    (ChangeSpec.witness6 (enc := enc) (C := Try.checked) false ⟨#[], #[.agg #[.int .i64 0, .int .i64 0, .int .i64 0, .int .i64 0, .int .i64 0, .int .i64 0, .int .i64 0, .int .i64 0, .int .i64 0, .int .i64 0, .string ByteArray.empty]], []⟩ 8 (by kernel_rfl) (by kernel_rfl) (by kernel_rfl) (by kernel_rfl)) ?_
  intro W base args ds gs before hval hW _ _
  exact flowPackets_contract H enc W base args ds gs before hval hW

theorem flowPackets_k1 : (Rows.flowPacketsRow.wf (OpenSpec.ofChange Rows.flowPacketsSpec)) = true := by kernel_rfl
theorem flowPackets_k10 : (Rows.flowPacketsRow.inPlace == Try.prog.inPlace 4) = true := by kernel_rfl
theorem flowPackets_k11 : (Rows.flowPacketsRow.unfollowed == Try.prog.unfollowed 4) = true := by kernel_rfl
theorem flowPackets_k12 : (Rows.flowPacketsRow.recurses == Try.prog.recurses 4) = true := by kernel_rfl
theorem flowPackets_k13 : (Rows.flowPacketsRow.named == Try.prog.varsNamed 4) = true := by kernel_rfl
theorem flowPackets_k14 : (Rows.flowPacketsRow.maps == (Try.f4.params.toList ++ Rows.flowPacketsSpec.plain.varTypes Try.prog).any (Try.prog.mapsRec ·)) = true := by kernel_rfl
theorem flowPackets_k15 : (Rows.flowPacketsRow.ifaces == (Try.f4.params.toList ++ Rows.flowPacketsSpec.plain.varTypes Try.prog).any (Try.prog.ifacesRec ·)) = true := by kernel_rfl
theorem flowPackets_k17 : (Rows.flowPacketsRow.loops == (Try.f4.params.toList ++ Rows.flowPacketsSpec.plain.varTypes Try.prog).any (Try.prog.loopsFrom ·)) = true := by kernel_rfl
theorem flowPackets_k17b : (Rows.flowPacketsRow.wideKeys == (Try.f4.params.toList ++ Rows.flowPacketsSpec.plain.varTypes Try.prog ++ Try.f4.resultTypes.toList).any (Try.prog.wideKeysFrom ·)) = true := by kernel_rfl
theorem flowPackets_k24 : (Rows.flowPacketsRow.veiled == (Try.f4.params.toList ++ Rows.flowPacketsSpec.plain.varTypes Try.prog ++ Try.f4.resultTypes.toList).any (Try.prog.veiledRec ·)) = true := by kernel_rfl
theorem flowPackets_k25 : (Rows.flowPacketsRow.veiledFits Try.prog Try.f4.params.toList (Try.f4.params.toList ++ Rows.flowPacketsSpec.plain.varTypes Try.prog ++ Try.f4.resultTypes.toList)) = true := by kernel_rfl
theorem flowPackets_named : Try.checked.prog.funcNamed Rows.flowPacketsRow.func = some 4 := by kernel_rfl
theorem flowPackets_facts : joinedFacts Try.prog 4 Try.f4 Rows.flowPacketsSpec Rows.flowPacketsRow = true :=
  facts_mk flowPackets_k1 laidOut mapsRowed_ (by kernel_rfl) (by kernel_rfl) (by kernel_rfl) stops_ (by kernel_rfl) stopKnobs_ flowPackets_k10 flowPackets_k11 flowPackets_k12 flowPackets_k13 flowPackets_k14 flowPackets_k15 (by kernel_rfl) flowPackets_k17 flowPackets_k17b
    (by kernel_rfl) (by kernel_rfl) (by kernel_rfl) (by kernel_rfl) plainKeys_ (by kernel_rfl) stopsHeard_ mayEnter_ liftsFinal_ make_ (by kernel_rfl) (by kernel_rfl) flowPackets_k24 flowPackets_k25
theorem flowPackets_instance : Try.f4.isInstance Try.prog Rows.flowPacketsRow.origin Rows.flowPacketsRow.targs := of_decide_eq_true (by kernel_rfl)
theorem flowPackets_wrapper : Try.f4.isWrapper Try.prog Rows.flowPacketsRow.wrapper Rows.flowPacketsRow.mainSum := by unfold Func.isWrapper; rw [if_neg (of_decide_eq_false (by kernel_rfl))]; exact ⟨rfl, rfl⟩

theorem flowPackets_holds : Rows.FlowPacketsSaid :=
  OpenClaim.holds_of_wide 4 Try.f4 rfl rfl rfl rfl rfl rfl rfl ⟨rfl, rfl, rfl, rfl, rfl⟩ rfl rfl rfl rfl rfl flowPackets_named Try.func4 flowPackets_facts flowPackets_instance flowPackets_wrapper
    (fun os started H enc _ => flowPackets_lifted os started H enc)
#print axioms flowPackets_holds
end Go.Proofs.Ytfgiehfiieecoaa
