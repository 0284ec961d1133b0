/- PipeFrames: the law returns true at every input, and its arguments read as before. Conditions: none. -/
import Derived.Test.YtfgiehfiieecoaaPipeFrames
import Derived.Test.YtfgiehfiieecoaaFrame
namespace Go.Proofs.Ytfgiehfiieecoaa
open Go.ChangeShapes Go.WideShapes Go.ChangeAt Go.RowKit
set_option maxRecDepth 100000
theorem pipeFrames_readable : ∀ t ∈ Try.f7.params.toList, Try.prog.readableRec t = true ∧ t < Try.prog.types.size := of_decide_eq_true (by kernel_rfl)
theorem pipeFrames_contract (H : Type) (enc : TypeId × Value → H) (W : World) (base : Nat) (args : Array Value) (ds gs : List (DataW H)) (before : List MemPlace)
    (hval : ∀ (j : Nat) t v, Try.f7.params[j]? = some t → args[j]? = some v → Value.okWide Try.prog W .any base t v)
    (hW : DataW.Whole enc Try.prog Try.f7.params.toList Rows.pipeFramesSpec.vars false W args.toList ds gs before) :
    Calls Try.prog 7 args W fun e W' => ∃ v, e = .returned v ∧ Rows.pipeFramesSpec.post enc Try.prog Try.f7 false true false false W args v W' := by
  have hW' := hW
  obtain ⟨p, q, hA, hV, rfl, hfz, hnd⟩ := hW
  rw [Try.params7] at hA hval
  obtain ⟨v0, vs0, d0, ds0, p0, q0, hargs0, rfl, rfl, h0, r0⟩ := trodAll_cons hA
  obtain ⟨hnil, rfl, rfl⟩ := trodAll_nil r0
  subst hnil
  obtain rfl : args = #[v0] := by cases args; simp_all
  obtain ⟨rfl, rfl⟩ := trodVars_none hV
  exact (pipeFrames_open W base (hval 0 _ _ rfl rfl) h0).mono fun e W' ⟨he, hb⟩ => ⟨_, he, law_post laidOut Try.underlying4 rfl rfl pipeFrames_readable hW' rfl hb⟩

theorem pipeFrames_lifted (os : Os) (started : os.Started) (H : Type) (enc : TypeId × Value → H) :
    ReturnsInHanded {} Try.checked os 7 .any (Rows.pipeFramesSpec.pre6 enc Try.prog Try.f7 Rows.pipeFramesRow.domain false) (Rows.pipeFramesSpec.post enc Try.prog Try.f7 false true false false) := by
  refine returnsInHanded_of_change (C := Try.checked) own started (by kernel_rfl) Try.func7
    (ChangeSpec.witness6 (enc := enc) (C := Try.checked) false ⟨#[], #[.agg #[.int .i64 0, .int .i64 0, .int .i64 0, .int .i64 0, .int .i64 0, .int .i64 0, .int .i64 0, .int .i64 0, .int .i64 0, .int .i64 0, .string ByteArray.empty]], []⟩ 8 (by kernel_rfl) (by kernel_rfl) (by kernel_rfl) (by kernel_rfl)) ?_
  intro W base args ds gs before hval hW _ _
  exact pipeFrames_contract H enc W base args ds gs before hval hW

theorem pipeFrames_k1 : (Rows.pipeFramesRow.wf (OpenSpec.ofChange Rows.pipeFramesSpec)) = true := by kernel_rfl
theorem pipeFrames_k10 : (Rows.pipeFramesRow.inPlace == Try.prog.inPlace 7) = true := by kernel_rfl
theorem pipeFrames_k11 : (Rows.pipeFramesRow.unfollowed == Try.prog.unfollowed 7) = true := by kernel_rfl
theorem pipeFrames_k12 : (Rows.pipeFramesRow.recurses == Try.prog.recurses 7) = true := by kernel_rfl
theorem pipeFrames_k13 : (Rows.pipeFramesRow.named == Try.prog.varsNamed 7) = true := by kernel_rfl
theorem pipeFrames_k14 : (Rows.pipeFramesRow.maps == (Try.f7.params.toList ++ Rows.pipeFramesSpec.plain.varTypes Try.prog).any (Try.prog.mapsRec ·)) = true := by kernel_rfl
theorem pipeFrames_k15 : (Rows.pipeFramesRow.ifaces == (Try.f7.params.toList ++ Rows.pipeFramesSpec.plain.varTypes Try.prog).any (Try.prog.ifacesRec ·)) = true := by kernel_rfl
theorem pipeFrames_k17 : (Rows.pipeFramesRow.loops == (Try.f7.params.toList ++ Rows.pipeFramesSpec.plain.varTypes Try.prog).any (Try.prog.loopsFrom ·)) = true := by kernel_rfl
theorem pipeFrames_k17b : (Rows.pipeFramesRow.wideKeys == (Try.f7.params.toList ++ Rows.pipeFramesSpec.plain.varTypes Try.prog ++ Try.f7.resultTypes.toList).any (Try.prog.wideKeysFrom ·)) = true := by kernel_rfl
theorem pipeFrames_k24 : (Rows.pipeFramesRow.veiled == (Try.f7.params.toList ++ Rows.pipeFramesSpec.plain.varTypes Try.prog ++ Try.f7.resultTypes.toList).any (Try.prog.veiledRec ·)) = true := by kernel_rfl
theorem pipeFrames_k25 : (Rows.pipeFramesRow.veiledFits Try.prog Try.f7.params.toList (Try.f7.params.toList ++ Rows.pipeFramesSpec.plain.varTypes Try.prog ++ Try.f7.resultTypes.toList)) = true := by kernel_rfl
theorem pipeFrames_named : Try.checked.prog.funcNamed Rows.pipeFramesRow.func = some 7 := by kernel_rfl
theorem pipeFrames_facts : joinedFacts Try.prog 7 Try.f7 Rows.pipeFramesSpec Rows.pipeFramesRow = true :=
  facts_mk pipeFrames_k1 laidOut mapsRowed_ (by kernel_rfl) (by kernel_rfl) (by kernel_rfl) stops_ (by kernel_rfl) stopKnobs_ pipeFrames_k10 pipeFrames_k11 pipeFrames_k12 pipeFrames_k13 pipeFrames_k14 pipeFrames_k15 (by kernel_rfl) pipeFrames_k17 pipeFrames_k17b
    (by kernel_rfl) (by kernel_rfl) (by kernel_rfl) (by kernel_rfl) plainKeys_ (by kernel_rfl) stopsHeard_ mayEnter_ liftsFinal_ make_ (by kernel_rfl) (by kernel_rfl) pipeFrames_k24 pipeFrames_k25
theorem pipeFrames_instance : Try.f7.isInstance Try.prog Rows.pipeFramesRow.origin Rows.pipeFramesRow.targs := of_decide_eq_true (by kernel_rfl)
theorem pipeFrames_wrapper : Try.f7.isWrapper Try.prog Rows.pipeFramesRow.wrapper Rows.pipeFramesRow.mainSum := by unfold Func.isWrapper; rw [if_neg (of_decide_eq_false (by kernel_rfl))]; exact ⟨rfl, rfl⟩

theorem pipeFrames_holds : Rows.PipeFramesSaid :=
  OpenClaim.holds_of_wide 7 Try.f7 rfl rfl rfl rfl rfl rfl rfl ⟨rfl, rfl, rfl, rfl, rfl⟩ rfl rfl rfl rfl rfl pipeFrames_named Try.func7 pipeFrames_facts pipeFrames_instance pipeFrames_wrapper
    (fun os started H enc _ => pipeFrames_lifted os started H enc)
#print axioms pipeFrames_holds
end Go.Proofs.Ytfgiehfiieecoaa
