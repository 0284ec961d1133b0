/- WireChecks: the law returns true at every input, and its arguments read as before. Conditions: none. -/
import Derived.Test.YtfgiehfiieecoaaWireChecks
import Derived.Test.YtfgiehfiieecoaaFrame
namespace Go.Proofs.Ytfgiehfiieecoaa
open Go.ChangeShapes Go.WideShapes Go.ChangeAt Go.RowKit
set_option maxRecDepth 100000
theorem wireChecks_readable : ∀ t ∈ Try.f6.params.toList, Try.prog.readableRec t = true ∧ t < Try.prog.types.size := of_decide_eq_true (by kernel_rfl)
theorem wireChecks_contract (H : Type) (enc : TypeId × Value → H) (W : World) (base : Nat) (args : Array Value) (ds gs : List (DataW H)) (before : List MemPlace)
    (hval : ∀ (j : Nat) t v, Try.f6.params[j]? = some t → args[j]? = some v → Value.okWide Try.prog W .any base t v)
    (hW : DataW.Whole enc Try.prog Try.f6.params.toList Rows.wireChecksSpec.vars false W args.toList ds gs before) :
    Calls Try.prog 6 args W fun e W' => ∃ v, e = .returned v ∧ Rows.wireChecksSpec.post enc Try.prog Try.f6 false true false false W args v W' := by
  have hW' := hW
  obtain ⟨p, q, hA, hV, rfl, hfz, hnd⟩ := hW
  rw [Try.params6] at hA hval
  obtain ⟨v0, vs0, d0, ds0, p0, q0, hargs0, rfl, rfl, h0, r0⟩ := trodAll_cons hA
  obtain ⟨hnil, rfl, rfl⟩ := trodAll_nil r0
  subst hnil
  obtain rfl : args = #[v0] := by cases args; simp_all
  obtain ⟨rfl, rfl⟩ := trodVars_none hV
  exact (wireChecks_open W base (hval 0 _ _ rfl rfl) h0).mono fun e W' ⟨he, hb⟩ => ⟨_, he, law_post laidOut Try.underlying4 rfl rfl wireChecks_readable hW' rfl hb⟩

theorem wireChecks_lifted (os : Os) (started : os.Started) (H : Type) (enc : TypeId × Value → H) :
    ReturnsInHanded {} Try.checked os 6 .any (Rows.wireChecksSpec.pre6 enc Try.prog Try.f6 Rows.wireChecksRow.domain false) (Rows.wireChecksSpec.post enc Try.prog Try.f6 false true false false) := by
  refine returnsInHanded_of_change (C := Try.checked) own started (by kernel_rfl) Try.func6
    (ChangeSpec.witness6 (enc := enc) (C := Try.checked) false ⟨#[], #[.agg #[.int .i64 0, .int .i64 0, .int .i64 0, .int .i64 0, .int .i64 0, .int .i64 0, .int .i64 0, .string ByteArray.empty]], []⟩ 8 (by kernel_rfl) (by kernel_rfl) (by kernel_rfl) (by kernel_rfl)) ?_
  intro W base args ds gs before hval hW _ _
  exact wireChecks_contract H enc W base args ds gs before hval hW

theorem wireChecks_k1 : (Rows.wireChecksRow.wf (OpenSpec.ofChange Rows.wireChecksSpec)) = true := by kernel_rfl
theorem wireChecks_k10 : (Rows.wireChecksRow.inPlace == Try.prog.inPlace 6) = true := by kernel_rfl
theorem wireChecks_k11 : (Rows.wireChecksRow.unfollowed == Try.prog.unfollowed 6) = true := by kernel_rfl
theorem wireChecks_k12 : (Rows.wireChecksRow.recurses == Try.prog.recurses 6) = true := by kernel_rfl
theorem wireChecks_k13 : (Rows.wireChecksRow.named == Try.prog.varsNamed 6) = true := by kernel_rfl
theorem wireChecks_k14 : (Rows.wireChecksRow.maps == (Try.f6.params.toList ++ Rows.wireChecksSpec.plain.varTypes Try.prog).any (Try.prog.mapsRec ·)) = true := by kernel_rfl
theorem wireChecks_k15 : (Rows.wireChecksRow.ifaces == (Try.f6.params.toList ++ Rows.wireChecksSpec.plain.varTypes Try.prog).any (Try.prog.ifacesRec ·)) = true := by kernel_rfl
theorem wireChecks_k17 : (Rows.wireChecksRow.loops == (Try.f6.params.toList ++ Rows.wireChecksSpec.plain.varTypes Try.prog).any (Try.prog.loopsFrom ·)) = true := by kernel_rfl
theorem wireChecks_k17b : (Rows.wireChecksRow.wideKeys == (Try.f6.params.toList ++ Rows.wireChecksSpec.plain.varTypes Try.prog ++ Try.f6.resultTypes.toList).any (Try.prog.wideKeysFrom ·)) = true := by kernel_rfl
theorem wireChecks_k24 : (Rows.wireChecksRow.veiled == (Try.f6.params.toList ++ Rows.wireChecksSpec.plain.varTypes Try.prog ++ Try.f6.resultTypes.toList).any (Try.prog.veiledRec ·)) = true := by kernel_rfl
theorem wireChecks_k25 : (Rows.wireChecksRow.veiledFits Try.prog Try.f6.params.toList (Try.f6.params.toList ++ Rows.wireChecksSpec.plain.varTypes Try.prog ++ Try.f6.resultTypes.toList)) = true := by kernel_rfl
theorem wireChecks_named : Try.checked.prog.funcNamed Rows.wireChecksRow.func = some 6 := by kernel_rfl
theorem wireChecks_facts : joinedFacts Try.prog 6 Try.f6 Rows.wireChecksSpec Rows.wireChecksRow = true :=
  facts_mk wireChecks_k1 laidOut mapsRowed_ (by kernel_rfl) (by kernel_rfl) (by kernel_rfl) stops_ (by kernel_rfl) stopKnobs_ wireChecks_k10 wireChecks_k11 wireChecks_k12 wireChecks_k13 wireChecks_k14 wireChecks_k15 (by kernel_rfl) wireChecks_k17 wireChecks_k17b
    (by kernel_rfl) (by kernel_rfl) (by kernel_rfl) (by kernel_rfl) plainKeys_ (by kernel_rfl) stopsHeard_ mayEnter_ liftsFinal_ make_ (by kernel_rfl) (by kernel_rfl) wireChecks_k24 wireChecks_k25
theorem wireChecks_instance : Try.f6.isInstance Try.prog Rows.wireChecksRow.origin Rows.wireChecksRow.targs := of_decide_eq_true (by kernel_rfl)
theorem wireChecks_wrapper : Try.f6.isWrapper Try.prog Rows.wireChecksRow.wrapper Rows.wireChecksRow.mainSum := by unfold Func.isWrapper; rw [if_neg (of_decide_eq_false (by kernel_rfl))]; exact ⟨rfl, rfl⟩

theorem wireChecks_holds : Rows.WireChecksSaid :=
  OpenClaim.holds_of_wide 6 Try.f6 rfl rfl rfl rfl rfl rfl rfl ⟨rfl, rfl, rfl, rfl, rfl⟩ rfl rfl rfl rfl rfl wireChecks_named Try.func6 wireChecks_facts wireChecks_instance wireChecks_wrapper
    (fun os started H enc _ => wireChecks_lifted os started H enc)
#print axioms wireChecks_holds
end Go.Proofs.Ytfgiehfiieecoaa
