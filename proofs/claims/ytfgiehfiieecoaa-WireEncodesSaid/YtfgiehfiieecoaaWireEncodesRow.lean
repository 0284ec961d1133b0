/- WireEncodes: the law returns true at every input, and its arguments read as before. Conditions: none. -/
import Derived.Test.YtfgiehfiieecoaaWireEncodes
import Derived.Test.YtfgiehfiieecoaaFrame
import Derived.Test.YtfgiehfiieecoaaRead
namespace Go.Proofs.Ytfgiehfiieecoaa
open Go.ChangeShapes Go.WideShapes Go.ChangeAt Go.RowKit
set_option maxRecDepth 100000
theorem wireEncodes_readable : ∀ t ∈ Try.f9.params.toList, Try.prog.readableRec t = true ∧ t < Try.prog.types.size := of_decide_eq_true (by kernel_rfl)
theorem wireEncodes_contract (H : Type) (enc : TypeId × Value → H) (W : World) (base : Nat) (args : Array Value) (ds gs : List (DataW H)) (before : List MemPlace)
    (hval : ∀ (j : Nat) t v, Try.f9.params[j]? = some t → args[j]? = some v → Value.okWide Try.prog W .any base t v)
    (hW : DataW.Whole enc Try.prog Try.f9.params.toList Rows.wireEncodesSpec.vars false W args.toList ds gs before) :
    Calls Try.prog 9 args W fun e W' => ∃ v, e = .returned v ∧ Rows.wireEncodesSpec.post enc Try.prog Try.f9 false true false false W args v W' := by
  have hW' := hW
  obtain ⟨p, q, hA, hV, rfl, hfz, hnd⟩ := hW
  rw [Try.params9] at hA hval
  obtain ⟨v0, vs0, d0, ds0, p0, q0, hargs0, rfl, rfl, h0, r0⟩ := trodAll_cons hA
  obtain ⟨hnil, rfl, rfl⟩ := trodAll_nil r0
  subst hnil
  obtain rfl : args = #[v0] := by cases args; simp_all
  obtain ⟨rfl, rfl⟩ := trodVars_none hV
  exact (wireEncodes_open W base (hval 0 _ _ rfl rfl) h0).mono fun e W' ⟨he, hb⟩ => ⟨_, he, law_post laidOut Try.underlying4 rfl rfl wireEncodes_readable hW' rfl hb⟩

theorem wireEncodes_lifted (os : Os) (started : os.Started) (H : Type) (enc : TypeId × Value → H) :
    ReturnsInHanded {} Try.checked os 9 .any (Rows.wireEncodesSpec.pre6 enc Try.prog Try.f9 Rows.wireEncodesRow.domain false) (Rows.wireEncodesSpec.post enc Try.prog Try.f9 false true false false) := by
  refine returnsInHanded_of_change (C := Try.checked) own started (by kernel_rfl) Try.func9
    (ChangeSpec.witness6 (enc := enc) (C := Try.checked) false ⟨#[], #[.agg #[.int .i64 0, .int .i64 0, .int .i64 0, .int .i64 0, .int .i64 0, .int .i64 0, .int .i64 0, .string ByteArray.empty]], []⟩ 8 (by kernel_rfl) (by kernel_rfl) (by kernel_rfl) (by kernel_rfl)) ?_
  intro W base args ds gs before hval hW _ _
  exact wireEncodes_contract H enc W base args ds gs before hval hW

theorem wireEncodes_k1 : (Rows.wireEncodesRow.wf (OpenSpec.ofChange Rows.wireEncodesSpec)) = true := by kernel_rfl
theorem wireEncodes_k10 : (Rows.wireEncodesRow.inPlace == Try.prog.inPlace 9) = true := by kernel_rfl
theorem wireEncodes_k11 : (Rows.wireEncodesRow.unfollowed == Try.prog.unfollowed 9) = true := by kernel_rfl
theorem wireEncodes_k12 : (Rows.wireEncodesRow.recurses == Try.prog.recurses 9) = true := by kernel_rfl
theorem wireEncodes_k13 : (Rows.wireEncodesRow.named == Try.prog.varsNamed 9) = true := by kernel_rfl
theorem wireEncodes_k14 : (Rows.wireEncodesRow.maps == (Try.f9.params.toList ++ Rows.wireEncodesSpec.plain.varTypes Try.prog).any (Try.prog.mapsRec ·)) = true := by kernel_rfl
theorem wireEncodes_k15 : (Rows.wireEncodesRow.ifaces == (Try.f9.params.toList ++ Rows.wireEncodesSpec.plain.varTypes Try.prog).any (Try.prog.ifacesRec ·)) = true := by kernel_rfl
theorem wireEncodes_k17 : (Rows.wireEncodesRow.loops == (Try.f9.params.toList ++ Rows.wireEncodesSpec.plain.varTypes Try.prog).any (Try.prog.loopsFrom ·)) = true := by kernel_rfl
theorem wireEncodes_k17b : (Rows.wireEncodesRow.wideKeys == (Try.f9.params.toList ++ Rows.wireEncodesSpec.plain.varTypes Try.prog ++ Try.f9.resultTypes.toList).any (Try.prog.wideKeysFrom ·)) = true := by kernel_rfl
theorem wireEncodes_k24 : (Rows.wireEncodesRow.veiled == (Try.f9.params.toList ++ Rows.wireEncodesSpec.plain.varTypes Try.prog ++ Try.f9.resultTypes.toList).any (Try.prog.veiledRec ·)) = true := by kernel_rfl
theorem wireEncodes_k25 : (Rows.wireEncodesRow.veiledFits Try.prog Try.f9.params.toList (Try.f9.params.toList ++ Rows.wireEncodesSpec.plain.varTypes Try.prog ++ Try.f9.resultTypes.toList)) = true := by kernel_rfl
theorem wireEncodes_named : Try.checked.prog.funcNamed Rows.wireEncodesRow.func = some 9 := by kernel_rfl
theorem wireEncodes_facts : joinedFacts Try.prog 9 Try.f9 Rows.wireEncodesSpec Rows.wireEncodesRow = true :=
  facts_mk wireEncodes_k1 laidOut mapsRowed_ (by kernel_rfl) (by kernel_rfl) (by kernel_rfl) stops_ (by kernel_rfl) stopKnobs_ wireEncodes_k10 wireEncodes_k11 wireEncodes_k12 wireEncodes_k13 wireEncodes_k14 wireEncodes_k15 (by kernel_rfl) wireEncodes_k17 wireEncodes_k17b
    (by kernel_rfl) (by kernel_rfl) (by kernel_rfl) (by kernel_rfl) plainKeys_ (by kernel_rfl) stopsHeard_ mayEnter_ liftsFinal_ make_ (by kernel_rfl) (by kernel_rfl) wireEncodes_k24 wireEncodes_k25
theorem wireEncodes_instance : Try.f9.isInstance Try.prog Rows.wireEncodesRow.origin Rows.wireEncodesRow.targs := of_decide_eq_true (by kernel_rfl)
theorem wireEncodes_wrapper : Try.f9.isWrapper Try.prog Rows.wireEncodesRow.wrapper Rows.wireEncodesRow.mainSum := by unfold Func.isWrapper; rw [if_neg (of_decide_eq_false (by kernel_rfl))]; exact ⟨rfl, rfl⟩

theorem wireEncodes_holds : Rows.WireEncodesSaid :=
  OpenClaim.holds_of_wide 9 Try.f9 rfl rfl rfl rfl rfl rfl rfl ⟨rfl, rfl, rfl, rfl, rfl⟩ rfl rfl rfl rfl rfl wireEncodes_named Try.func9 wireEncodes_facts wireEncodes_instance wireEncodes_wrapper
    (fun os started H enc _ => wireEncodes_lifted os started H enc)
#print axioms wireEncodes_holds
end Go.Proofs.Ytfgiehfiieecoaa
