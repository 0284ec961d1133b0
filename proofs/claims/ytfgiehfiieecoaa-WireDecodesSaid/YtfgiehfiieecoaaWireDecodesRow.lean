/- WireDecodes: the law returns true at every input, and its arguments read as before. Conditions: none. -/
import Derived.Test.YtfgiehfiieecoaaWireDecodes
import Derived.Test.YtfgiehfiieecoaaFrame
import Derived.Test.YtfgiehfiieecoaaRead
namespace Go.Proofs.Ytfgiehfiieecoaa
open Go.ChangeShapes Go.WideShapes Go.ChangeAt Go.RowKit
set_option maxRecDepth 100000
theorem wireDecodes_readable : ∀ t ∈ Try.f12.params.toList, Try.prog.readableRec t = true ∧ t < Try.prog.types.size := of_decide_eq_true (by kernel_rfl)
theorem wireDecodes_contract (H : Type) (enc : TypeId × Value → H) (W : World) (base : Nat) (args : Array Value) (ds gs : List (DataW H)) (before : List MemPlace)
    (hval : ∀ (j : Nat) t v, Try.f12.params[j]? = some t → args[j]? = some v → Value.okWide Try.prog W .any base t v)
    (hW : DataW.Whole enc Try.prog Try.f12.params.toList Rows.wireDecodesSpec.vars false W args.toList ds gs before)
    (hsz : (DataW.weightsEach Try.prog (Try.f12.params.toList ++ Rows.wireDecodesSpec.plain.varTypes Try.prog) (ds ++ gs)).all (· ≤ reachBytes) = true) :
    Calls Try.prog 12 args W fun e W' => ∃ v, e = .returned v ∧ Rows.wireDecodesSpec.post enc Try.prog Try.f12 false true false false W args v W' := by
  have hW' := hW
  obtain ⟨p, q, hA, hV, rfl, hfz, hnd⟩ := hW
  rw [Try.params12] at hA hval
  obtain ⟨v0, vs0, d0, ds0, p0, q0, hargs0, rfl, rfl, h0, r0⟩ := trodAll_cons hA
  obtain ⟨hnil, rfl, rfl⟩ := trodAll_nil r0
  subst hnil
  obtain rfl : args = #[v0] := by cases args; simp_all
  obtain ⟨rfl, rfl⟩ := trodVars_none hV
  exact (wireDecodes_open W base (hval 0 _ _ rfl rfl) h0 (fun n hn => by have := List.all_eq_true.1 hsz n (weightsEach_mem (i := 0) (t := 50) rfl rfl n hn); simpa using this)).mono fun e W' ⟨he, hb⟩ => ⟨_, he, law_post laidOut Try.underlying4 rfl rfl wireDecodes_readable hW' rfl hb⟩

theorem wireDecodes_lifted (os : Os) (started : os.Started) (H : Type) (enc : TypeId × Value → H) :
    ReturnsInHanded {} Try.checked os 12 .any (Rows.wireDecodesSpec.pre6 enc Try.prog Try.f12 Rows.wireDecodesRow.domain false) (Rows.wireDecodesSpec.post enc Try.prog Try.f12 false true false false) := by
  refine returnsInHanded_of_change_sized (C := Try.checked) own started (by kernel_rfl) Try.func12
    (ChangeSpec.witness6 (enc := enc) (C := Try.checked) false ⟨#[], #[.slice none 0 0], []⟩ 8 (by kernel_rfl) (by kernel_rfl) (by kernel_rfl) (by kernel_rfl)) ?_
  intro W base args ds gs before hval hW _ hsz _
  exact wireDecodes_contract H enc W base args ds gs before hval hW hsz

theorem wireDecodes_k1 : (Rows.wireDecodesRow.wf (OpenSpec.ofChange Rows.wireDecodesSpec)) = true := by kernel_rfl
theorem wireDecodes_k10 : (Rows.wireDecodesRow.inPlace == Try.prog.inPlace 12) = true := by kernel_rfl
theorem wireDecodes_k11 : (Rows.wireDecodesRow.unfollowed == Try.prog.unfollowed 12) = true := by kernel_rfl
theorem wireDecodes_k12 : (Rows.wireDecodesRow.recurses == Try.prog.recurses 12) = true := by kernel_rfl
theorem wireDecodes_k13 : (Rows.wireDecodesRow.named == Try.prog.varsNamed 12) = true := by kernel_rfl
theorem wireDecodes_k14 : (Rows.wireDecodesRow.maps == (Try.f12.params.toList ++ Rows.wireDecodesSpec.plain.varTypes Try.prog).any (Try.prog.mapsRec ·)) = true := by kernel_rfl
theorem wireDecodes_k15 : (Rows.wireDecodesRow.ifaces == (Try.f12.params.toList ++ Rows.wireDecodesSpec.plain.varTypes Try.prog).any (Try.prog.ifacesRec ·)) = true := by kernel_rfl
theorem wireDecodes_k17 : (Rows.wireDecodesRow.loops == (Try.f12.params.toList ++ Rows.wireDecodesSpec.plain.varTypes Try.prog).any (Try.prog.loopsFrom ·)) = true := by kernel_rfl
theorem wireDecodes_k17b : (Rows.wireDecodesRow.wideKeys == (Try.f12.params.toList ++ Rows.wireDecodesSpec.plain.varTypes Try.prog ++ Try.f12.resultTypes.toList).any (Try.prog.wideKeysFrom ·)) = true := by kernel_rfl
theorem wireDecodes_k24 : (Rows.wireDecodesRow.veiled == (Try.f12.params.toList ++ Rows.wireDecodesSpec.plain.varTypes Try.prog ++ Try.f12.resultTypes.toList).any (Try.prog.veiledRec ·)) = true := by kernel_rfl
theorem wireDecodes_k25 : (Rows.wireDecodesRow.veiledFits Try.prog Try.f12.params.toList (Try.f12.params.toList ++ Rows.wireDecodesSpec.plain.varTypes Try.prog ++ Try.f12.resultTypes.toList)) = true := by kernel_rfl
theorem wireDecodes_named : Try.checked.prog.funcNamed Rows.wireDecodesRow.func = some 12 := by kernel_rfl
theorem wireDecodes_facts : joinedFacts Try.prog 12 Try.f12 Rows.wireDecodesSpec Rows.wireDecodesRow = true :=
  facts_mk wireDecodes_k1 laidOut mapsRowed_ (by kernel_rfl) (by kernel_rfl) (by kernel_rfl) stops_ (by kernel_rfl) stopKnobs_ wireDecodes_k10 wireDecodes_k11 wireDecodes_k12 wireDecodes_k13 wireDecodes_k14 wireDecodes_k15 (by kernel_rfl) wireDecodes_k17 wireDecodes_k17b
    (by kernel_rfl) (by kernel_rfl) (by kernel_rfl) (by kernel_rfl) plainKeys_ (by kernel_rfl) stopsHeard_ mayEnter_ liftsFinal_ make_ (by kernel_rfl) (by kernel_rfl) wireDecodes_k24 wireDecodes_k25
theorem wireDecodes_instance : Try.f12.isInstance Try.prog Rows.wireDecodesRow.origin Rows.wireDecodesRow.targs := of_decide_eq_true (by kernel_rfl)
theorem wireDecodes_wrapper : Try.f12.isWrapper Try.prog Rows.wireDecodesRow.wrapper Rows.wireDecodesRow.mainSum := by unfold Func.isWrapper; rw [if_neg (of_decide_eq_false (by kernel_rfl))]; exact ⟨rfl, rfl⟩

theorem wireDecodes_holds : Rows.WireDecodesSaid :=
  OpenClaim.holds_of_wide 12 Try.f12 rfl rfl rfl rfl rfl rfl rfl ⟨rfl, rfl, rfl, rfl, rfl⟩ rfl rfl rfl rfl rfl wireDecodes_named Try.func12 wireDecodes_facts wireDecodes_instance wireDecodes_wrapper
    (fun os started H enc _ => wireDecodes_lifted os started H enc)
#print axioms wireDecodes_holds
end Go.Proofs.Ytfgiehfiieecoaa
