/- WireUnwraps: the law returns true at every input, and its arguments read as before. Conditions: none. -/
import Derived.Test.YtfgiehfiieecoaaWireUnwraps
import Derived.Test.YtfgiehfiieecoaaFrame
import Derived.Test.YtfgiehfiieecoaaRead
namespace Go.Proofs.Ytfgiehfiieecoaa
open Go.ChangeShapes Go.WideShapes Go.ChangeAt Go.RowKit
set_option maxRecDepth 100000
theorem wireUnwraps_readable : ∀ t ∈ Try.f14.params.toList, Try.prog.readableRec t = true ∧ t < Try.prog.types.size := of_decide_eq_true (by kernel_rfl)
theorem wireUnwraps_contract (H : Type) (enc : TypeId × Value → H) (W : World) (base : Nat) (args : Array Value) (ds gs : List (DataW H)) (before : List MemPlace)
    (hval : ∀ (j : Nat) t v, Try.f14.params[j]? = some t → args[j]? = some v → Value.okWide Try.prog W .any base t v)
    (hW : DataW.Whole enc Try.prog Try.f14.params.toList Rows.wireUnwrapsSpec.vars false W args.toList ds gs before)
    (hsz : (DataW.weightsEach Try.prog (Try.f14.params.toList ++ Rows.wireUnwrapsSpec.plain.varTypes Try.prog) (ds ++ gs)).all (· ≤ reachBytes) = true) :
    Calls Try.prog 14 args W fun e W' => ∃ v, e = .returned v ∧ Rows.wireUnwrapsSpec.post enc Try.prog Try.f14 false true false false W args v W' := by
  have hW' := hW
  obtain ⟨p, q, hA, hV, rfl, hfz, hnd⟩ := hW
  rw [Try.params14] at hA hval
  obtain ⟨v0, vs0, d0, ds0, p0, q0, hargs0, rfl, rfl, h0, r0⟩ := trodAll_cons hA
  obtain ⟨hnil, rfl, rfl⟩ := trodAll_nil r0
  subst hnil
  obtain rfl : args = #[v0] := by cases args; simp_all
  obtain ⟨rfl, rfl⟩ := trodVars_none hV
  exact (wireUnwraps_open W base (hval 0 _ _ rfl rfl) h0 (fun n hn => by have := List.all_eq_true.1 hsz n (weightsEach_mem (i := 0) (t := 50) rfl rfl n hn); simpa using this)).mono fun e W' ⟨he, hb⟩ => ⟨_, he, law_post laidOut Try.underlying4 rfl rfl wireUnwraps_readable hW' rfl hb⟩

theorem wireUnwraps_lifted (os : Os) (started : os.Started) (H : Type) (enc : TypeId × Value → H) :
    ReturnsInHanded {} Try.checked os 14 .any (Rows.wireUnwrapsSpec.pre6 enc Try.prog Try.f14 Rows.wireUnwrapsRow.domain false) (Rows.wireUnwrapsSpec.post enc Try.prog Try.f14 false true false false) := by
  refine returnsInHanded_of_change_sized (C := Try.checked) own started (by kernel_rfl) Try.func14
    (ChangeSpec.witness6 (enc := enc) (C := Try.checked) false ⟨#[], #[.slice none 0 0], []⟩ 8 (by kernel_rfl) (by kernel_rfl) (by kernel_rfl) (by kernel_rfl)) ?_
  intro W base args ds gs before hval hW _ hsz _
  exact wireUnwraps_contract H enc W base args ds gs before hval hW hsz

theorem wireUnwraps_k1 : (Rows.wireUnwrapsRow.wf (OpenSpec.ofChange Rows.wireUnwrapsSpec)) = true := by kernel_rfl
theorem wireUnwraps_k10 : (Rows.wireUnwrapsRow.inPlace == Try.prog.inPlace 14) = true := by kernel_rfl
theorem wireUnwraps_k11 : (Rows.wireUnwrapsRow.unfollowed == Try.prog.unfollowed 14) = true := by kernel_rfl
theorem wireUnwraps_k12 : (Rows.wireUnwrapsRow.recurses == Try.prog.recurses 14) = true := by kernel_rfl
theorem wireUnwraps_k13 : (Rows.wireUnwrapsRow.named == Try.prog.varsNamed 14) = true := by kernel_rfl
theorem wireUnwraps_k14 : (Rows.wireUnwrapsRow.maps == (Try.f14.params.toList ++ Rows.wireUnwrapsSpec.plain.varTypes Try.prog).any (Try.prog.mapsRec ·)) = true := by kernel_rfl
theorem wireUnwraps_k15 : (Rows.wireUnwrapsRow.ifaces == (Try.f14.params.toList ++ Rows.wireUnwrapsSpec.plain.varTypes Try.prog).any (Try.prog.ifacesRec ·)) = true := by kernel_rfl
theorem wireUnwraps_k17 : (Rows.wireUnwrapsRow.loops == (Try.f14.params.toList ++ Rows.wireUnwrapsSpec.plain.varTypes Try.prog).any (Try.prog.loopsFrom ·)) = true := by kernel_rfl
theorem wireUnwraps_k17b : (Rows.wireUnwrapsRow.wideKeys == (Try.f14.params.toList ++ Rows.wireUnwrapsSpec.plain.varTypes Try.prog ++ Try.f14.resultTypes.toList).any (Try.prog.wideKeysFrom ·)) = true := by kernel_rfl
theorem wireUnwraps_k24 : (Rows.wireUnwrapsRow.veiled == (Try.f14.params.toList ++ Rows.wireUnwrapsSpec.plain.varTypes Try.prog ++ Try.f14.resultTypes.toList).any (Try.prog.veiledRec ·)) = true := by kernel_rfl
theorem wireUnwraps_k25 : (Rows.wireUnwrapsRow.veiledFits Try.prog Try.f14.params.toList (Try.f14.params.toList ++ Rows.wireUnwrapsSpec.plain.varTypes Try.prog ++ Try.f14.resultTypes.toList)) = true := by kernel_rfl
theorem wireUnwraps_named : Try.checked.prog.funcNamed Rows.wireUnwrapsRow.func = some 14 := by kernel_rfl
theorem wireUnwraps_facts : joinedFacts Try.prog 14 Try.f14 Rows.wireUnwrapsSpec Rows.wireUnwrapsRow = true :=
  facts_mk wireUnwraps_k1 laidOut mapsRowed_ (by kernel_rfl) (by kernel_rfl) (by kernel_rfl) stops_ (by kernel_rfl) stopKnobs_ wireUnwraps_k10 wireUnwraps_k11 wireUnwraps_k12 wireUnwraps_k13 wireUnwraps_k14 wireUnwraps_k15 (by kernel_rfl) wireUnwraps_k17 wireUnwraps_k17b
    (by kernel_rfl) (by kernel_rfl) (by kernel_rfl) (by kernel_rfl) plainKeys_ (by kernel_rfl) stopsHeard_ mayEnter_ liftsFinal_ make_ (by kernel_rfl) (by kernel_rfl) wireUnwraps_k24 wireUnwraps_k25
theorem wireUnwraps_instance : Try.f14.isInstance Try.prog Rows.wireUnwrapsRow.origin Rows.wireUnwrapsRow.targs := of_decide_eq_true (by kernel_rfl)
theorem wireUnwraps_wrapper : Try.f14.isWrapper Try.prog Rows.wireUnwrapsRow.wrapper Rows.wireUnwrapsRow.mainSum := by unfold Func.isWrapper; rw [if_neg (of_decide_eq_false (by kernel_rfl))]; exact ⟨rfl, rfl⟩

theorem wireUnwraps_holds : Rows.WireUnwrapsSaid :=
  OpenClaim.holds_of_wide 14 Try.f14 rfl rfl rfl rfl rfl rfl rfl ⟨rfl, rfl, rfl, rfl, rfl⟩ rfl rfl rfl rfl rfl wireUnwraps_named Try.func14 wireUnwraps_facts wireUnwraps_instance wireUnwraps_wrapper
    (fun os started H enc _ => wireUnwraps_lifted os started H enc)
#print axioms wireUnwraps_holds
end Go.Proofs.Ytfgiehfiieecoaa
