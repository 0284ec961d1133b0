/- Names: the law returns true at every input, and its arguments read as before. Conditions: none. -/
import Derived.Test.YtfgiehfiieecoaaNames
import Derived.Test.YtfgiehfiieecoaaFrame
namespace Go.Proofs.Ytfgiehfiieecoaa
open Go.ChangeShapes Go.WideShapes Go.ChangeAt Go.RowKit
set_option maxRecDepth 100000
theorem names_readable : ∀ t ∈ Try.f3.params.toList, Try.prog.readableRec t = true ∧ t < Try.prog.types.size := of_decide_eq_true (by kernel_rfl)
theorem names_contract (H : Type) (enc : TypeId × Value → H) (W : World) (base : Nat) (args : Array Value) (ds gs : List (DataW H)) (before : List MemPlace)
    (hval : ∀ (j : Nat) t v, Try.f3.params[j]? = some t → args[j]? = some v → Value.okWide Try.prog W .any base t v)
    (hW : DataW.Whole enc Try.prog Try.f3.params.toList Rows.namesSpec.vars false W args.toList ds gs before) :
    Calls Try.prog 3 args W fun e W' => ∃ v, e = .returned v ∧ Rows.namesSpec.post enc Try.prog Try.f3 false true false false W args v W' := by
  have hW' := hW
  obtain ⟨p, q, hA, hV, rfl, hfz, hnd⟩ := hW
  rw [Try.params3] at hA hval
  obtain ⟨hnil, rfl, rfl⟩ := trodAll_nil hA
  obtain rfl : args = #[] := by cases args; simp_all
  obtain ⟨rfl, rfl⟩ := trodVars_none hV
  exact (names_open W base).mono fun e W' ⟨he, hb⟩ => ⟨_, he, law_post laidOut Try.underlying4 rfl rfl names_readable hW' rfl hb⟩

theorem names_lifted (os : Os) (started : os.Started) (H : Type) (enc : TypeId × Value → H) :
    ReturnsInHanded {} Try.checked os 3 .any (Rows.namesSpec.pre6 enc Try.prog Try.f3 Rows.namesRow.domain false) (Rows.namesSpec.post enc Try.prog Try.f3 false true false false) := by
  refine returnsInHanded_of_change (C := Try.checked) own started (by kernel_rfl) Try.func3
    (ChangeSpec.witness6 (enc := enc) (C := Try.checked) false ⟨#[], #[], []⟩ 8 (by kernel_rfl) (by kernel_rfl) (by kernel_rfl) (by kernel_rfl)) ?_
  intro W base args ds gs before hval hW _ _
  exact names_contract H enc W base args ds gs before hval hW

theorem names_k1 : (Rows.namesRow.wf (OpenSpec.ofChange Rows.namesSpec)) = true := by kernel_rfl
theorem names_k10 : (Rows.namesRow.inPlace == Try.prog.inPlace 3) = true := by kernel_rfl
theorem names_k11 : (Rows.namesRow.unfollowed == Try.prog.unfollowed 3) = true := by kernel_rfl
theorem names_k12 : (Rows.namesRow.recurses == Try.prog.recurses 3) = true := by kernel_rfl
theorem names_k13 : (Rows.namesRow.named == Try.prog.varsNamed 3) = true := by kernel_rfl
theorem names_k14 : (Rows.namesRow.maps == (Try.f3.params.toList ++ Rows.namesSpec.plain.varTypes Try.prog).any (Try.prog.mapsRec ·)) = true := by kernel_rfl
theorem names_k15 : (Rows.namesRow.ifaces == (Try.f3.params.toList ++ Rows.namesSpec.plain.varTypes Try.prog).any (Try.prog.ifacesRec ·)) = true := by kernel_rfl
theorem names_k17 : (Rows.namesRow.loops == (Try.f3.params.toList ++ Rows.namesSpec.plain.varTypes Try.prog).any (Try.prog.loopsFrom ·)) = true := by kernel_rfl
theorem names_k17b : (Rows.namesRow.wideKeys == (Try.f3.params.toList ++ Rows.namesSpec.plain.varTypes Try.prog ++ Try.f3.resultTypes.toList).any (Try.prog.wideKeysFrom ·)) = true := by kernel_rfl
theorem names_k24 : (Rows.namesRow.veiled == (Try.f3.params.toList ++ Rows.namesSpec.plain.varTypes Try.prog ++ Try.f3.resultTypes.toList).any (Try.prog.veiledRec ·)) = true := by kernel_rfl
theorem names_k25 : (Rows.namesRow.veiledFits Try.prog Try.f3.params.toList (Try.f3.params.toList ++ Rows.namesSpec.plain.varTypes Try.prog ++ Try.f3.resultTypes.toList)) = true := by kernel_rfl
theorem names_named : Try.checked.prog.funcNamed Rows.namesRow.func = some 3 := by kernel_rfl
theorem names_facts : joinedFacts Try.prog 3 Try.f3 Rows.namesSpec Rows.namesRow = true :=
  facts_mk names_k1 laidOut mapsRowed_ (by kernel_rfl) (by kernel_rfl) (by kernel_rfl) stops_ (by kernel_rfl) stopKnobs_ names_k10 names_k11 names_k12 names_k13 names_k14 names_k15 (by kernel_rfl) names_k17 names_k17b
    (by kernel_rfl) (by kernel_rfl) (by kernel_rfl) (by kernel_rfl) plainKeys_ (by kernel_rfl) stopsHeard_ mayEnter_ liftsFinal_ make_ (by kernel_rfl) (by kernel_rfl) names_k24 names_k25
theorem names_instance : Try.f3.isInstance Try.prog Rows.namesRow.origin Rows.namesRow.targs := of_decide_eq_true (by kernel_rfl)
theorem names_wrapper : Try.f3.isWrapper Try.prog Rows.namesRow.wrapper Rows.namesRow.mainSum := by unfold Func.isWrapper; rw [if_neg (of_decide_eq_false (by kernel_rfl))]; exact ⟨rfl, rfl⟩

theorem names_holds : Rows.NamesSaid :=
  OpenClaim.holds_of_wide 3 Try.f3 rfl rfl rfl rfl rfl rfl rfl ⟨rfl, rfl, rfl, rfl, rfl⟩ rfl rfl rfl rfl rfl names_named Try.func3 names_facts names_instance names_wrapper
    (fun os started H enc _ => names_lifted os started H enc)
#print axioms names_holds
end Go.Proofs.Ytfgiehfiieecoaa
