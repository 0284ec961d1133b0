/- ConfCopies: the law returns true at every input, and its arguments read as before. Conditions: none. -/
import Derived.Test.YtfgiehfiieecoaaConfCopies
import Derived.Test.YtfgiehfiieecoaaFrame
import Derived.Test.YtfgiehfiieecoaaRead
namespace Go.Proofs.Ytfgiehfiieecoaa
open Go.ChangeShapes Go.WideShapes Go.ChangeAt Go.RowKit
set_option maxRecDepth 100000
theorem confCopies_readable : ∀ t ∈ Try.f5.params.toList, Try.prog.readableRec t = true ∧ t < Try.prog.types.size := of_decide_eq_true (by kernel_rfl)
theorem confCopies_contract (H : Type) (enc : TypeId × Value → H) (W : World) (base : Nat) (args : Array Value) (ds gs : List (DataW H)) (before : List MemPlace)
    (hval : ∀ (j : Nat) t v, Try.f5.params[j]? = some t → args[j]? = some v → Value.okWide Try.prog W .any base t v)
    (hW : DataW.Whole enc Try.prog Try.f5.params.toList Rows.confCopiesSpec.vars false W args.toList ds gs before)
    (hsz : (DataW.weightsEach Try.prog (Try.f5.params.toList ++ Rows.confCopiesSpec.plain.varTypes Try.prog) (ds ++ gs)).all (· ≤ reachBytes) = true) :
    Calls Try.prog 5 args W fun e W' => ∃ v, e = .returned v ∧ Rows.confCopiesSpec.post enc Try.prog Try.f5 false true false false W args v W' := by
  have hW' := hW
  obtain ⟨p, q, hA, hV, rfl, hfz, hnd⟩ := hW
  rw [Try.params5] at hA hval
  obtain ⟨v0, vs0, d0, ds0, p0, q0, hargs0, rfl, rfl, h0, r0⟩ := trodAll_cons hA
  obtain ⟨hnil, rfl, rfl⟩ := trodAll_nil r0
  subst hnil
  obtain rfl : args = #[v0] := by cases args; simp_all
  obtain ⟨rfl, rfl⟩ := trodVars_none hV
  exact (confCopies_open W base (hval 0 _ _ rfl rfl) h0 (fun n hn => by have := List.all_eq_true.1 hsz n (weightsEach_mem (i := 0) (t := 35) rfl rfl n hn); simpa using this)).mono fun e W' ⟨he, hb⟩ => ⟨_, he, law_post laidOut Try.underlying4 rfl rfl confCopies_readable hW' rfl hb⟩

theorem confCopies_lifted (os : Os) (started : os.Started) (H : Type) (enc : TypeId × Value → H) :
    ReturnsInHanded {} Try.checked os 5 .any (Rows.confCopiesSpec.pre6 enc Try.prog Try.f5 Rows.confCopiesRow.domain false) (Rows.confCopiesSpec.post enc Try.prog Try.f5 false true false false) := by
  refine returnsInHanded_of_change_sized (C := Try.checked) own started (by kernel_rfl) Try.func5
    (ChangeSpec.witness6 (enc := enc) (C := Try.checked) false ⟨#[], #[.agg #[.slice none 0 0, .slice none 0 0, .slice none 0 0]], []⟩ 8 (by kernel_rfl) (by kernel_rfl) (by kernel_rfl) (by kernel_rfl)) ?_
  intro W base args ds gs before hval hW _ hsz _
  exact confCopies_contract H enc W base args ds gs before hval hW hsz

theorem confCopies_k1 : (Rows.confCopiesRow.wf (OpenSpec.ofChange Rows.confCopiesSpec)) = true := by kernel_rfl
theorem confCopies_k10 : (Rows.confCopiesRow.inPlace == Try.prog.inPlace 5) = true := by kernel_rfl
theorem confCopies_k11 : (Rows.confCopiesRow.unfollowed == Try.prog.unfollowed 5) = true := by kernel_rfl
theorem confCopies_k12 : (Rows.confCopiesRow.recurses == Try.prog.recurses 5) = true := by kernel_rfl
theorem confCopies_k13 : (Rows.confCopiesRow.named == Try.prog.varsNamed 5) = true := by kernel_rfl
theorem confCopies_k14 : (Rows.confCopiesRow.maps == (Try.f5.params.toList ++ Rows.confCopiesSpec.plain.varTypes Try.prog).any (Try.prog.mapsRec ·)) = true := by kernel_rfl
theorem confCopies_k15 : (Rows.confCopiesRow.ifaces == (Try.f5.params.toList ++ Rows.confCopiesSpec.plain.varTypes Try.prog).any (Try.prog.ifacesRec ·)) = true := by kernel_rfl
theorem confCopies_k17 : (Rows.confCopiesRow.loops == (Try.f5.params.toList ++ Rows.confCopiesSpec.plain.varTypes Try.prog).any (Try.prog.loopsFrom ·)) = true := by kernel_rfl
theorem confCopies_k17b : (Rows.confCopiesRow.wideKeys == (Try.f5.params.toList ++ Rows.confCopiesSpec.plain.varTypes Try.prog ++ Try.f5.resultTypes.toList).any (Try.prog.wideKeysFrom ·)) = true := by kernel_rfl
theorem confCopies_k24 : (Rows.confCopiesRow.veiled == (Try.f5.params.toList ++ Rows.confCopiesSpec.plain.varTypes Try.prog ++ Try.f5.resultTypes.toList).any (Try.prog.veiledRec ·)) = true := by kernel_rfl
theorem confCopies_k25 : (Rows.confCopiesRow.veiledFits Try.prog Try.f5.params.toList (Try.f5.params.toList ++ Rows.confCopiesSpec.plain.varTypes Try.prog ++ Try.f5.resultTypes.toList)) = true := by kernel_rfl
theorem confCopies_named : Try.checked.prog.funcNamed Rows.confCopiesRow.func = some 5 := by kernel_rfl
theorem confCopies_facts : joinedFacts Try.prog 5 Try.f5 Rows.confCopiesSpec Rows.confCopiesRow = true :=
  facts_mk confCopies_k1 laidOut mapsRowed_ (by kernel_rfl) (by kernel_rfl) (by kernel_rfl) stops_ (by kernel_rfl) stopKnobs_ confCopies_k10 confCopies_k11 confCopies_k12 confCopies_k13 confCopies_k14 confCopies_k15 (by kernel_rfl) confCopies_k17 confCopies_k17b
    (by kernel_rfl) (by kernel_rfl) (by kernel_rfl) (by kernel_rfl) plainKeys_ (by kernel_rfl) stopsHeard_ mayEnter_ liftsFinal_ make_ (by kernel_rfl) (by kernel_rfl) confCopies_k24 confCopies_k25
theorem confCopies_instance : Try.f5.isInstance Try.prog Rows.confCopiesRow.origin Rows.confCopiesRow.targs := of_decide_eq_true (by kernel_rfl)
theorem confCopies_wrapper : Try.f5.isWrapper Try.prog Rows.confCopiesRow.wrapper Rows.confCopiesRow.mainSum := by unfold Func.isWrapper; rw [if_neg (of_decide_eq_false (by kernel_rfl))]; exact ⟨rfl, rfl⟩

theorem confCopies_holds : Rows.ConfCopiesSaid :=
  OpenClaim.holds_of_wide 5 Try.f5 rfl rfl rfl rfl rfl rfl rfl ⟨rfl, rfl, rfl, rfl, rfl⟩ rfl rfl rfl rfl rfl confCopies_named Try.func5 confCopies_facts confCopies_instance confCopies_wrapper
    (fun os started H enc _ => confCopies_lifted os started H enc)
#print axioms confCopies_holds
end Go.Proofs.Ytfgiehfiieecoaa
