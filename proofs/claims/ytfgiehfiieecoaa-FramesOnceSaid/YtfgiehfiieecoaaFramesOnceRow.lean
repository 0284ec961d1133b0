/- FramesOnce: the law returns true at every input, and its arguments read as before. Conditions: none. -/
import Derived.Test.YtfgiehfiieecoaaFramesOnce
import Derived.Test.YtfgiehfiieecoaaFrame
import Derived.Test.YtfgiehfiieecoaaRead
namespace Go.Proofs.Ytfgiehfiieecoaa
open Go.ChangeShapes Go.WideShapes Go.ChangeAt Go.RowKit
set_option maxRecDepth 100000
theorem framesOnce_readable : ∀ t ∈ Try.f13.params.toList, Try.prog.readableRec t = true ∧ t < Try.prog.types.size := of_decide_eq_true (by kernel_rfl)
theorem framesOnce_contract (H : Type) (enc : TypeId × Value → H) (W : World) (base : Nat) (args : Array Value) (ds gs : List (DataW H)) (before : List MemPlace)
    (hval : ∀ (j : Nat) t v, Try.f13.params[j]? = some t → args[j]? = some v → Value.okWide Try.prog W .any base t v)
    (hW : DataW.Whole enc Try.prog Try.f13.params.toList Rows.framesOnceSpec.vars false W args.toList ds gs before)
    (hsz : (DataW.weightsEach Try.prog (Try.f13.params.toList ++ Rows.framesOnceSpec.plain.varTypes Try.prog) (ds ++ gs)).all (· ≤ reachBytes) = true) :
    Calls Try.prog 13 args W fun e W' => ∃ v, e = .returned v ∧ Rows.framesOnceSpec.post enc Try.prog Try.f13 false true false false W args v W' := by
  have hW' := hW
  obtain ⟨p, q, hA, hV, rfl, hfz, hnd⟩ := hW
  rw [Try.params13] at hA hval
  obtain ⟨v0, vs0, d0, ds0, p0, q0, hargs0, rfl, rfl, h0, r0⟩ := trodAll_cons hA
  obtain ⟨hnil, rfl, rfl⟩ := trodAll_nil r0
  subst hnil
  obtain rfl : args = #[v0] := by cases args; simp_all
  obtain ⟨rfl, rfl⟩ := trodVars_none hV
  exact (framesOnce_open W base (hval 0 _ _ rfl rfl) h0 (fun n hn => by have := List.all_eq_true.1 hsz n (weightsEach_mem (i := 0) (t := 50) rfl rfl n hn); simpa using this)).mono fun e W' ⟨he, hb⟩ => ⟨_, he, law_post laidOut Try.underlying4 rfl rfl framesOnce_readable hW' rfl hb⟩

theorem framesOnce_lifted (os : Os) (started : os.Started) (H : Type) (enc : TypeId × Value → H) :
    ReturnsInHanded {} Try.checked os 13 .any (Rows.framesOnceSpec.pre6 enc Try.prog Try.f13 Rows.framesOnceRow.domain false) (Rows.framesOnceSpec.post enc Try.prog Try.f13 false true false false) := by
  refine returnsInHanded_of_change_sized (C := Try.checked) own started (by kernel_rfl) Try.func13
    (ChangeSpec.witness6 (enc := enc) (C := Try.checked) false ⟨#[], #[.slice none 0 0], []⟩ 8 (by kernel_rfl) (by kernel_rfl) (by kernel_rfl) (by kernel_rfl)) ?_
  intro W base args ds gs before hval hW _ hsz _
  exact framesOnce_contract H enc W base args ds gs before hval hW hsz

theorem framesOnce_k1 : (Rows.framesOnceRow.wf (OpenSpec.ofChange Rows.framesOnceSpec)) = true := by kernel_rfl
theorem framesOnce_k10 : (Rows.framesOnceRow.inPlace == Try.prog.inPlace 13) = true := by kernel_rfl
theorem framesOnce_k11 : (Rows.framesOnceRow.unfollowed == Try.prog.unfollowed 13) = true := by kernel_rfl
theorem framesOnce_k12 : (Rows.framesOnceRow.recurses == Try.prog.recurses 13) = true := by kernel_rfl
theorem framesOnce_k13 : (Rows.framesOnceRow.named == Try.prog.varsNamed 13) = true := by kernel_rfl
theorem framesOnce_k14 : (Rows.framesOnceRow.maps == (Try.f13.params.toList ++ Rows.framesOnceSpec.plain.varTypes Try.prog).any (Try.prog.mapsRec ·)) = true := by kernel_rfl
theorem framesOnce_k15 : (Rows.framesOnceRow.ifaces == (Try.f13.params.toList ++ Rows.framesOnceSpec.plain.varTypes Try.prog).any (Try.prog.ifacesRec ·)) = true := by kernel_rfl
theorem framesOnce_k17 : (Rows.framesOnceRow.loops == (Try.f13.params.toList ++ Rows.framesOnceSpec.plain.varTypes Try.prog).any (Try.prog.loopsFrom ·)) = true := by kernel_rfl
theorem framesOnce_k17b : (Rows.framesOnceRow.wideKeys == (Try.f13.params.toList ++ Rows.framesOnceSpec.plain.varTypes Try.prog ++ Try.f13.resultTypes.toList).any (Try.prog.wideKeysFrom ·)) = true := by kernel_rfl
theorem framesOnce_k24 : (Rows.framesOnceRow.veiled == (Try.f13.params.toList ++ Rows.framesOnceSpec.plain.varTypes Try.prog ++ Try.f13.resultTypes.toList).any (Try.prog.veiledRec ·)) = true := by kernel_rfl
theorem framesOnce_k25 : (Rows.framesOnceRow.veiledFits Try.prog Try.f13.params.toList (Try.f13.params.toList ++ Rows.framesOnceSpec.plain.varTypes Try.prog ++ Try.f13.resultTypes.toList)) = true := by kernel_rfl
theorem framesOnce_named : Try.checked.prog.funcNamed Rows.framesOnceRow.func = some 13 := by kernel_rfl
theorem framesOnce_facts : joinedFacts Try.prog 13 Try.f13 Rows.framesOnceSpec Rows.framesOnceRow = true :=
  facts_mk framesOnce_k1 laidOut mapsRowed_ (by kernel_rfl) (by kernel_rfl) (by kernel_rfl) stops_ (by kernel_rfl) stopKnobs_ framesOnce_k10 framesOnce_k11 framesOnce_k12 framesOnce_k13 framesOnce_k14 framesOnce_k15 (by kernel_rfl) framesOnce_k17 framesOnce_k17b
    (by kernel_rfl) (by kernel_rfl) (by kernel_rfl) (by kernel_rfl) plainKeys_ (by kernel_rfl) stopsHeard_ mayEnter_ liftsFinal_ make_ (by kernel_rfl) (by kernel_rfl) framesOnce_k24 framesOnce_k25
theorem framesOnce_instance : Try.f13.isInstance Try.prog Rows.framesOnceRow.origin Rows.framesOnceRow.targs := of_decide_eq_true (by kernel_rfl)
theorem framesOnce_wrapper : Try.f13.isWrapper Try.prog Rows.framesOnceRow.wrapper Rows.framesOnceRow.mainSum := by unfold Func.isWrapper; rw [if_neg (of_decide_eq_false (by kernel_rfl))]; exact ⟨rfl, rfl⟩

theorem framesOnce_holds : Rows.FramesOnceSaid :=
  OpenClaim.holds_of_wide 13 Try.f13 rfl rfl rfl rfl rfl rfl rfl ⟨rfl, rfl, rfl, rfl, rfl⟩ rfl rfl rfl rfl rfl framesOnce_named Try.func13 framesOnce_facts framesOnce_instance framesOnce_wrapper
    (fun os started H enc _ => framesOnce_lifted os started H enc)
#print axioms framesOnce_holds
end Go.Proofs.Ytfgiehfiieecoaa
