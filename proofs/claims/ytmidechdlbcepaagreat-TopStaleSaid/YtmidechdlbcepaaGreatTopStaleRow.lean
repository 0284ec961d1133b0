/- TopStale: the law returns true at every input, and its arguments read as before. Conditions: none. -/
import Derived.Test.YtmidechdlbcepaaGreatPack49
import Derived.Test.YtmidechdlbcepaaGreatPack03
import Derived.Test.YtmidechdlbcepaaGreatPack08
set_option linter.unusedSimpArgs false
set_option linter.unusedVariables false
namespace Go.Proofs.YtmidechdlbcepaaGreat
open Go.ChangeShapes Go.WideShapes Go.ChangeAt Go.RowKit
set_option maxRecDepth 100000
theorem topStale_readable : ∀ t ∈ Tryz.f11.params.toList, Tryz.prog.readableRec t = true ∧ t < Tryz.prog.types.size := of_decide_eq_true (by kernel_rfl)
theorem topStale_contract (H : Type) (enc : TypeId × Value → H) (W : World) (base : Nat) (args : Array Value) (ds gs : List (DataW H)) (before : List MemPlace)
    (hval : ∀ (j : Nat) t v, Tryz.f11.params[j]? = some t → args[j]? = some v → Value.okWide Tryz.prog W .any base t v)
    (hW : DataW.Whole enc Tryz.prog Tryz.f11.params.toList Rows.topStaleSpec.vars false W args.toList ds gs before)
    (hsz : (DataW.weightsEach Tryz.prog (Tryz.f11.params.toList ++ Rows.topStaleSpec.plain.varTypes Tryz.prog) (ds ++ gs)).all (· ≤ reachBytes) = true) :
    Calls Tryz.prog 11 args W fun e W' => ∃ v, e = .returned v ∧ Rows.topStaleSpec.post enc Tryz.prog Tryz.f11 false true false false W args v W' := by
  have hW' := hW
  obtain ⟨p, q, hA, hV, rfl, hfz, hnd⟩ := hW
  rw [Tryz.params11] at hA hval
  obtain ⟨v0, vs0, d0, ds0, p0, q0, hargs0, rfl, rfl, h0, r0⟩ := trodAll_cons hA
  obtain ⟨hnil, rfl, rfl⟩ := trodAll_nil r0
  subst hnil
  obtain rfl : args = #[v0] := by cases args; simp_all
  obtain ⟨rfl, rfl⟩ := trodVars_none hV
  exact (topStale_open W base (hval 0 _ _ rfl rfl) h0 (fun n hn => by have := List.all_eq_true.1 hsz n (weightsEach_mem (i := 0) (t := 57) rfl rfl n hn); simpa using this)).mono fun e W' ⟨he, hb⟩ => ⟨_, he, law_post laidOut Tryz.underlying4 rfl rfl topStale_readable hW' rfl hb⟩

theorem topStale_lifted (os : Os) (started : os.Started) (H : Type) (enc : TypeId × Value → H) :
    ReturnsInHanded {} Tryz.checked os 11 .any (Rows.topStaleSpec.pre6 enc Tryz.prog Tryz.f11 Rows.topStaleRow.domain false) (Rows.topStaleSpec.post enc Tryz.prog Tryz.f11 false true false false) := by
  refine returnsInHanded_of_change_sized (C := Tryz.checked) own started (by kernel_rfl) Tryz.func11
    (ChangeSpec.witness6 (enc := enc) (C := Tryz.checked) false ⟨#[], #[.slice none 0 0], []⟩ 8 (by kernel_rfl) (by kernel_rfl) (by kernel_rfl) (by kernel_rfl)) ?_
  intro W base args ds gs before hval hW _ hsz _
  exact topStale_contract H enc W base args ds gs before hval hW hsz

theorem topStale_k1 : (Rows.topStaleRow.wf (OpenSpec.ofChange Rows.topStaleSpec)) = true := by kernel_rfl
theorem topStale_k10 : (Rows.topStaleRow.inPlace == Tryz.prog.inPlace 11) = true := by kernel_rfl
theorem topStale_k11 : (Rows.topStaleRow.unfollowed == Tryz.prog.unfollowed 11) = true := by kernel_rfl
theorem topStale_k12 : (Rows.topStaleRow.recurses == Tryz.prog.recurses 11) = true := by kernel_rfl
theorem topStale_k13 : (Rows.topStaleRow.named == Tryz.prog.varsNamed 11) = true := by kernel_rfl
theorem topStale_k14 : (Rows.topStaleRow.maps == (Tryz.f11.params.toList ++ Rows.topStaleSpec.plain.varTypes Tryz.prog).any (Tryz.prog.mapsRec ·)) = true := by kernel_rfl
theorem topStale_k15 : (Rows.topStaleRow.ifaces == (Tryz.f11.params.toList ++ Rows.topStaleSpec.plain.varTypes Tryz.prog).any (Tryz.prog.ifacesRec ·)) = true := by kernel_rfl
theorem topStale_k17 : (Rows.topStaleRow.loops == (Tryz.f11.params.toList ++ Rows.topStaleSpec.plain.varTypes Tryz.prog).any (Tryz.prog.loopsFrom ·)) = true := by kernel_rfl
theorem topStale_k17b : (Rows.topStaleRow.wideKeys == (Tryz.f11.params.toList ++ Rows.topStaleSpec.plain.varTypes Tryz.prog ++ Tryz.f11.resultTypes.toList).any (Tryz.prog.wideKeysFrom ·)) = true := by kernel_rfl
theorem topStale_k24 : (Rows.topStaleRow.veiled == (Tryz.f11.params.toList ++ Rows.topStaleSpec.plain.varTypes Tryz.prog ++ Tryz.f11.resultTypes.toList).any (Tryz.prog.veiledRec ·)) = true := by kernel_rfl
theorem topStale_k25 : (Rows.topStaleRow.veiledFits Tryz.prog Tryz.f11.params.toList (Tryz.f11.params.toList ++ Rows.topStaleSpec.plain.varTypes Tryz.prog ++ Tryz.f11.resultTypes.toList)) = true := by kernel_rfl
theorem topStale_named : Tryz.checked.prog.funcNamed Rows.topStaleRow.func = some 11 := by kernel_rfl
theorem topStale_facts : joinedFacts Tryz.prog 11 Tryz.f11 Rows.topStaleSpec Rows.topStaleRow = true :=
  facts_mk topStale_k1 laidOut mapsRowed_ (by kernel_rfl) (by kernel_rfl) (by kernel_rfl) stops_ (by kernel_rfl) stopKnobs_ topStale_k10 topStale_k11 topStale_k12 topStale_k13 topStale_k14 topStale_k15 (by kernel_rfl) topStale_k17 topStale_k17b
    (by kernel_rfl) (by kernel_rfl) (by kernel_rfl) (by kernel_rfl) plainKeys_ (by kernel_rfl) stopsHeard_ mayEnter_ liftsFinal_ make_ (by kernel_rfl) (by kernel_rfl) topStale_k24 topStale_k25
theorem topStale_instance : Tryz.f11.isInstance Tryz.prog Rows.topStaleRow.origin Rows.topStaleRow.targs := of_decide_eq_true (by kernel_rfl)
theorem topStale_wrapper : Tryz.f11.isWrapper Tryz.prog Rows.topStaleRow.wrapper Rows.topStaleRow.mainSum := by unfold Func.isWrapper; rw [if_neg (of_decide_eq_false (by kernel_rfl))]; exact ⟨rfl, rfl⟩

theorem topStale_holds : Rows.TopStaleSaid :=
  OpenClaim.holds_of_wide 11 Tryz.f11 rfl rfl rfl rfl rfl rfl rfl ⟨rfl, rfl, rfl, rfl, rfl⟩ rfl rfl rfl rfl rfl topStale_named Tryz.func11 topStale_facts topStale_instance topStale_wrapper
    (fun os started H enc _ => topStale_lifted os started H enc)
#print axioms topStale_holds
end Go.Proofs.YtmidechdlbcepaaGreat