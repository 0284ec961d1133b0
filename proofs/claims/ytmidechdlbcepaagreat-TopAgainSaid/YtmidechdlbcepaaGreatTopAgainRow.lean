/- TopAgain: the law returns true at every input, and its arguments read as before. Conditions: none. -/
import Derived.Test.YtmidechdlbcepaaGreatPack50
import Derived.Test.YtmidechdlbcepaaGreatPack03
import Derived.Test.YtmidechdlbcepaaGreatPack08
set_option linter.unusedSimpArgs false
set_option linter.unusedVariables false
namespace Go.Proofs.YtmidechdlbcepaaGreat
open Go.ChangeShapes Go.WideShapes Go.ChangeAt Go.RowKit
set_option maxRecDepth 100000
theorem topAgain_readable : ∀ t ∈ Tryz.f13.params.toList, Tryz.prog.readableRec t = true ∧ t < Tryz.prog.types.size := of_decide_eq_true (by kernel_rfl)
theorem topAgain_contract (H : Type) (enc : TypeId × Value → H) (W : World) (base : Nat) (args : Array Value) (ds gs : List (DataW H)) (before : List MemPlace)
    (hval : ∀ (j : Nat) t v, Tryz.f13.params[j]? = some t → args[j]? = some v → Value.okWide Tryz.prog W .any base t v)
    (hW : DataW.Whole enc Tryz.prog Tryz.f13.params.toList Rows.topAgainSpec.vars false W args.toList ds gs before)
    (hsz : (DataW.weightsEach Tryz.prog (Tryz.f13.params.toList ++ Rows.topAgainSpec.plain.varTypes Tryz.prog) (ds ++ gs)).all (· ≤ reachBytes) = true) :
    Calls Tryz.prog 13 args W fun e W' => ∃ v, e = .returned v ∧ Rows.topAgainSpec.post enc Tryz.prog Tryz.f13 false true false false W args v W' := by
  have hW' := hW
  obtain ⟨p, q, hA, hV, rfl, hfz, hnd⟩ := hW
  rw [Tryz.params13] at hA hval
  obtain ⟨v0, vs0, d0, ds0, p0, q0, hargs0, rfl, rfl, h0, r0⟩ := trodAll_cons hA
  obtain ⟨v1, vs1, d1, ds1, p1, q1, hargs1, rfl, rfl, h1, r1⟩ := trodAll_cons r0
  obtain ⟨hnil, rfl, rfl⟩ := trodAll_nil r1
  subst hnil
  subst hargs1
  obtain rfl : args = #[v0, v1] := by cases args; simp_all
  obtain ⟨rfl, rfl⟩ := trodVars_none hV
  exact (topAgain_open W base (hval 0 _ _ rfl rfl) h0 (fun n hn => by have := List.all_eq_true.1 hsz n (weightsEach_mem (i := 0) (t := 57) rfl rfl n hn); simpa using this) (hval 1 _ _ rfl rfl) h1 (fun n hn => by have := List.all_eq_true.1 hsz n (weightsEach_mem (i := 1) (t := 3) rfl rfl n hn); simpa using this)).mono fun e W' ⟨he, hb⟩ => ⟨_, he, law_post laidOut Tryz.underlying4 rfl rfl topAgain_readable hW' rfl hb⟩

theorem topAgain_lifted (os : Os) (started : os.Started) (H : Type) (enc : TypeId × Value → H) :
    ReturnsInHanded {} Tryz.checked os 13 .any (Rows.topAgainSpec.pre6 enc Tryz.prog Tryz.f13 Rows.topAgainRow.domain false) (Rows.topAgainSpec.post enc Tryz.prog Tryz.f13 false true false false) := by
  refine returnsInHanded_of_change_sized (C := Tryz.checked) own started (by kernel_rfl) Tryz.func13
    (ChangeSpec.witness6 (enc := enc) (C := Tryz.checked) false ⟨#[], #[.slice none 0 0, .int .i64 0], []⟩ 8 (by kernel_rfl) (by kernel_rfl) (by kernel_rfl) (by kernel_rfl)) ?_
  intro W base args ds gs before hval hW _ hsz _
  exact topAgain_contract H enc W base args ds gs before hval hW hsz

theorem topAgain_k1 : (Rows.topAgainRow.wf (OpenSpec.ofChange Rows.topAgainSpec)) = true := by kernel_rfl
theorem topAgain_k10 : (Rows.topAgainRow.inPlace == Tryz.prog.inPlace 13) = true := by kernel_rfl
theorem topAgain_k11 : (Rows.topAgainRow.unfollowed == Tryz.prog.unfollowed 13) = true := by kernel_rfl
theorem topAgain_k12 : (Rows.topAgainRow.recurses == Tryz.prog.recurses 13) = true := by kernel_rfl
theorem topAgain_k13 : (Rows.topAgainRow.named == Tryz.prog.varsNamed 13) = true := by kernel_rfl
theorem topAgain_k14 : (Rows.topAgainRow.maps == (Tryz.f13.params.toList ++ Rows.topAgainSpec.plain.varTypes Tryz.prog).any (Tryz.prog.mapsRec ·)) = true := by kernel_rfl
theorem topAgain_k15 : (Rows.topAgainRow.ifaces == (Tryz.f13.params.toList ++ Rows.topAgainSpec.plain.varTypes Tryz.prog).any (Tryz.prog.ifacesRec ·)) = true := by kernel_rfl
theorem topAgain_k17 : (Rows.topAgainRow.loops == (Tryz.f13.params.toList ++ Rows.topAgainSpec.plain.varTypes Tryz.prog).any (Tryz.prog.loopsFrom ·)) = true := by kernel_rfl
theorem topAgain_k17b : (Rows.topAgainRow.wideKeys == (Tryz.f13.params.toList ++ Rows.topAgainSpec.plain.varTypes Tryz.prog ++ Tryz.f13.resultTypes.toList).any (Tryz.prog.wideKeysFrom ·)) = true := by kernel_rfl
theorem topAgain_k24 : (Rows.topAgainRow.veiled == (Tryz.f13.params.toList ++ Rows.topAgainSpec.plain.varTypes Tryz.prog ++ Tryz.f13.resultTypes.toList).any (Tryz.prog.veiledRec ·)) = true := by kernel_rfl
theorem topAgain_k25 : (Rows.topAgainRow.veiledFits Tryz.prog Tryz.f13.params.toList (Tryz.f13.params.toList ++ Rows.topAgainSpec.plain.varTypes Tryz.prog ++ Tryz.f13.resultTypes.toList)) = true := by kernel_rfl
theorem topAgain_named : Tryz.checked.prog.funcNamed Rows.topAgainRow.func = some 13 := by kernel_rfl
theorem topAgain_facts : joinedFacts Tryz.prog 13 Tryz.f13 Rows.topAgainSpec Rows.topAgainRow = true :=
  facts_mk topAgain_k1 laidOut mapsRowed_ (by kernel_rfl) (by kernel_rfl) (by kernel_rfl) stops_ (by kernel_rfl) stopKnobs_ topAgain_k10 topAgain_k11 topAgain_k12 topAgain_k13 topAgain_k14 topAgain_k15 (by kernel_rfl) topAgain_k17 topAgain_k17b
    (by kernel_rfl) (by kernel_rfl) (by kernel_rfl) (by kernel_rfl) plainKeys_ (by kernel_rfl) stopsHeard_ mayEnter_ liftsFinal_ make_ (by kernel_rfl) (by kernel_rfl) topAgain_k24 topAgain_k25
theorem topAgain_instance : Tryz.f13.isInstance Tryz.prog Rows.topAgainRow.origin Rows.topAgainRow.targs := of_decide_eq_true (by kernel_rfl)
theorem topAgain_wrapper : Tryz.f13.isWrapper Tryz.prog Rows.topAgainRow.wrapper Rows.topAgainRow.mainSum := by unfold Func.isWrapper; rw [if_neg (of_decide_eq_false (by kernel_rfl))]; exact ⟨rfl, rfl⟩

theorem topAgain_holds : Rows.TopAgainSaid :=
  OpenClaim.holds_of_wide 13 Tryz.f13 rfl rfl rfl rfl rfl rfl rfl ⟨rfl, rfl, rfl, rfl, rfl⟩ rfl rfl rfl rfl rfl topAgain_named Tryz.func13 topAgain_facts topAgain_instance topAgain_wrapper
    (fun os started H enc _ => topAgain_lifted os started H enc)
#print axioms topAgain_holds
end Go.Proofs.YtmidechdlbcepaaGreat