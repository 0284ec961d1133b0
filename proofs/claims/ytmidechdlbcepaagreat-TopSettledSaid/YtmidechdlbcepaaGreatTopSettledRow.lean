/- TopSettled: the law returns true at every input, and its arguments read as before. Conditions: none. -/
import Derived.Test.YtmidechdlbcepaaGreatPack52
import Derived.Test.YtmidechdlbcepaaGreatPack03
import Derived.Test.YtmidechdlbcepaaGreatPack08
set_option linter.unusedSimpArgs false
set_option linter.unusedVariables false
namespace Go.Proofs.YtmidechdlbcepaaGreat
open Go.ChangeShapes Go.WideShapes Go.ChangeAt Go.RowKit
set_option maxRecDepth 100000
theorem topSettled_readable : ∀ t ∈ Tryz.f15.params.toList, Tryz.prog.readableRec t = true ∧ t < Tryz.prog.types.size := of_decide_eq_true (by kernel_rfl)
theorem topSettled_contract (H : Type) (enc : TypeId × Value → H) (W : World) (base : Nat) (args : Array Value) (ds gs : List (DataW H)) (before : List MemPlace)
    (hval : ∀ (j : Nat) t v, Tryz.f15.params[j]? = some t → args[j]? = some v → Value.okWide Tryz.prog W .any base t v)
    (hW : DataW.Whole enc Tryz.prog Tryz.f15.params.toList Rows.topSettledSpec.vars false W args.toList ds gs before)
    (hsz : (DataW.weightsEach Tryz.prog (Tryz.f15.params.toList ++ Rows.topSettledSpec.plain.varTypes Tryz.prog) (ds ++ gs)).all (· ≤ reachBytes) = true) :
    Calls Tryz.prog 15 args W fun e W' => ∃ v, e = .returned v ∧ Rows.topSettledSpec.post enc Tryz.prog Tryz.f15 false true false false W args v W' := by
  have hW' := hW
  obtain ⟨p, q, hA, hV, rfl, hfz, hnd⟩ := hW
  rw [Tryz.params15] at hA hval
  obtain ⟨v0, vs0, d0, ds0, p0, q0, hargs0, rfl, rfl, h0, r0⟩ := trodAll_cons hA
  obtain ⟨v1, vs1, d1, ds1, p1, q1, hargs1, rfl, rfl, h1, r1⟩ := trodAll_cons r0
  obtain ⟨hnil, rfl, rfl⟩ := trodAll_nil r1
  subst hnil
  subst hargs1
  obtain rfl : args = #[v0, v1] := by cases args; simp_all
  obtain ⟨rfl, rfl⟩ := trodVars_none hV
  exact (topSettled_open W base (hval 0 _ _ rfl rfl) h0 (fun n hn => by have := List.all_eq_true.1 hsz n (weightsEach_mem (i := 0) (t := 57) rfl rfl n hn); simpa using this) (hval 1 _ _ rfl rfl) h1 (fun n hn => by have := List.all_eq_true.1 hsz n (weightsEach_mem (i := 1) (t := 59) rfl rfl n hn); simpa using this)).mono fun e W' ⟨he, hb⟩ => ⟨_, he, law_post laidOut Tryz.underlying4 rfl rfl topSettled_readable hW' rfl hb⟩

theorem topSettled_lifted (os : Os) (started : os.Started) (H : Type) (enc : TypeId × Value → H) :
    ReturnsInHanded {} Tryz.checked os 15 .any (Rows.topSettledSpec.pre6 enc Tryz.prog Tryz.f15 Rows.topSettledRow.domain false) (Rows.topSettledSpec.post enc Tryz.prog Tryz.f15 false true false false) := by
  refine returnsInHanded_of_change_sized (C := Tryz.checked) own started (by kernel_rfl) Tryz.func15
    (ChangeSpec.witness6 (enc := enc) (C := Tryz.checked) false ⟨#[], #[.slice none 0 0, .agg #[.int .i64 0, .int .i64 0, .int .i64 0, .int .i64 0]], []⟩ 8 (by kernel_rfl) (by kernel_rfl) (by kernel_rfl) (by kernel_rfl)) ?_
  intro W base args ds gs before hval hW _ hsz _
  exact topSettled_contract H enc W base args ds gs before hval hW hsz

theorem topSettled_k1 : (Rows.topSettledRow.wf (OpenSpec.ofChange Rows.topSettledSpec)) = true := by kernel_rfl
theorem topSettled_k10 : (Rows.topSettledRow.inPlace == Tryz.prog.inPlace 15) = true := by kernel_rfl
theorem topSettled_k11 : (Rows.topSettledRow.unfollowed == Tryz.prog.unfollowed 15) = true := by kernel_rfl
theorem topSettled_k12 : (Rows.topSettledRow.recurses == Tryz.prog.recurses 15) = true := by kernel_rfl
theorem topSettled_k13 : (Rows.topSettledRow.named == Tryz.prog.varsNamed 15) = true := by kernel_rfl
theorem topSettled_k14 : (Rows.topSettledRow.maps == (Tryz.f15.params.toList ++ Rows.topSettledSpec.plain.varTypes Tryz.prog).any (Tryz.prog.mapsRec ·)) = true := by kernel_rfl
theorem topSettled_k15 : (Rows.topSettledRow.ifaces == (Tryz.f15.params.toList ++ Rows.topSettledSpec.plain.varTypes Tryz.prog).any (Tryz.prog.ifacesRec ·)) = true := by kernel_rfl
theorem topSettled_k17 : (Rows.topSettledRow.loops == (Tryz.f15.params.toList ++ Rows.topSettledSpec.plain.varTypes Tryz.prog).any (Tryz.prog.loopsFrom ·)) = true := by kernel_rfl
theorem topSettled_k17b : (Rows.topSettledRow.wideKeys == (Tryz.f15.params.toList ++ Rows.topSettledSpec.plain.varTypes Tryz.prog ++ Tryz.f15.resultTypes.toList).any (Tryz.prog.wideKeysFrom ·)) = true := by kernel_rfl
theorem topSettled_k24 : (Rows.topSettledRow.veiled == (Tryz.f15.params.toList ++ Rows.topSettledSpec.plain.varTypes Tryz.prog ++ Tryz.f15.resultTypes.toList).any (Tryz.prog.veiledRec ·)) = true := by kernel_rfl
theorem topSettled_k25 : (Rows.topSettledRow.veiledFits Tryz.prog Tryz.f15.params.toList (Tryz.f15.params.toList ++ Rows.topSettledSpec.plain.varTypes Tryz.prog ++ Tryz.f15.resultTypes.toList)) = true := by kernel_rfl
theorem topSettled_named : Tryz.checked.prog.funcNamed Rows.topSettledRow.func = some 15 := by kernel_rfl
theorem topSettled_facts : joinedFacts Tryz.prog 15 Tryz.f15 Rows.topSettledSpec Rows.topSettledRow = true :=
  facts_mk topSettled_k1 laidOut mapsRowed_ (by kernel_rfl) (by kernel_rfl) (by kernel_rfl) stops_ (by kernel_rfl) stopKnobs_ topSettled_k10 topSettled_k11 topSettled_k12 topSettled_k13 topSettled_k14 topSettled_k15 (by kernel_rfl) topSettled_k17 topSettled_k17b
    (by kernel_rfl) (by kernel_rfl) (by kernel_rfl) (by kernel_rfl) plainKeys_ (by kernel_rfl) stopsHeard_ mayEnter_ liftsFinal_ make_ (by kernel_rfl) (by kernel_rfl) topSettled_k24 topSettled_k25
theorem topSettled_instance : Tryz.f15.isInstance Tryz.prog Rows.topSettledRow.origin Rows.topSettledRow.targs := of_decide_eq_true (by kernel_rfl)
theorem topSettled_wrapper : Tryz.f15.isWrapper Tryz.prog Rows.topSettledRow.wrapper Rows.topSettledRow.mainSum := by unfold Func.isWrapper; rw [if_neg (of_decide_eq_false (by kernel_rfl))]; exact ⟨rfl, rfl⟩

theorem topSettled_holds : Rows.TopSettledSaid :=
  OpenClaim.holds_of_wide 15 Tryz.f15 rfl rfl rfl rfl rfl rfl rfl ⟨rfl, rfl, rfl, rfl, rfl⟩ rfl rfl rfl rfl rfl topSettled_named Tryz.func15 topSettled_facts topSettled_instance topSettled_wrapper
    (fun os started H enc _ => topSettled_lifted os started H enc)
#print axioms topSettled_holds
end Go.Proofs.YtmidechdlbcepaaGreat