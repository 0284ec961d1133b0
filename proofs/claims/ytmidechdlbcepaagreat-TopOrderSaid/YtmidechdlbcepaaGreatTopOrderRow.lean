/- TopOrder: the law returns true at every input, and its arguments read as before. Conditions: none. -/
import Derived.Test.YtmidechdlbcepaaGreatPack54
import Derived.Test.YtmidechdlbcepaaGreatPack03
import Derived.Test.YtmidechdlbcepaaGreatPack08
set_option linter.unusedSimpArgs false
set_option linter.unusedVariables false
namespace Go.Proofs.YtmidechdlbcepaaGreat
open Go.ChangeShapes Go.WideShapes Go.ChangeAt Go.RowKit
set_option maxRecDepth 100000
theorem topOrder_readable : ∀ t ∈ Tryz.f16.params.toList, Tryz.prog.readableRec t = true ∧ t < Tryz.prog.types.size := of_decide_eq_true (by kernel_rfl)
theorem topOrder_contract (H : Type) (enc : TypeId × Value → H) (W : World) (base : Nat) (args : Array Value) (ds gs : List (DataW H)) (before : List MemPlace)
    (hval : ∀ (j : Nat) t v, Tryz.f16.params[j]? = some t → args[j]? = some v → Value.okWide Tryz.prog W .any base t v)
    (hW : DataW.Whole enc Tryz.prog Tryz.f16.params.toList Rows.topOrderSpec.vars false W args.toList ds gs before)
    (hsz : (DataW.weightsEach Tryz.prog (Tryz.f16.params.toList ++ Rows.topOrderSpec.plain.varTypes Tryz.prog) (ds ++ gs)).all (· ≤ reachBytes) = true) :
    Calls Tryz.prog 16 args W fun e W' => ∃ v, e = .returned v ∧ Rows.topOrderSpec.post enc Tryz.prog Tryz.f16 false true false false W args v W' := by
  have hW' := hW
  obtain ⟨p, q, hA, hV, rfl, hfz, hnd⟩ := hW
  rw [Tryz.params16] at hA hval
  obtain ⟨v0, vs0, d0, ds0, p0, q0, hargs0, rfl, rfl, h0, r0⟩ := trodAll_cons hA
  obtain ⟨v1, vs1, d1, ds1, p1, q1, hargs1, rfl, rfl, h1, r1⟩ := trodAll_cons r0
  obtain ⟨hnil, rfl, rfl⟩ := trodAll_nil r1
  subst hnil
  subst hargs1
  obtain rfl : args = #[v0, v1] := by cases args; simp_all
  obtain ⟨rfl, rfl⟩ := trodVars_none hV
  exact (topOrder_open W base (hval 0 _ _ rfl rfl) h0 (fun n hn => by have := List.all_eq_true.1 hsz n (weightsEach_mem (i := 0) (t := 57) rfl rfl n hn); simpa using this) (hval 1 _ _ rfl rfl) h1 (fun n hn => by have := List.all_eq_true.1 hsz n (weightsEach_mem (i := 1) (t := 59) rfl rfl n hn); simpa using this)).mono fun e W' ⟨he, hb⟩ => ⟨_, he, law_post laidOut Tryz.underlying4 rfl rfl topOrder_readable hW' rfl hb⟩

theorem topOrder_lifted (os : Os) (started : os.Started) (H : Type) (enc : TypeId × Value → H) :
    ReturnsInHanded {} Tryz.checked os 16 .any (Rows.topOrderSpec.pre6 enc Tryz.prog Tryz.f16 Rows.topOrderRow.domain false) (Rows.topOrderSpec.post enc Tryz.prog Tryz.f16 false true false false) := by
  refine returnsInHanded_of_change_sized (C := Tryz.checked) own started (by kernel_rfl) Tryz.func16
    (ChangeSpec.witness6 (enc := enc) (C := Tryz.checked) false ⟨#[], #[.slice none 0 0, .agg #[.int .i64 0, .int .i64 0, .int .i64 0, .int .i64 0]], []⟩ 8 (by kernel_rfl) (by kernel_rfl) (by kernel_rfl) (by kernel_rfl)) ?_
  intro W base args ds gs before hval hW _ hsz _
  exact topOrder_contract H enc W base args ds gs before hval hW hsz

theorem topOrder_k1 : (Rows.topOrderRow.wf (OpenSpec.ofChange Rows.topOrderSpec)) = true := by kernel_rfl
theorem topOrder_k10 : (Rows.topOrderRow.inPlace == Tryz.prog.inPlace 16) = true := by kernel_rfl
theorem topOrder_k11 : (Rows.topOrderRow.unfollowed == Tryz.prog.unfollowed 16) = true := by kernel_rfl
theorem topOrder_k12 : (Rows.topOrderRow.recurses == Tryz.prog.recurses 16) = true := by kernel_rfl
theorem topOrder_k13 : (Rows.topOrderRow.named == Tryz.prog.varsNamed 16) = true := by kernel_rfl
theorem topOrder_k14 : (Rows.topOrderRow.maps == (Tryz.f16.params.toList ++ Rows.topOrderSpec.plain.varTypes Tryz.prog).any (Tryz.prog.mapsRec ·)) = true := by kernel_rfl
theorem topOrder_k15 : (Rows.topOrderRow.ifaces == (Tryz.f16.params.toList ++ Rows.topOrderSpec.plain.varTypes Tryz.prog).any (Tryz.prog.ifacesRec ·)) = true := by kernel_rfl
theorem topOrder_k17 : (Rows.topOrderRow.loops == (Tryz.f16.params.toList ++ Rows.topOrderSpec.plain.varTypes Tryz.prog).any (Tryz.prog.loopsFrom ·)) = true := by kernel_rfl
theorem topOrder_k17b : (Rows.topOrderRow.wideKeys == (Tryz.f16.params.toList ++ Rows.topOrderSpec.plain.varTypes Tryz.prog ++ Tryz.f16.resultTypes.toList).any (Tryz.prog.wideKeysFrom ·)) = true := by kernel_rfl
theorem topOrder_k24 : (Rows.topOrderRow.veiled == (Tryz.f16.params.toList ++ Rows.topOrderSpec.plain.varTypes Tryz.prog ++ Tryz.f16.resultTypes.toList).any (Tryz.prog.veiledRec ·)) = true := by kernel_rfl
theorem topOrder_k25 : (Rows.topOrderRow.veiledFits Tryz.prog Tryz.f16.params.toList (Tryz.f16.params.toList ++ Rows.topOrderSpec.plain.varTypes Tryz.prog ++ Tryz.f16.resultTypes.toList)) = true := by kernel_rfl
theorem topOrder_named : Tryz.checked.prog.funcNamed Rows.topOrderRow.func = some 16 := by kernel_rfl
theorem topOrder_facts : joinedFacts Tryz.prog 16 Tryz.f16 Rows.topOrderSpec Rows.topOrderRow = true :=
  facts_mk topOrder_k1 laidOut mapsRowed_ (by kernel_rfl) (by kernel_rfl) (by kernel_rfl) stops_ (by kernel_rfl) stopKnobs_ topOrder_k10 topOrder_k11 topOrder_k12 topOrder_k13 topOrder_k14 topOrder_k15 (by kernel_rfl) topOrder_k17 topOrder_k17b
    (by kernel_rfl) (by kernel_rfl) (by kernel_rfl) (by kernel_rfl) plainKeys_ (by kernel_rfl) stopsHeard_ mayEnter_ liftsFinal_ make_ (by kernel_rfl) (by kernel_rfl) topOrder_k24 topOrder_k25
theorem topOrder_instance : Tryz.f16.isInstance Tryz.prog Rows.topOrderRow.origin Rows.topOrderRow.targs := of_decide_eq_true (by kernel_rfl)
theorem topOrder_wrapper : Tryz.f16.isWrapper Tryz.prog Rows.topOrderRow.wrapper Rows.topOrderRow.mainSum := by unfold Func.isWrapper; rw [if_neg (of_decide_eq_false (by kernel_rfl))]; exact ⟨rfl, rfl⟩

theorem topOrder_holds : Rows.TopOrderSaid :=
  OpenClaim.holds_of_wide 16 Tryz.f16 rfl rfl rfl rfl rfl rfl rfl ⟨rfl, rfl, rfl, rfl, rfl⟩ rfl rfl rfl rfl rfl topOrder_named Tryz.func16 topOrder_facts topOrder_instance topOrder_wrapper
    (fun os started H enc _ => topOrder_lifted os started H enc)
#print axioms topOrder_holds
end Go.Proofs.YtmidechdlbcepaaGreat