/- TopSilent: the law returns true at every input, and its arguments read as before. Conditions: none. -/
import Derived.Test.YtmidechdlbcepaaGreatPack48
import Derived.Test.YtmidechdlbcepaaGreatPack03
import Derived.Test.YtmidechdlbcepaaGreatPack08
set_option linter.unusedSimpArgs false
set_option linter.unusedVariables false
namespace Go.Proofs.YtmidechdlbcepaaGreat
open Go.ChangeShapes Go.WideShapes Go.ChangeAt Go.RowKit
set_option maxRecDepth 100000
theorem topSilent_readable : ∀ t ∈ Tryz.f12.params.toList, Tryz.prog.readableRec t = true ∧ t < Tryz.prog.types.size := of_decide_eq_true (by kernel_rfl)
theorem topSilent_contract (H : Type) (enc : TypeId × Value → H) (W : World) (base : Nat) (args : Array Value) (ds gs : List (DataW H)) (before : List MemPlace)
    (hval : ∀ (j : Nat) t v, Tryz.f12.params[j]? = some t → args[j]? = some v → Value.okWide Tryz.prog W .any base t v)
    (hW : DataW.Whole enc Tryz.prog Tryz.f12.params.toList Rows.topSilentSpec.vars false W args.toList ds gs before)
    (hsz : (DataW.weightsEach Tryz.prog (Tryz.f12.params.toList ++ Rows.topSilentSpec.plain.varTypes Tryz.prog) (ds ++ gs)).all (· ≤ reachBytes) = true) :
    Calls Tryz.prog 12 args W fun e W' => ∃ v, e = .returned v ∧ Rows.topSilentSpec.post enc Tryz.prog Tryz.f12 false true false false W args v W' := by
  have hW' := hW
  obtain ⟨p, q, hA, hV, rfl, hfz, hnd⟩ := hW
  rw [Tryz.params12] at hA hval
  obtain ⟨v0, vs0, d0, ds0, p0, q0, hargs0, rfl, rfl, h0, r0⟩ := trodAll_cons hA
  obtain ⟨v1, vs1, d1, ds1, p1, q1, hargs1, rfl, rfl, h1, r1⟩ := trodAll_cons r0
  obtain ⟨hnil, rfl, rfl⟩ := trodAll_nil r1
  subst hnil
  subst hargs1
  obtain rfl : args = #[v0, v1] := by cases args; simp_all
  obtain ⟨rfl, rfl⟩ := trodVars_none hV
  exact (topSilent_open W base (hval 0 _ _ rfl rfl) h0 (fun n hn => by have := List.all_eq_true.1 hsz n (weightsEach_mem (i := 0) (t := 57) rfl rfl n hn); simpa using this) (hval 1 _ _ rfl rfl) h1 (fun n hn => by have := List.all_eq_true.1 hsz n (weightsEach_mem (i := 1) (t := 59) rfl rfl n hn); simpa using this)).mono fun e W' ⟨he, hb⟩ => ⟨_, he, law_post laidOut Tryz.underlying4 rfl rfl topSilent_readable hW' rfl hb⟩

theorem topSilent_lifted (os : Os) (started : os.Started) (H : Type) (enc : TypeId × Value → H) :
    ReturnsInHanded {} Tryz.checked os 12 .any (Rows.topSilentSpec.pre6 enc Tryz.prog Tryz.f12 Rows.topSilentRow.domain false) (Rows.topSilentSpec.post enc Tryz.prog Tryz.f12 false true false false) := by
  refine returnsInHanded_of_change_sized (C := Tryz.checked) own started (by kernel_rfl) Tryz.func12
    (ChangeSpec.witness6 (enc := enc) (C := Tryz.checked) false ⟨#[], #[.slice none 0 0, .agg #[.int .i64 0, .int .i64 0, .int .i64 0, .int .i64 0]], []⟩ 8 (by kernel_rfl) (by kernel_rfl) (by kernel_rfl) (by kernel_rfl)) ?_
  intro W base args ds gs before hval hW _ hsz _
  exact topSilent_contract H enc W base args ds gs before hval hW hsz

theorem topSilent_k1 : (Rows.topSilentRow.wf (OpenSpec.ofChange Rows.topSilentSpec)) = true := by kernel_rfl
theorem topSilent_k10 : (Rows.topSilentRow.inPlace == Tryz.prog.inPlace 12) = true := by kernel_rfl
theorem topSilent_k11 : (Rows.topSilentRow.unfollowed == Tryz.prog.unfollowed 12) = true := by kernel_rfl
theorem topSilent_k12 : (Rows.topSilentRow.recurses == Tryz.prog.recurses 12) = true := by kernel_rfl
theorem topSilent_k13 : (Rows.topSilentRow.named == Tryz.prog.varsNamed 12) = true := by kernel_rfl
theorem topSilent_k14 : (Rows.topSilentRow.maps == (Tryz.f12.params.toList ++ Rows.topSilentSpec.plain.varTypes Tryz.prog).any (Tryz.prog.mapsRec ·)) = true := by kernel_rfl
theorem topSilent_k15 : (Rows.topSilentRow.ifaces == (Tryz.f12.params.toList ++ Rows.topSilentSpec.plain.varTypes Tryz.prog).any (Tryz.prog.ifacesRec ·)) = true := by kernel_rfl
theorem topSilent_k17 : (Rows.topSilentRow.loops == (Tryz.f12.params.toList ++ Rows.topSilentSpec.plain.varTypes Tryz.prog).any (Tryz.prog.loopsFrom ·)) = true := by kernel_rfl
theorem topSilent_k17b : (Rows.topSilentRow.wideKeys == (Tryz.f12.params.toList ++ Rows.topSilentSpec.plain.varTypes Tryz.prog ++ Tryz.f12.resultTypes.toList).any (Tryz.prog.wideKeysFrom ·)) = true := by kernel_rfl
theorem topSilent_k24 : (Rows.topSilentRow.veiled == (Tryz.f12.params.toList ++ Rows.topSilentSpec.plain.varTypes Tryz.prog ++ Tryz.f12.resultTypes.toList).any (Tryz.prog.veiledRec ·)) = true := by kernel_rfl
theorem topSilent_k25 : (Rows.topSilentRow.veiledFits Tryz.prog Tryz.f12.params.toList (Tryz.f12.params.toList ++ Rows.topSilentSpec.plain.varTypes Tryz.prog ++ Tryz.f12.resultTypes.toList)) = true := by kernel_rfl
theorem topSilent_named : Tryz.checked.prog.funcNamed Rows.topSilentRow.func = some 12 := by kernel_rfl
theorem topSilent_facts : joinedFacts Tryz.prog 12 Tryz.f12 Rows.topSilentSpec Rows.topSilentRow = true :=
  facts_mk topSilent_k1 laidOut mapsRowed_ (by kernel_rfl) (by kernel_rfl) (by kernel_rfl) stops_ (by kernel_rfl) stopKnobs_ topSilent_k10 topSilent_k11 topSilent_k12 topSilent_k13 topSilent_k14 topSilent_k15 (by kernel_rfl) topSilent_k17 topSilent_k17b
    (by kernel_rfl) (by kernel_rfl) (by kernel_rfl) (by kernel_rfl) plainKeys_ (by kernel_rfl) stopsHeard_ mayEnter_ liftsFinal_ make_ (by kernel_rfl) (by kernel_rfl) topSilent_k24 topSilent_k25
theorem topSilent_instance : Tryz.f12.isInstance Tryz.prog Rows.topSilentRow.origin Rows.topSilentRow.targs := of_decide_eq_true (by kernel_rfl)
theorem topSilent_wrapper : Tryz.f12.isWrapper Tryz.prog Rows.topSilentRow.wrapper Rows.topSilentRow.mainSum := by unfold Func.isWrapper; rw [if_neg (of_decide_eq_false (by kernel_rfl))]; exact ⟨rfl, rfl⟩

theorem topSilent_holds : Rows.TopSilentSaid :=
  OpenClaim.holds_of_wide 12 Tryz.f12 rfl rfl rfl rfl rfl rfl rfl ⟨rfl, rfl, rfl, rfl, rfl⟩ rfl rfl rfl rfl rfl topSilent_named Tryz.func12 topSilent_facts topSilent_instance topSilent_wrapper
    (fun os started H enc _ => topSilent_lifted os started H enc)
#print axioms topSilent_holds
end Go.Proofs.YtmidechdlbcepaaGreat