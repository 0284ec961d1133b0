/- TopTenants: the law returns true at every input, and its arguments read as before. Conditions: none. -/
import Derived.Test.YtmidechdlbcepaaGreatPack48
import Derived.Test.YtmidechdlbcepaaGreatPack03
import Derived.Test.YtmidechdlbcepaaGreatPack08
set_option linter.unusedSimpArgs false
set_option linter.unusedVariables false
namespace Go.Proofs.YtmidechdlbcepaaGreat
open Go.ChangeShapes Go.WideShapes Go.ChangeAt Go.RowKit
set_option maxRecDepth 100000
theorem topTenants_readable : ∀ t ∈ Tryz.f9.params.toList, Tryz.prog.readableRec t = true ∧ t < Tryz.prog.types.size := of_decide_eq_true (by kernel_rfl)
theorem topTenants_contract (H : Type) (enc : TypeId × Value → H) (W : World) (base : Nat) (args : Array Value) (ds gs : List (DataW H)) (before : List MemPlace)
    (hval : ∀ (j : Nat) t v, Tryz.f9.params[j]? = some t → args[j]? = some v → Value.okWide Tryz.prog W .any base t v)
    (hW : DataW.Whole enc Tryz.prog Tryz.f9.params.toList Rows.topTenantsSpec.vars false W args.toList ds gs before)
    (hsz : (DataW.weightsEach Tryz.prog (Tryz.f9.params.toList ++ Rows.topTenantsSpec.plain.varTypes Tryz.prog) (ds ++ gs)).all (· ≤ reachBytes) = true) :
    Calls Tryz.prog 9 args W fun e W' => ∃ v, e = .returned v ∧ Rows.topTenantsSpec.post enc Tryz.prog Tryz.f9 false true false false W args v W' := by
  have hW' := hW
  obtain ⟨p, q, hA, hV, rfl, hfz, hnd⟩ := hW
  rw [Tryz.params9] at hA hval
  obtain ⟨v0, vs0, d0, ds0, p0, q0, hargs0, rfl, rfl, h0, r0⟩ := trodAll_cons hA
  obtain ⟨v1, vs1, d1, ds1, p1, q1, hargs1, rfl, rfl, h1, r1⟩ := trodAll_cons r0
  obtain ⟨hnil, rfl, rfl⟩ := trodAll_nil r1
  subst hnil
  subst hargs1
  obtain rfl : args = #[v0, v1] := by cases args; simp_all
  obtain ⟨rfl, rfl⟩ := trodVars_none hV
  exact (topTenants_open W base (hval 0 _ _ rfl rfl) h0 (fun n hn => by have := List.all_eq_true.1 hsz n (weightsEach_mem (i := 0) (t := 57) rfl rfl n hn); simpa using this) (hval 1 _ _ rfl rfl) h1 (fun n hn => by have := List.all_eq_true.1 hsz n (weightsEach_mem (i := 1) (t := 59) rfl rfl n hn); simpa using this)).mono fun e W' ⟨he, hb⟩ => ⟨_, he, law_post laidOut Tryz.underlying4 rfl rfl topTenants_readable hW' rfl hb⟩

theorem topTenants_lifted (os : Os) (started : os.Started) (H : Type) (enc : TypeId × Value → H) :
    ReturnsInHanded {} Tryz.checked os 9 .any (Rows.topTenantsSpec.pre6 enc Tryz.prog Tryz.f9 Rows.topTenantsRow.domain false) (Rows.topTenantsSpec.post enc Tryz.prog Tryz.f9 false true false false) := by
  refine returnsInHanded_of_change_sized (C := Tryz.checked) own started (by kernel_rfl) Tryz.func9
    (ChangeSpec.witness6 (enc := enc) (C := Tryz.checked) false ⟨#[], #[.slice none 0 0, .agg #[.int .i64 0, .int .i64 0, .int .i64 0, .int .i64 0]], []⟩ 8 (by kernel_rfl) (by kernel_rfl) (by kernel_rfl) (by kernel_rfl)) ?_
  intro W base args ds gs before hval hW _ hsz _
  exact topTenants_contract H enc W base args ds gs before hval hW hsz

theorem topTenants_k1 : (Rows.topTenantsRow.wf (OpenSpec.ofChange Rows.topTenantsSpec)) = true := by kernel_rfl
theorem topTenants_k10 : (Rows.topTenantsRow.inPlace == Tryz.prog.inPlace 9) = true := by kernel_rfl
theorem topTenants_k11 : (Rows.topTenantsRow.unfollowed == Tryz.prog.unfollowed 9) = true := by kernel_rfl
theorem topTenants_k12 : (Rows.topTenantsRow.recurses == Tryz.prog.recurses 9) = true := by kernel_rfl
theorem topTenants_k13 : (Rows.topTenantsRow.named == Tryz.prog.varsNamed 9) = true := by kernel_rfl
theorem topTenants_k14 : (Rows.topTenantsRow.maps == (Tryz.f9.params.toList ++ Rows.topTenantsSpec.plain.varTypes Tryz.prog).any (Tryz.prog.mapsRec ·)) = true := by kernel_rfl
theorem topTenants_k15 : (Rows.topTenantsRow.ifaces == (Tryz.f9.params.toList ++ Rows.topTenantsSpec.plain.varTypes Tryz.prog).any (Tryz.prog.ifacesRec ·)) = true := by kernel_rfl
theorem topTenants_k17 : (Rows.topTenantsRow.loops == (Tryz.f9.params.toList ++ Rows.topTenantsSpec.plain.varTypes Tryz.prog).any (Tryz.prog.loopsFrom ·)) = true := by kernel_rfl
theorem topTenants_k17b : (Rows.topTenantsRow.wideKeys == (Tryz.f9.params.toList ++ Rows.topTenantsSpec.plain.varTypes Tryz.prog ++ Tryz.f9.resultTypes.toList).any (Tryz.prog.wideKeysFrom ·)) = true := by kernel_rfl
theorem topTenants_k24 : (Rows.topTenantsRow.veiled == (Tryz.f9.params.toList ++ Rows.topTenantsSpec.plain.varTypes Tryz.prog ++ Tryz.f9.resultTypes.toList).any (Tryz.prog.veiledRec ·)) = true := by kernel_rfl
theorem topTenants_k25 : (Rows.topTenantsRow.veiledFits Tryz.prog Tryz.f9.params.toList (Tryz.f9.params.toList ++ Rows.topTenantsSpec.plain.varTypes Tryz.prog ++ Tryz.f9.resultTypes.toList)) = true := by kernel_rfl
theorem topTenants_named : Tryz.checked.prog.funcNamed Rows.topTenantsRow.func = some 9 := by kernel_rfl
theorem topTenants_facts : joinedFacts Tryz.prog 9 Tryz.f9 Rows.topTenantsSpec Rows.topTenantsRow = true :=
  facts_mk topTenants_k1 laidOut mapsRowed_ (by kernel_rfl) (by kernel_rfl) (by kernel_rfl) stops_ (by kernel_rfl) stopKnobs_ topTenants_k10 topTenants_k11 topTenants_k12 topTenants_k13 topTenants_k14 topTenants_k15 (by kernel_rfl) topTenants_k17 topTenants_k17b
    (by kernel_rfl) (by kernel_rfl) (by kernel_rfl) (by kernel_rfl) plainKeys_ (by kernel_rfl) stopsHeard_ mayEnter_ liftsFinal_ make_ (by kernel_rfl) (by kernel_rfl) topTenants_k24 topTenants_k25
theorem topTenants_instance : Tryz.f9.isInstance Tryz.prog Rows.topTenantsRow.origin Rows.topTenantsRow.targs := of_decide_eq_true (by kernel_rfl)
theorem topTenants_wrapper : Tryz.f9.isWrapper Tryz.prog Rows.topTenantsRow.wrapper Rows.topTenantsRow.mainSum := by unfold Func.isWrapper; rw [if_neg (of_decide_eq_false (by kernel_rfl))]; exact ⟨rfl, rfl⟩

theorem topTenants_holds : Rows.TopTenantsSaid :=
  OpenClaim.holds_of_wide 9 Tryz.f9 rfl rfl rfl rfl rfl rfl rfl ⟨rfl, rfl, rfl, rfl, rfl⟩ rfl rfl rfl rfl rfl topTenants_named Tryz.func9 topTenants_facts topTenants_instance topTenants_wrapper
    (fun os started H enc _ => topTenants_lifted os started H enc)
#print axioms topTenants_holds
end Go.Proofs.YtmidechdlbcepaaGreat