/- TopBad: the law returns true at every input, and its arguments read as before. Conditions: none. -/
import Derived.Test.YtmidechdlbcepaaGreatPack50
import Derived.Test.YtmidechdlbcepaaGreatPack03
import Derived.Test.YtmidechdlbcepaaGreatPack08
set_option linter.unusedSimpArgs false
set_option linter.unusedVariables false
namespace Go.Proofs.YtmidechdlbcepaaGreat
open Go.ChangeShapes Go.WideShapes Go.ChangeAt Go.RowKit
set_option maxRecDepth 100000
theorem topBad_readable : ∀ t ∈ Tryz.f14.params.toList, Tryz.prog.readableRec t = true ∧ t < Tryz.prog.types.size := of_decide_eq_true (by kernel_rfl)
theorem topBad_contract (H : Type) (enc : TypeId × Value → H) (W : World) (base : Nat) (args : Array Value) (ds gs : List (DataW H)) (before : List MemPlace)
    (hval : ∀ (j : Nat) t v, Tryz.f14.params[j]? = some t → args[j]? = some v → Value.okWide Tryz.prog W .any base t v)
    (hW : DataW.Whole enc Tryz.prog Tryz.f14.params.toList Rows.topBadSpec.vars false W args.toList ds gs before)
    (hsz : (DataW.weightsEach Tryz.prog (Tryz.f14.params.toList ++ Rows.topBadSpec.plain.varTypes Tryz.prog) (ds ++ gs)).all (· ≤ reachBytes) = true) :
    Calls Tryz.prog 14 args W fun e W' => ∃ v, e = .returned v ∧ Rows.topBadSpec.post enc Tryz.prog Tryz.f14 false true false false W args v W' := by
  have hW' := hW
  obtain ⟨p, q, hA, hV, rfl, hfz, hnd⟩ := hW
  rw [Tryz.params14] at hA hval
  obtain ⟨v0, vs0, d0, ds0, p0, q0, hargs0, rfl, rfl, h0, r0⟩ := trodAll_cons hA
  obtain ⟨v1, vs1, d1, ds1, p1, q1, hargs1, rfl, rfl, h1, r1⟩ := trodAll_cons r0
  obtain ⟨hnil, rfl, rfl⟩ := trodAll_nil r1
  subst hnil
  subst hargs1
  obtain rfl : args = #[v0, v1] := by cases args; simp_all
  obtain ⟨rfl, rfl⟩ := trodVars_none hV
  exact (topBad_open W base (hval 0 _ _ rfl rfl) h0 (fun n hn => by have := List.all_eq_true.1 hsz n (weightsEach_mem (i := 0) (t := 57) rfl rfl n hn); simpa using this) (hval 1 _ _ rfl rfl) h1 (fun n hn => by have := List.all_eq_true.1 hsz n (weightsEach_mem (i := 1) (t := 3) rfl rfl n hn); simpa using this)).mono fun e W' ⟨he, hb⟩ => ⟨_, he, law_post laidOut Tryz.underlying4 rfl rfl topBad_readable hW' rfl hb⟩

theorem topBad_lifted (os : Os) (started : os.Started) (H : Type) (enc : TypeId × Value → H) :
    ReturnsInHanded {} Tryz.checked os 14 .any (Rows.topBadSpec.pre6 enc Tryz.prog Tryz.f14 Rows.topBadRow.domain false) (Rows.topBadSpec.post enc Tryz.prog Tryz.f14 false true false false) := by
  refine returnsInHanded_of_change_sized (C := Tryz.checked) own started (by kernel_rfl) Tryz.func14
    (ChangeSpec.witness6 (enc := enc) (C := Tryz.checked) false ⟨#[], #[.slice none 0 0, .int .i64 0], []⟩ 8 (by kernel_rfl) (by kernel_rfl) (by kernel_rfl) (by kernel_rfl)) ?_
  intro W base args ds gs before hval hW _ hsz _
  exact topBad_contract H enc W base args ds gs before hval hW hsz

theorem topBad_k1 : (Rows.topBadRow.wf (OpenSpec.ofChange Rows.topBadSpec)) = true := by kernel_rfl
theorem topBad_k10 : (Rows.topBadRow.inPlace == Tryz.prog.inPlace 14) = true := by kernel_rfl
theorem topBad_k11 : (Rows.topBadRow.unfollowed == Tryz.prog.unfollowed 14) = true := by kernel_rfl
theorem topBad_k12 : (Rows.topBadRow.recurses == Tryz.prog.recurses 14) = true := by kernel_rfl
theorem topBad_k13 : (Rows.topBadRow.named == Tryz.prog.varsNamed 14) = true := by kernel_rfl
theorem topBad_k14 : (Rows.topBadRow.maps == (Tryz.f14.params.toList ++ Rows.topBadSpec.plain.varTypes Tryz.prog).any (Tryz.prog.mapsRec ·)) = true := by kernel_rfl
theorem topBad_k15 : (Rows.topBadRow.ifaces == (Tryz.f14.params.toList ++ Rows.topBadSpec.plain.varTypes Tryz.prog).any (Tryz.prog.ifacesRec ·)) = true := by kernel_rfl
theorem topBad_k17 : (Rows.topBadRow.loops == (Tryz.f14.params.toList ++ Rows.topBadSpec.plain.varTypes Tryz.prog).any (Tryz.prog.loopsFrom ·)) = true := by kernel_rfl
theorem topBad_k17b : (Rows.topBadRow.wideKeys == (Tryz.f14.params.toList ++ Rows.topBadSpec.plain.varTypes Tryz.prog ++ Tryz.f14.resultTypes.toList).any (Tryz.prog.wideKeysFrom ·)) = true := by kernel_rfl
theorem topBad_k24 : (Rows.topBadRow.veiled == (Tryz.f14.params.toList ++ Rows.topBadSpec.plain.varTypes Tryz.prog ++ Tryz.f14.resultTypes.toList).any (Tryz.prog.veiledRec ·)) = true := by kernel_rfl
theorem topBad_k25 : (Rows.topBadRow.veiledFits Tryz.prog Tryz.f14.params.toList (Tryz.f14.params.toList ++ Rows.topBadSpec.plain.varTypes Tryz.prog ++ Tryz.f14.resultTypes.toList)) = true := by kernel_rfl
theorem topBad_named : Tryz.checked.prog.funcNamed Rows.topBadRow.func = some 14 := by kernel_rfl
theorem topBad_facts : joinedFacts Tryz.prog 14 Tryz.f14 Rows.topBadSpec Rows.topBadRow = true :=
  facts_mk topBad_k1 laidOut mapsRowed_ (by kernel_rfl) (by kernel_rfl) (by kernel_rfl) stops_ (by kernel_rfl) stopKnobs_ topBad_k10 topBad_k11 topBad_k12 topBad_k13 topBad_k14 topBad_k15 (by kernel_rfl) topBad_k17 topBad_k17b
    (by kernel_rfl) (by kernel_rfl) (by kernel_rfl) (by kernel_rfl) plainKeys_ (by kernel_rfl) stopsHeard_ mayEnter_ liftsFinal_ make_ (by kernel_rfl) (by kernel_rfl) topBad_k24 topBad_k25
theorem topBad_instance : Tryz.f14.isInstance Tryz.prog Rows.topBadRow.origin Rows.topBadRow.targs := of_decide_eq_true (by kernel_rfl)
theorem topBad_wrapper : Tryz.f14.isWrapper Tryz.prog Rows.topBadRow.wrapper Rows.topBadRow.mainSum := by unfold Func.isWrapper; rw [if_neg (of_decide_eq_false (by kernel_rfl))]; exact ⟨rfl, rfl⟩

theorem topBad_holds : Rows.TopBadSaid :=
  OpenClaim.holds_of_wide 14 Tryz.f14 rfl rfl rfl rfl rfl rfl rfl ⟨rfl, rfl, rfl, rfl, rfl⟩ rfl rfl rfl rfl rfl topBad_named Tryz.func14 topBad_facts topBad_instance topBad_wrapper
    (fun os started H enc _ => topBad_lifted os started H enc)
#print axioms topBad_holds
end Go.Proofs.YtmidechdlbcepaaGreat