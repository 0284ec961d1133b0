/- FlowPatches: the law returns true at every input of bulk at most 1048576, and its arguments read as before. Conditions: the bulk of the arguments. -/
import Derived.Test.YtdbbmjdeeenlhaaPack30
import Derived.Test.YtdbbmjdeeenlhaaPack04
import Derived.Test.YtdbbmjdeeenlhaaPack09
import Derived.Deep.CondSized
set_option linter.unusedSimpArgs false
set_option linter.unusedVariables false
namespace Go.Proofs.Ytdbbmjdeeenlhaa
open Go.ChangeShapes Go.WideShapes Go.ChangeAt Go.RowKit
set_option maxRecDepth 100000
theorem flowPatches_readable : ∀ t ∈ Try.f10.params.toList, Try.prog.readableRec t = true ∧ t < Try.prog.types.size := of_decide_eq_true (by kernel_rfl)
theorem flowPatches_contract (H : Type) (enc : TypeId × Value → H) (W : World) (base : Nat) (args : Array Value) (ds gs : List (DataW H)) (before : List MemPlace)
    (hval : ∀ (j : Nat) t v, Try.f10.params[j]? = some t → args[j]? = some v → Value.okWide Try.prog W .any base t v)
    (hW : DataW.Whole enc Try.prog Try.f10.params.toList Rows.flowPatchesSpec.vars false W args.toList ds gs before)
    (hk : Rows.uptoSmall H (ds ++ gs) = true)
    (hsz : (DataW.weightsEach Try.prog (Try.f10.params.toList ++ Rows.flowPatchesSpec.plain.varTypes Try.prog) (ds ++ gs)).all (· ≤ reachBytes) = true) :
    Calls Try.prog 10 args W fun e W' => ∃ v, e = .returned v ∧ Rows.flowPatchesSpec.post enc Try.prog Try.f10 false true false false W args v W' := by
  have hW' := hW
  obtain ⟨p, q, hA, hV, rfl, hfz, hnd⟩ := hW
  rw [Try.params10] at hA hval
  obtain ⟨v0, vs0, d0, ds0, p0, q0, hargs0, rfl, rfl, h0, r0⟩ := trodAll_cons hA
  obtain ⟨v1, vs1, d1, ds1, p1, q1, hargs1, rfl, rfl, h1, r1⟩ := trodAll_cons r0
  obtain ⟨v2, vs2, d2, ds2, p2, q2, hargs2, rfl, rfl, h2, r2⟩ := trodAll_cons r1
  obtain ⟨hnil, rfl, rfl⟩ := trodAll_nil r2
  subst hnil
  subst hargs1
  subst hargs2
  obtain rfl : args = #[v0, v1, v2] := by cases args; simp_all
  obtain ⟨rfl, rfl⟩ := trodVars_none hV
  exact (flowPatches_open W base (hval 0 _ _ rfl rfl) h0 (fun n hn => by have := List.all_eq_true.1 hsz n (weightsEach_mem (i := 0) (t := 37) rfl rfl n hn); simpa using this) (hval 1 _ _ rfl rfl) h1 (fun n hn => by have := List.all_eq_true.1 hsz n (weightsEach_mem (i := 1) (t := 37) rfl rfl n hn); simpa using this) (hval 2 _ _ rfl rfl) h2 (fun n hn => by have := List.all_eq_true.1 hsz n (weightsEach_mem (i := 2) (t := 37) rfl rfl n hn); simpa using this) hk).mono fun e W' ⟨he, hb⟩ => ⟨_, he, law_post laidOut Try.underlying4 rfl rfl flowPatches_readable hW' rfl hb⟩

theorem flowPatches_lifted (os : Os) (started : os.Started) (H : Type) (enc : TypeId × Value → H) (F : Stop.Interp) :
    ReturnsInHanded {} Try.checked os 10 .any ((Rows.OpenSpec.upto Rows.flowPatchesSpec).pre6 enc Try.prog Try.f10 Rows.flowPatchesUptoRow.domain false) (((Rows.OpenSpec.upto Rows.flowPatchesSpec).at F).post enc Try.prog Try.f10 false true false false) := by
  refine returnsInHanded_of_cond_sized (C := Try.checked) (s := Rows.OpenSpec.upto Rows.flowPatchesSpec) (k := Rows.uptoSmall) rfl own started (by kernel_rfl) Try.func10
    (OpenSpec.witness (enc := enc) (C := Try.checked) (s := Rows.OpenSpec.upto Rows.flowPatchesSpec) (k := Rows.uptoSmall) rfl false ⟨#[], #[.slice none 0 0, .slice none 0 0, .slice none 0 0], []⟩ 8 (by kernel_rfl) (by kernel_rfl) (by kernel_rfl)
      (x := ([.nil, .nil, .nil], [], [])) (by kernel_rfl) rfl (by kernel_rfl)) ?_
  intro W base args ds gs before hval hW _ hk hsz' _
  exact flowPatches_contract H enc W base args ds gs before hval hW hk hsz'

theorem flowPatches_k1 : (Rows.flowPatchesUptoRow.wf (OpenSpec.ofChange Rows.flowPatchesSpec)) = true := by kernel_rfl
theorem flowPatches_k10 : (Rows.flowPatchesUptoRow.inPlace == Try.prog.inPlace 10) = true := by kernel_rfl
theorem flowPatches_k11 : (Rows.flowPatchesUptoRow.unfollowed == Try.prog.unfollowed 10) = true := by kernel_rfl
theorem flowPatches_k12 : (Rows.flowPatchesUptoRow.recurses == Try.prog.recurses 10) = true := by kernel_rfl
theorem flowPatches_k13 : (Rows.flowPatchesUptoRow.named == Try.prog.varsNamed 10) = true := by kernel_rfl
theorem flowPatches_k14 : (Rows.flowPatchesUptoRow.maps == (Try.f10.params.toList ++ Rows.flowPatchesSpec.plain.varTypes Try.prog).any (Try.prog.mapsRec ·)) = true := by kernel_rfl
theorem flowPatches_k15 : (Rows.flowPatchesUptoRow.ifaces == (Try.f10.params.toList ++ Rows.flowPatchesSpec.plain.varTypes Try.prog).any (Try.prog.ifacesRec ·)) = true := by kernel_rfl
theorem flowPatches_k17 : (Rows.flowPatchesUptoRow.loops == (Try.f10.params.toList ++ Rows.flowPatchesSpec.plain.varTypes Try.prog).any (Try.prog.loopsFrom ·)) = true := by kernel_rfl
theorem flowPatches_k17b : (Rows.flowPatchesUptoRow.wideKeys == (Try.f10.params.toList ++ Rows.flowPatchesSpec.plain.varTypes Try.prog ++ Try.f10.resultTypes.toList).any (Try.prog.wideKeysFrom ·)) = true := by kernel_rfl
theorem flowPatches_k24 : (Rows.flowPatchesUptoRow.veiled == (Try.f10.params.toList ++ Rows.flowPatchesSpec.plain.varTypes Try.prog ++ Try.f10.resultTypes.toList).any (Try.prog.veiledRec ·)) = true := by kernel_rfl
theorem flowPatches_k25 : (Rows.flowPatchesUptoRow.veiledFits Try.prog Try.f10.params.toList (Try.f10.params.toList ++ Rows.flowPatchesSpec.plain.varTypes Try.prog ++ Try.f10.resultTypes.toList)) = true := by kernel_rfl
theorem flowPatches_named : Try.checked.prog.funcNamed Rows.flowPatchesUptoRow.func = some 10 := by kernel_rfl
theorem flowPatches_facts : joinedFacts Try.prog 10 Try.f10 Rows.flowPatchesSpec Rows.flowPatchesUptoRow = true :=
  facts_mk flowPatches_k1 laidOut mapsRowed_ (by kernel_rfl) (by kernel_rfl) (by kernel_rfl) stops_ (by kernel_rfl) stopKnobs_ flowPatches_k10 flowPatches_k11 flowPatches_k12 flowPatches_k13 flowPatches_k14 flowPatches_k15 (by kernel_rfl) flowPatches_k17 flowPatches_k17b
    (by kernel_rfl) (by kernel_rfl) (by kernel_rfl) (by kernel_rfl) plainKeys_ (by kernel_rfl) stopsHeard_ mayEnter_ liftsFinal_ make_ (by kernel_rfl) (by kernel_rfl) flowPatches_k24 flowPatches_k25
theorem flowPatches_instance : Try.f10.isInstance Try.prog Rows.flowPatchesUptoRow.origin Rows.flowPatchesUptoRow.targs := of_decide_eq_true (by kernel_rfl)
theorem flowPatches_wrapper : Try.f10.isWrapper Try.prog Rows.flowPatchesUptoRow.wrapper Rows.flowPatchesUptoRow.mainSum := by unfold Func.isWrapper; rw [if_neg (of_decide_eq_false (by kernel_rfl))]; exact ⟨rfl, rfl⟩

theorem flowPatches_holds : Rows.FlowPatchesUptoSaid :=
  OpenClaim.holds_of_cond 10 Try.f10 rfl rfl rfl rfl rfl rfl rfl ⟨rfl, rfl, rfl, rfl, rfl⟩ rfl rfl rfl rfl rfl flowPatches_named Try.func10 flowPatches_facts flowPatches_instance flowPatches_wrapper
    (fun os started H enc _ F => flowPatches_lifted os started H enc F)
#print axioms flowPatches_holds
end Go.Proofs.Ytdbbmjdeeenlhaa
