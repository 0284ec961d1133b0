/- FlowDiffs: the law returns true at every input of bulk at most 1048576, and its arguments read as before. Conditions: the bulk of the arguments. -/
import Derived.Test.YtdbbmjdeeenlhaaPack30
import Derived.Test.YtdbbmjdeeenlhaaPack04
import Derived.Test.YtdbbmjdeeenlhaaPack09
import Derived.Deep.CondSized
set_option linter.unusedSimpArgs false
set_option linter.unusedVariables false
namespace Go.Proofs.Ytdbbmjdeeenlhaa
open Go.ChangeShapes Go.WideShapes Go.ChangeAt Go.RowKit
set_option maxRecDepth 100000
theorem flowDiffs_readable : ∀ t ∈ Try.f9.params.toList, Try.prog.readableRec t = true ∧ t < Try.prog.types.size := of_decide_eq_true (by kernel_rfl)
theorem flowDiffs_contract (H : Type) (enc : TypeId × Value → H) (W : World) (base : Nat) (args : Array Value) (ds gs : List (DataW H)) (before : List MemPlace)
    (hval : ∀ (j : Nat) t v, Try.f9.params[j]? = some t → args[j]? = some v → Value.okWide Try.prog W .any base t v)
    (hW : DataW.Whole enc Try.prog Try.f9.params.toList Rows.flowDiffsSpec.vars false W args.toList ds gs before)
    (hk : Rows.uptoSmall H (ds ++ gs) = true)
    (hsz : (DataW.weightsEach Try.prog (Try.f9.params.toList ++ Rows.flowDiffsSpec.plain.varTypes Try.prog) (ds ++ gs)).all (· ≤ reachBytes) = true) :
    Calls Try.prog 9 args W fun e W' => ∃ v, e = .returned v ∧ Rows.flowDiffsSpec.post enc Try.prog Try.f9 false true false false W args v W' := by
  have hW' := hW
  obtain ⟨p, q, hA, hV, rfl, hfz, hnd⟩ := hW
  rw [Try.params9] at hA hval
  obtain ⟨v0, vs0, d0, ds0, p0, q0, hargs0, rfl, rfl, h0, r0⟩ := trodAll_cons hA
  obtain ⟨v1, vs1, d1, ds1, p1, q1, hargs1, rfl, rfl, h1, r1⟩ := trodAll_cons r0
  obtain ⟨hnil, rfl, rfl⟩ := trodAll_nil r1
  subst hnil
  subst hargs1
  obtain rfl : args = #[v0, v1] := by cases args; simp_all
  obtain ⟨rfl, rfl⟩ := trodVars_none hV
  exact (flowDiffs_open W base (hval 0 _ _ rfl rfl) h0 (fun n hn => by have := List.all_eq_true.1 hsz n (weightsEach_mem (i := 0) (t := 37) rfl rfl n hn); simpa using this) (hval 1 _ _ rfl rfl) h1 (fun n hn => by have := List.all_eq_true.1 hsz n (weightsEach_mem (i := 1) (t := 37) rfl rfl n hn); simpa using this) hk).mono fun e W' ⟨he, hb⟩ => ⟨_, he, law_post laidOut Try.underlying4 rfl rfl flowDiffs_readable hW' rfl hb⟩

theorem flowDiffs_lifted (os : Os) (started : os.Started) (H : Type) (enc : TypeId × Value → H) (F : Stop.Interp) :
    ReturnsInHanded {} Try.checked os 9 .any ((Rows.OpenSpec.upto Rows.flowDiffsSpec).pre6 enc Try.prog Try.f9 Rows.flowDiffsUptoRow.domain false) (((Rows.OpenSpec.upto Rows.flowDiffsSpec).at F).post enc Try.prog Try.f9 false true false false) := by
  refine returnsInHanded_of_cond_sized (C := Try.checked) (s := Rows.OpenSpec.upto Rows.flowDiffsSpec) (k := Rows.uptoSmall) rfl own started (by kernel_rfl) Try.func9
    (OpenSpec.witness (enc := enc) (C := Try.checked) (s := Rows.OpenSpec.upto Rows.flowDiffsSpec) (k := Rows.uptoSmall) rfl false ⟨#[], #[.slice none 0 0, .slice none 0 0], []⟩ 8 (by kernel_rfl) (by kernel_rfl) (by kernel_rfl)
      (x := ([.nil, .nil], [], [])) (by kernel_rfl) rfl (by kernel_rfl)) ?_
  intro W base args ds gs before hval hW _ hk hsz' _
  exact flowDiffs_contract H enc W base args ds gs before hval hW hk hsz'

theorem flowDiffs_k1 : (Rows.flowDiffsUptoRow.wf (OpenSpec.ofChange Rows.flowDiffsSpec)) = true := by kernel_rfl
theorem flowDiffs_k10 : (Rows.flowDiffsUptoRow.inPlace == Try.prog.inPlace 9) = true := by kernel_rfl
theorem flowDiffs_k11 : (Rows.flowDiffsUptoRow.unfollowed == Try.prog.unfollowed 9) = true := by kernel_rfl
theorem flowDiffs_k12 : (Rows.flowDiffsUptoRow.recurses == Try.prog.recurses 9) = true := by kernel_rfl
theorem flowDiffs_k13 : (Rows.flowDiffsUptoRow.named == Try.prog.varsNamed 9) = true := by kernel_rfl
theorem flowDiffs_k14 : (Rows.flowDiffsUptoRow.maps == (Try.f9.params.toList ++ Rows.flowDiffsSpec.plain.varTypes Try.prog).any (Try.prog.mapsRec ·)) = true := by kernel_rfl
theorem flowDiffs_k15 : (Rows.flowDiffsUptoRow.ifaces == (Try.f9.params.toList ++ Rows.flowDiffsSpec.plain.varTypes Try.prog).any (Try.prog.ifacesRec ·)) = true := by kernel_rfl
theorem flowDiffs_k17 : (Rows.flowDiffsUptoRow.loops == (Try.f9.params.toList ++ Rows.flowDiffsSpec.plain.varTypes Try.prog).any (Try.prog.loopsFrom ·)) = true := by kernel_rfl
theorem flowDiffs_k17b : (Rows.flowDiffsUptoRow.wideKeys == (Try.f9.params.toList ++ Rows.flowDiffsSpec.plain.varTypes Try.prog ++ Try.f9.resultTypes.toList).any (Try.prog.wideKeysFrom ·)) = true := by kernel_rfl
theorem flowDiffs_k24 : (Rows.flowDiffsUptoRow.veiled == (Try.f9.params.toList ++ Rows.flowDiffsSpec.plain.varTypes Try.prog ++ Try.f9.resultTypes.toList).any (Try.prog.veiledRec ·)) = true := by kernel_rfl
theorem flowDiffs_k25 : (Rows.flowDiffsUptoRow.veiledFits Try.prog Try.f9.params.toList (Try.f9.params.toList ++ Rows.flowDiffsSpec.plain.varTypes Try.prog ++ Try.f9.resultTypes.toList)) = true := by kernel_rfl
theorem flowDiffs_named : Try.checked.prog.funcNamed Rows.flowDiffsUptoRow.func = some 9 := by kernel_rfl
theorem flowDiffs_facts : joinedFacts Try.prog 9 Try.f9 Rows.flowDiffsSpec Rows.flowDiffsUptoRow = true :=
  facts_mk flowDiffs_k1 laidOut mapsRowed_ (by kernel_rfl) (by kernel_rfl) (by kernel_rfl) stops_ (by kernel_rfl) stopKnobs_ flowDiffs_k10 flowDiffs_k11 flowDiffs_k12 flowDiffs_k13 flowDiffs_k14 flowDiffs_k15 (by kernel_rfl) flowDiffs_k17 flowDiffs_k17b
    (by kernel_rfl) (by kernel_rfl) (by kernel_rfl) (by kernel_rfl) plainKeys_ (by kernel_rfl) stopsHeard_ mayEnter_ liftsFinal_ make_ (by kernel_rfl) (by kernel_rfl) flowDiffs_k24 flowDiffs_k25
theorem flowDiffs_instance : Try.f9.isInstance Try.prog Rows.flowDiffsUptoRow.origin Rows.flowDiffsUptoRow.targs := of_decide_eq_true (by kernel_rfl)
theorem flowDiffs_wrapper : Try.f9.isWrapper Try.prog Rows.flowDiffsUptoRow.wrapper Rows.flowDiffsUptoRow.mainSum := by unfold Func.isWrapper; rw [if_neg (of_decide_eq_false (by kernel_rfl))]; exact ⟨rfl, rfl⟩

theorem flowDiffs_holds : Rows.FlowDiffsUptoSaid :=
  OpenClaim.holds_of_cond 9 Try.f9 rfl rfl rfl rfl rfl rfl rfl ⟨rfl, rfl, rfl, rfl, rfl⟩ rfl rfl rfl rfl rfl flowDiffs_named Try.func9 flowDiffs_facts flowDiffs_instance flowDiffs_wrapper
    (fun os started H enc _ F => flowDiffs_lifted os started H enc F)
#print axioms flowDiffs_holds
end Go.Proofs.Ytdbbmjdeeenlhaa
