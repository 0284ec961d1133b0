/- FlowSorts: the law returns true at every input of bulk at most 1048576, and its arguments read as before. Conditions: the bulk of the arguments. -/
import Derived.Test.YtdbbmjdeeenlhaaPack31
import Derived.Test.YtdbbmjdeeenlhaaPack04
import Derived.Test.YtdbbmjdeeenlhaaPack09
import Derived.Deep.CondSized
set_option linter.unusedSimpArgs false
set_option linter.unusedVariables false
namespace Go.Proofs.Ytdbbmjdeeenlhaa
open Go.ChangeShapes Go.WideShapes Go.ChangeAt Go.RowKit
set_option maxRecDepth 100000
theorem flowSorts_readable : ∀ t ∈ Try.f8.params.toList, Try.prog.readableRec t = true ∧ t < Try.prog.types.size := of_decide_eq_true (by kernel_rfl)
theorem flowSorts_contract (H : Type) (enc : TypeId × Value → H) (W : World) (base : Nat) (args : Array Value) (ds gs : List (DataW H)) (before : List MemPlace)
    (hval : ∀ (j : Nat) t v, Try.f8.params[j]? = some t → args[j]? = some v → Value.okWide Try.prog W .any base t v)
    (hW : DataW.Whole enc Try.prog Try.f8.params.toList Rows.flowSortsSpec.vars false W args.toList ds gs before)
    (hk : Rows.uptoSmall H (ds ++ gs) = true)
    (hsz : (DataW.weightsEach Try.prog (Try.f8.params.toList ++ Rows.flowSortsSpec.plain.varTypes Try.prog) (ds ++ gs)).all (· ≤ reachBytes) = true) :
    Calls Try.prog 8 args W fun e W' => ∃ v, e = .returned v ∧ Rows.flowSortsSpec.post enc Try.prog Try.f8 false true false false W args v W' := by
  have hW' := hW
  obtain ⟨p, q, hA, hV, rfl, hfz, hnd⟩ := hW
  rw [Try.params8] at hA hval
  obtain ⟨v0, vs0, d0, ds0, p0, q0, hargs0, rfl, rfl, h0, r0⟩ := trodAll_cons hA
  obtain ⟨hnil, rfl, rfl⟩ := trodAll_nil r0
  subst hnil
  obtain rfl : args = #[v0] := by cases args; simp_all
  obtain ⟨rfl, rfl⟩ := trodVars_none hV
  exact (flowSorts_open W base (hval 0 _ _ rfl rfl) h0 (fun n hn => by have := List.all_eq_true.1 hsz n (weightsEach_mem (i := 0) (t := 37) rfl rfl n hn); simpa using this) hk).mono fun e W' ⟨he, hb⟩ => ⟨_, he, law_post laidOut Try.underlying4 rfl rfl flowSorts_readable hW' rfl hb⟩

theorem flowSorts_lifted (os : Os) (started : os.Started) (H : Type) (enc : TypeId × Value → H) (F : Stop.Interp) :
    ReturnsInHanded {} Try.checked os 8 .any ((Rows.OpenSpec.upto Rows.flowSortsSpec).pre6 enc Try.prog Try.f8 Rows.flowSortsUptoRow.domain false) (((Rows.OpenSpec.upto Rows.flowSortsSpec).at F).post enc Try.prog Try.f8 false true false false) := by
  refine returnsInHanded_of_cond_sized (C := Try.checked) (s := Rows.OpenSpec.upto Rows.flowSortsSpec) (k := Rows.uptoSmall) rfl own started (by kernel_rfl) Try.func8
    (OpenSpec.witness (enc := enc) (C := Try.checked) (s := Rows.OpenSpec.upto Rows.flowSortsSpec) (k := Rows.uptoSmall) rfl false ⟨#[], #[.slice none 0 0], []⟩ 8 (by kernel_rfl) (by kernel_rfl) (by kernel_rfl)
      (x := ([.nil], [], [])) (by kernel_rfl) rfl (by kernel_rfl)) ?_
  intro W base args ds gs before hval hW _ hk hsz' _
  exact flowSorts_contract H enc W base args ds gs before hval hW hk hsz'

theorem flowSorts_k1 : (Rows.flowSortsUptoRow.wf (OpenSpec.ofChange Rows.flowSortsSpec)) = true := by kernel_rfl
theorem flowSorts_k10 : (Rows.flowSortsUptoRow.inPlace == Try.prog.inPlace 8) = true := by kernel_rfl
theorem flowSorts_k11 : (Rows.flowSortsUptoRow.unfollowed == Try.prog.unfollowed 8) = true := by kernel_rfl
theorem flowSorts_k12 : (Rows.flowSortsUptoRow.recurses == Try.prog.recurses 8) = true := by kernel_rfl
theorem flowSorts_k13 : (Rows.flowSortsUptoRow.named == Try.prog.varsNamed 8) = true := by kernel_rfl
theorem flowSorts_k14 : (Rows.flowSortsUptoRow.maps == (Try.f8.params.toList ++ Rows.flowSortsSpec.plain.varTypes Try.prog).any (Try.prog.mapsRec ·)) = true := by kernel_rfl
theorem flowSorts_k15 : (Rows.flowSortsUptoRow.ifaces == (Try.f8.params.toList ++ Rows.flowSortsSpec.plain.varTypes Try.prog).any (Try.prog.ifacesRec ·)) = true := by kernel_rfl
theorem flowSorts_k17 : (Rows.flowSortsUptoRow.loops == (Try.f8.params.toList ++ Rows.flowSortsSpec.plain.varTypes Try.prog).any (Try.prog.loopsFrom ·)) = true := by kernel_rfl
theorem flowSorts_k17b : (Rows.flowSortsUptoRow.wideKeys == (Try.f8.params.toList ++ Rows.flowSortsSpec.plain.varTypes Try.prog ++ Try.f8.resultTypes.toList).any (Try.prog.wideKeysFrom ·)) = true := by kernel_rfl
theorem flowSorts_k24 : (Rows.flowSortsUptoRow.veiled == (Try.f8.params.toList ++ Rows.flowSortsSpec.plain.varTypes Try.prog ++ Try.f8.resultTypes.toList).any (Try.prog.veiledRec ·)) = true := by kernel_rfl
theorem flowSorts_k25 : (Rows.flowSortsUptoRow.veiledFits Try.prog Try.f8.params.toList (Try.f8.params.toList ++ Rows.flowSortsSpec.plain.varTypes Try.prog ++ Try.f8.resultTypes.toList)) = true := by kernel_rfl
theorem flowSorts_named : Try.checked.prog.funcNamed Rows.flowSortsUptoRow.func = some 8 := by kernel_rfl
theorem flowSorts_facts : joinedFacts Try.prog 8 Try.f8 Rows.flowSortsSpec Rows.flowSortsUptoRow = true :=
  facts_mk flowSorts_k1 laidOut mapsRowed_ (by kernel_rfl) (by kernel_rfl) (by kernel_rfl) stops_ (by kernel_rfl) stopKnobs_ flowSorts_k10 flowSorts_k11 flowSorts_k12 flowSorts_k13 flowSorts_k14 flowSorts_k15 (by kernel_rfl) flowSorts_k17 flowSorts_k17b
    (by kernel_rfl) (by kernel_rfl) (by kernel_rfl) (by kernel_rfl) plainKeys_ (by kernel_rfl) stopsHeard_ mayEnter_ liftsFinal_ make_ (by kernel_rfl) (by kernel_rfl) flowSorts_k24 flowSorts_k25
theorem flowSorts_instance : Try.f8.isInstance Try.prog Rows.flowSortsUptoRow.origin Rows.flowSortsUptoRow.targs := of_decide_eq_true (by kernel_rfl)
theorem flowSorts_wrapper : Try.f8.isWrapper Try.prog Rows.flowSortsUptoRow.wrapper Rows.flowSortsUptoRow.mainSum := by unfold Func.isWrapper; rw [if_neg (of_decide_eq_false (by kernel_rfl))]; exact ⟨rfl, rfl⟩

theorem flowSorts_holds : Rows.FlowSortsUptoSaid :=
  OpenClaim.holds_of_cond 8 Try.f8 rfl rfl rfl rfl rfl rfl rfl ⟨rfl, rfl, rfl, rfl, rfl⟩ rfl rfl rfl rfl rfl flowSorts_named Try.func8 flowSorts_facts flowSorts_instance flowSorts_wrapper
    (fun os started H enc _ F => flowSorts_lifted os started H enc F)
#print axioms flowSorts_holds
end Go.Proofs.Ytdbbmjdeeenlhaa
