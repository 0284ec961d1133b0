/- PatchesLead: the law returns true at every input, and its arguments read as before. Conditions: none. -/
import Derived.Test.YtdbbmjdeeenlhaaPack31
import Derived.Test.YtdbbmjdeeenlhaaPack04
import Derived.Test.YtdbbmjdeeenlhaaPack09
set_option linter.unusedSimpArgs false
set_option linter.unusedVariables false
namespace Go.Proofs.Ytdbbmjdeeenlhaa
open Go.ChangeShapes Go.WideShapes Go.ChangeAt Go.RowKit
set_option maxRecDepth 100000
theorem patchesLead_readable : ∀ t ∈ Try.f12.params.toList, Try.prog.readableRec t = true ∧ t < Try.prog.types.size := of_decide_eq_true (by kernel_rfl)
theorem patchesLead_contract (H : Type) (enc : TypeId × Value → H) (W : World) (base : Nat) (args : Array Value) (ds gs : List (DataW H)) (before : List MemPlace)
    (hval : ∀ (j : Nat) t v, Try.f12.params[j]? = some t → args[j]? = some v → Value.okWide Try.prog W .any base t v)
    (hW : DataW.Whole enc Try.prog Try.f12.params.toList Rows.patchesLeadSpec.vars false W args.toList ds gs before)
    (hsz : (DataW.weightsEach Try.prog (Try.f12.params.toList ++ Rows.patchesLeadSpec.plain.varTypes Try.prog) (ds ++ gs)).all (· ≤ reachBytes) = true) :
    Calls Try.prog 12 args W fun e W' => ∃ v, e = .returned v ∧ Rows.patchesLeadSpec.post enc Try.prog Try.f12 false true false false W args v W' := by
  have hW' := hW
  obtain ⟨p, q, hA, hV, rfl, hfz, hnd⟩ := hW
  rw [Try.params12] at hA hval
  obtain ⟨v0, vs0, d0, ds0, p0, q0, hargs0, rfl, rfl, h0, r0⟩ := trodAll_cons hA
  obtain ⟨v1, vs1, d1, ds1, p1, q1, hargs1, rfl, rfl, h1, r1⟩ := trodAll_cons r0
  obtain ⟨hnil, rfl, rfl⟩ := trodAll_nil r1
  subst hnil
  subst hargs1
  obtain rfl : args = #[v0, v1] := by cases args; simp_all
  obtain ⟨rfl, rfl⟩ := trodVars_none hV
  exact (patchesLead_open W base (hval 0 _ _ rfl rfl) h0 (fun n hn => by have := List.all_eq_true.1 hsz n (weightsEach_mem (i := 0) (t := 40) rfl rfl n hn); simpa using this) (hval 1 _ _ rfl rfl) h1 (fun n hn => by have := List.all_eq_true.1 hsz n (weightsEach_mem (i := 1) (t := 40) rfl rfl n hn); simpa using this)).mono fun e W' ⟨he, hb⟩ => ⟨_, he, law_post laidOut Try.underlying4 rfl rfl patchesLead_readable hW' rfl hb⟩

theorem patchesLead_lifted (os : Os) (started : os.Started) (H : Type) (enc : TypeId × Value → H) :
    ReturnsInHanded {} Try.checked os 12 .any (Rows.patchesLeadSpec.pre6 enc Try.prog Try.f12 Rows.patchesLeadRow.domain false) (Rows.patchesLeadSpec.post enc Try.prog Try.f12 false true false false) := by
  refine returnsInHanded_of_change_sized (C := Try.checked) own started (by kernel_rfl) Try.func12
    (ChangeSpec.witness6 (enc := enc) (C := Try.checked) false ⟨#[], #[.slice none 0 0, .slice none 0 0], []⟩ 8 (by kernel_rfl) (by kernel_rfl) (by kernel_rfl) (by kernel_rfl)) ?_
  intro W base args ds gs before hval hW _ hsz _
  exact patchesLead_contract H enc W base args ds gs before hval hW hsz

theorem patchesLead_k1 : (Rows.patchesLeadRow.wf (OpenSpec.ofChange Rows.patchesLeadSpec)) = true := by kernel_rfl
theorem patchesLead_k10 : (Rows.patchesLeadRow.inPlace == Try.prog.inPlace 12) = true := by kernel_rfl
theorem patchesLead_k11 : (Rows.patchesLeadRow.unfollowed == Try.prog.unfollowed 12) = true := by kernel_rfl
theorem patchesLead_k12 : (Rows.patchesLeadRow.recurses == Try.prog.recurses 12) = true := by kernel_rfl
theorem patchesLead_k13 : (Rows.patchesLeadRow.named == Try.prog.varsNamed 12) = true := by kernel_rfl
theorem patchesLead_k14 : (Rows.patchesLeadRow.maps == (Try.f12.params.toList ++ Rows.patchesLeadSpec.plain.varTypes Try.prog).any (Try.prog.mapsRec ·)) = true := by kernel_rfl
theorem patchesLead_k15 : (Rows.patchesLeadRow.ifaces == (Try.f12.params.toList ++ Rows.patchesLeadSpec.plain.varTypes Try.prog).any (Try.prog.ifacesRec ·)) = true := by kernel_rfl
theorem patchesLead_k17 : (Rows.patchesLeadRow.loops == (Try.f12.params.toList ++ Rows.patchesLeadSpec.plain.varTypes Try.prog).any (Try.prog.loopsFrom ·)) = true := by kernel_rfl
theorem patchesLead_k17b : (Rows.patchesLeadRow.wideKeys == (Try.f12.params.toList ++ Rows.patchesLeadSpec.plain.varTypes Try.prog ++ Try.f12.resultTypes.toList).any (Try.prog.wideKeysFrom ·)) = true := by kernel_rfl
theorem patchesLead_k24 : (Rows.patchesLeadRow.veiled == (Try.f12.params.toList ++ Rows.patchesLeadSpec.plain.varTypes Try.prog ++ Try.f12.resultTypes.toList).any (Try.prog.veiledRec ·)) = true := by kernel_rfl
theorem patchesLead_k25 : (Rows.patchesLeadRow.veiledFits Try.prog Try.f12.params.toList (Try.f12.params.toList ++ Rows.patchesLeadSpec.plain.varTypes Try.prog ++ Try.f12.resultTypes.toList)) = true := by kernel_rfl
theorem patchesLead_named : Try.checked.prog.funcNamed Rows.patchesLeadRow.func = some 12 := by kernel_rfl
theorem patchesLead_facts : joinedFacts Try.prog 12 Try.f12 Rows.patchesLeadSpec Rows.patchesLeadRow = true :=
  facts_mk patchesLead_k1 laidOut mapsRowed_ (by kernel_rfl) (by kernel_rfl) (by kernel_rfl) stops_ (by kernel_rfl) stopKnobs_ patchesLead_k10 patchesLead_k11 patchesLead_k12 patchesLead_k13 patchesLead_k14 patchesLead_k15 (by kernel_rfl) patchesLead_k17 patchesLead_k17b
    (by kernel_rfl) (by kernel_rfl) (by kernel_rfl) (by kernel_rfl) plainKeys_ (by kernel_rfl) stopsHeard_ mayEnter_ liftsFinal_ make_ (by kernel_rfl) (by kernel_rfl) patchesLead_k24 patchesLead_k25
theorem patchesLead_instance : Try.f12.isInstance Try.prog Rows.patchesLeadRow.origin Rows.patchesLeadRow.targs := of_decide_eq_true (by kernel_rfl)
theorem patchesLead_wrapper : Try.f12.isWrapper Try.prog Rows.patchesLeadRow.wrapper Rows.patchesLeadRow.mainSum := by unfold Func.isWrapper; rw [if_neg (of_decide_eq_false (by kernel_rfl))]; exact ⟨rfl, rfl⟩

theorem patchesLead_holds : Rows.PatchesLeadSaid :=
  OpenClaim.holds_of_wide 12 Try.f12 rfl rfl rfl rfl rfl rfl rfl ⟨rfl, rfl, rfl, rfl, rfl⟩ rfl rfl rfl rfl rfl patchesLead_named Try.func12 patchesLead_facts patchesLead_instance patchesLead_wrapper
    (fun os started H enc _ => patchesLead_lifted os started H enc)
#print axioms patchesLead_holds
end Go.Proofs.Ytdbbmjdeeenlhaa
