/- ConfChecks: the law returns true at every input, and its arguments read as before. Conditions: none. -/
import Derived.Test.YtfgiehfiieecoaaConfChecks
import Derived.Test.YtfgiehfiieecoaaFrame
import Derived.Test.YtfgiehfiieecoaaRead
namespace Go.Proofs.Ytfgiehfiieecoaa
open Go.ChangeShapes Go.WideShapes Go.ChangeAt Go.RowKit
set_option maxRecDepth 100000
theorem confChecks_readable : ∀ t ∈ Try.f15.params.toList, Try.prog.readableRec t = true ∧ t < Try.prog.types.size := of_decide_eq_true (by kernel_rfl)
theorem confChecks_contract (H : Type) (enc : TypeId × Value → H) (W : World) (base : Nat) (args : Array Value) (ds gs : List (DataW H)) (before : List MemPlace)
    (hval : ∀ (j : Nat) t v, Try.f15.params[j]? = some t → args[j]? = some v → Value.okWide Try.prog W .any base t v)
    (hW : DataW.Whole enc Try.prog Try.f15.params.toList Rows.confChecksSpec.vars false W args.toList ds gs before)
    (hsz : (DataW.weightsEach Try.prog (Try.f15.params.toList ++ Rows.confChecksSpec.plain.varTypes Try.prog) (ds ++ gs)).all (· ≤ reachBytes) = true) :
    Calls Try.prog 15 args W fun e W' => ∃ v, e = .returned v ∧ Rows.confChecksSpec.post enc Try.prog Try.f15 false true false false W args v W' := by
  have hW' := hW
  obtain ⟨p, q, hA, hV, rfl, hfz, hnd⟩ := hW
  rw [Try.params15] at hA hval
  obtain ⟨v0, vs0, d0, ds0, p0, q0, hargs0, rfl, rfl, h0, r0⟩ := trodAll_cons hA
  obtain ⟨hnil, rfl, rfl⟩ := trodAll_nil r0
  subst hnil
  obtain rfl : args = #[v0] := by cases args; simp_all
  obtain ⟨rfl, rfl⟩ := trodVars_none hV
  exact (confChecks_open W base (hval 0 _ _ rfl rfl) h0 (fun n hn => by have := List.all_eq_true.1 hsz n (weightsEach_mem (i := 0) (t := 35) rfl rfl n hn); simpa using this)).mono fun e W' ⟨he, hb⟩ => ⟨_, he, law_post laidOut Try.underlying4 rfl rfl confChecks_readable hW' rfl hb⟩

theorem confChecks_lifted (os : Os) (started : os.Started) (H : Type) (enc : TypeId × Value → H) :
    ReturnsInHanded {} Try.checked os 15 .any (Rows.confChecksSpec.pre6 enc Try.prog Try.f15 Rows.confChecksRow.domain false) (Rows.confChecksSpec.post enc Try.prog Try.f15 false true false false) := by
  refine returnsInHanded_of_change_sized (C := Try.checked) own started (by kernel_rfl) Try.func15
    (ChangeSpec.witness6 (enc := enc) (C := Try.checked) false ⟨#[], #[.agg #[.slice none 0 0, .slice none 0 0, .slice none 0 0]], []⟩ 8 (by kernel_rfl) (by kernel_rfl) (by kernel_rfl) (by kernel_rfl)) ?_
  intro W base args ds gs before hval hW _ hsz _
  exact confChecks_contract H enc W base args ds gs before hval hW hsz

theorem confChecks_k1 : (Rows.confChecksRow.wf (OpenSpec.ofChange Rows.confChecksSpec)) = true := by kernel_rfl
theorem confChecks_k10 : (Rows.confChecksRow.inPlace == Try.prog.inPlace 15) = true := by kernel_rfl
theorem confChecks_k11 : (Rows.confChecksRow.unfollowed == Try.prog.unfollowed 15) = true := by kernel_rfl
theorem confChecks_k12 : (Rows.confChecksRow.recurses == Try.prog.recurses 15) = true := by kernel_rfl
theorem confChecks_k13 : (Rows.confChecksRow.named == Try.prog.varsNamed 15) = true := by kernel_rfl
theorem confChecks_k14 : (Rows.confChecksRow.maps == (Try.f15.params.toList ++ Rows.confChecksSpec.plain.varTypes Try.prog).any (Try.prog.mapsRec ·)) = true := by kernel_rfl
theorem confChecks_k15 : (Rows.confChecksRow.ifaces == (Try.f15.params.toList ++ Rows.confChecksSpec.plain.varTypes Try.prog).any (Try.prog.ifacesRec ·)) = true := by kernel_rfl
theorem confChecks_k17 : (Rows.confChecksRow.loops == (Try.f15.params.toList ++ Rows.confChecksSpec.plain.varTypes Try.prog).any (Try.prog.loopsFrom ·)) = true := by kernel_rfl
theorem confChecks_k17b : (Rows.confChecksRow.wideKeys == (Try.f15.params.toList ++ Rows.confChecksSpec.plain.varTypes Try.prog ++ Try.f15.resultTypes.toList).any (Try.prog.wideKeysFrom ·)) = true := by kernel_rfl
theorem confChecks_k24 : (Rows.confChecksRow.veiled == (Try.f15.params.toList ++ Rows.confChecksSpec.plain.varTypes Try.prog ++ Try.f15.resultTypes.toList).any (Try.prog.veiledRec ·)) = true := by kernel_rfl
theorem confChecks_k25 : (Rows.confChecksRow.veiledFits Try.prog Try.f15.params.toList (Try.f15.params.toList ++ Rows.confChecksSpec.plain.varTypes Try.prog ++ Try.f15.resultTypes.toList)) = true := by kernel_rfl
theorem confChecks_named : Try.checked.prog.funcNamed Rows.confChecksRow.func = some 15 := by kernel_rfl
theorem confChecks_facts : joinedFacts Try.prog 15 Try.f15 Rows.confChecksSpec Rows.confChecksRow = true :=
  facts_mk confChecks_k1 laidOut mapsRowed_ (by kernel_rfl) (by kernel_rfl) (by kernel_rfl) stops_ (by kernel_rfl) stopKnobs_ confChecks_k10 confChecks_k11 confChecks_k12 confChecks_k13 confChecks_k14 confChecks_k15 (by kernel_rfl) confChecks_k17 confChecks_k17b
    (by kernel_rfl) (by kernel_rfl) (by kernel_rfl) (by kernel_rfl) plainKeys_ (by kernel_rfl) stopsHeard_ mayEnter_ liftsFinal_ make_ (by kernel_rfl) (by kernel_rfl) confChecks_k24 confChecks_k25
theorem confChecks_instance : Try.f15.isInstance Try.prog Rows.confChecksRow.origin Rows.confChecksRow.targs := of_decide_eq_true (by kernel_rfl)
theorem confChecks_wrapper : Try.f15.isWrapper Try.prog Rows.confChecksRow.wrapper Rows.confChecksRow.mainSum := by unfold Func.isWrapper; rw [if_neg (of_decide_eq_false (by kernel_rfl))]; exact ⟨rfl, rfl⟩

theorem confChecks_holds : Rows.ConfChecksSaid :=
  OpenClaim.holds_of_wide 15 Try.f15 rfl rfl rfl rfl rfl rfl rfl ⟨rfl, rfl, rfl, rfl, rfl⟩ rfl rfl rfl rfl rfl confChecks_named Try.func15 confChecks_facts confChecks_instance confChecks_wrapper
    (fun os started H enc _ => confChecks_lifted os started H enc)
#print axioms confChecks_holds
end Go.Proofs.Ytfgiehfiieecoaa
