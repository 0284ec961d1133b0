/- RunsFirst: the law returns true at every input, and its arguments read as before. Conditions: none. -/
import Derived.Test.YtdbbmjdeeenlhaaPack26
import Derived.Test.YtdbbmjdeeenlhaaPack03
import Derived.Test.YtdbbmjdeeenlhaaPack08
set_option linter.unusedSimpArgs false
set_option linter.unusedVariables false
namespace Go.Proofs.Ytdbbmjdeeenlhaa
open Go.ChangeShapes Go.WideShapes Go.ChangeAt Go.RowKit
set_option maxRecDepth 100000
theorem runsFirst_readable : ∀ t ∈ Try.f4.params.toList, Try.prog.readableRec t = true ∧ t < Try.prog.types.size := of_decide_eq_true (by kernel_rfl)
theorem runsFirst_contract (H : Type) (enc : TypeId × Value → H) (W : World) (base : Nat) (args : Array Value) (ds gs : List (DataW H)) (before : List MemPlace)
    (hval : ∀ (j : Nat) t v, Try.f4.params[j]? = some t → args[j]? = some v → Value.okWide Try.prog W .any base t v)
    (hW : DataW.Whole enc Try.prog Try.f4.params.toList Rows.runsFirstSpec.vars false W args.toList ds gs before)
    (hsz : (DataW.weightsEach Try.prog (Try.f4.params.toList ++ Rows.runsFirstSpec.plain.varTypes Try.prog) (ds ++ gs)).all (· ≤ reachBytes) = true) :
    Calls Try.prog 4 args W fun e W' => ∃ v, e = .returned v ∧ Rows.runsFirstSpec.post enc Try.prog Try.f4 false true false false W args v W' := by
  have hW' := hW
  obtain ⟨p, q, hA, hV, rfl, hfz, hnd⟩ := hW
  rw [Try.params4] at hA hval
  obtain ⟨v0, vs0, d0, ds0, p0, q0, hargs0, rfl, rfl, h0, r0⟩ := trodAll_cons hA
  obtain ⟨v1, vs1, d1, ds1, p1, q1, hargs1, rfl, rfl, h1, r1⟩ := trodAll_cons r0
  obtain ⟨hnil, rfl, rfl⟩ := trodAll_nil r1
  subst hnil
  subst hargs1
  obtain rfl : args = #[v0, v1] := by cases args; simp_all
  obtain ⟨rfl, rfl⟩ := trodVars_none hV
  exact (runsFirst_open W base (hval 0 _ _ rfl rfl) h0 (fun n hn => by have := List.all_eq_true.1 hsz n (weightsEach_mem (i := 0) (t := 40) rfl rfl n hn); simpa using this) (hval 1 _ _ rfl rfl) h1 (fun n hn => by have := List.all_eq_true.1 hsz n (weightsEach_mem (i := 1) (t := 3) rfl rfl n hn); simpa using this)).mono fun e W' ⟨he, hb⟩ => ⟨_, he, law_post laidOut Try.underlying4 rfl rfl runsFirst_readable hW' rfl hb⟩

theorem runsFirst_lifted (os : Os) (started : os.Started) (H : Type) (enc : TypeId × Value → H) :
    ReturnsInHanded {} Try.checked os 4 .any (Rows.runsFirstSpec.pre6 enc Try.prog Try.f4 Rows.runsFirstRow.domain false) (Rows.runsFirstSpec.post enc Try.prog Try.f4 false true false false) := by
  refine returnsInHanded_of_change_sized (C := Try.checked) own started (by kernel_rfl) Try.func4
    (ChangeSpec.witness6 (enc := enc) (C := Try.checked) false ⟨#[], #[.slice none 0 0, .int .i64 0], []⟩ 8 (by kernel_rfl) (by kernel_rfl) (by kernel_rfl) (by kernel_rfl)) ?_
  intro W base args ds gs before hval hW _ hsz _
  exact runsFirst_contract H enc W base args ds gs before hval hW hsz

theorem runsFirst_k1 : (Rows.runsFirstRow.wf (OpenSpec.ofChange Rows.runsFirstSpec)) = true := by kernel_rfl
theorem runsFirst_k10 : (Rows.runsFirstRow.inPlace == Try.prog.inPlace 4) = true := by kernel_rfl
theorem runsFirst_k11 : (Rows.runsFirstRow.unfollowed == Try.prog.unfollowed 4) = true := by kernel_rfl
theorem runsFirst_k12 : (Rows.runsFirstRow.recurses == Try.prog.recurses 4) = true := by kernel_rfl
theorem runsFirst_k13 : (Rows.runsFirstRow.named == Try.prog.varsNamed 4) = true := by kernel_rfl
theorem runsFirst_k14 : (Rows.runsFirstRow.maps == (Try.f4.params.toList ++ Rows.runsFirstSpec.plain.varTypes Try.prog).any (Try.prog.mapsRec ·)) = true := by kernel_rfl
theorem runsFirst_k15 : (Rows.runsFirstRow.ifaces == (Try.f4.params.toList ++ Rows.runsFirstSpec.plain.varTypes Try.prog).any (Try.prog.ifacesRec ·)) = true := by kernel_rfl
theorem runsFirst_k17 : (Rows.runsFirstRow.loops == (Try.f4.params.toList ++ Rows.runsFirstSpec.plain.varTypes Try.prog).any (Try.prog.loopsFrom ·)) = true := by kernel_rfl
theorem runsFirst_k17b : (Rows.runsFirstRow.wideKeys == (Try.f4.params.toList ++ Rows.runsFirstSpec.plain.varTypes Try.prog ++ Try.f4.resultTypes.toList).any (Try.prog.wideKeysFrom ·)) = true := by kernel_rfl
theorem runsFirst_k24 : (Rows.runsFirstRow.veiled == (Try.f4.params.toList ++ Rows.runsFirstSpec.plain.varTypes Try.prog ++ Try.f4.resultTypes.toList).any (Try.prog.veiledRec ·)) = true := by kernel_rfl
theorem runsFirst_k25 : (Rows.runsFirstRow.veiledFits Try.prog Try.f4.params.toList (Try.f4.params.toList ++ Rows.runsFirstSpec.plain.varTypes Try.prog ++ Try.f4.resultTypes.toList)) = true := by kernel_rfl
theorem runsFirst_named : Try.checked.prog.funcNamed Rows.runsFirstRow.func = some 4 := by kernel_rfl
theorem runsFirst_facts : joinedFacts Try.prog 4 Try.f4 Rows.runsFirstSpec Rows.runsFirstRow = true :=
  facts_mk runsFirst_k1 laidOut mapsRowed_ (by kernel_rfl) (by kernel_rfl) (by kernel_rfl) stops_ (by kernel_rfl) stopKnobs_ runsFirst_k10 runsFirst_k11 runsFirst_k12 runsFirst_k13 runsFirst_k14 runsFirst_k15 (by kernel_rfl) runsFirst_k17 runsFirst_k17b
    (by kernel_rfl) (by kernel_rfl) (by kernel_rfl) (by kernel_rfl) plainKeys_ (by kernel_rfl) stopsHeard_ mayEnter_ liftsFinal_ make_ (by kernel_rfl) (by kernel_rfl) runsFirst_k24 runsFirst_k25
theorem runsFirst_instance : Try.f4.isInstance Try.prog Rows.runsFirstRow.origin Rows.runsFirstRow.targs := of_decide_eq_true (by kernel_rfl)
theorem runsFirst_wrapper : Try.f4.isWrapper Try.prog Rows.runsFirstRow.wrapper Rows.runsFirstRow.mainSum := by unfold Func.isWrapper; rw [if_neg (of_decide_eq_false (by kernel_rfl))]; exact ⟨rfl, rfl⟩

theorem runsFirst_holds : Rows.RunsFirstSaid :=
  OpenClaim.holds_of_wide 4 Try.f4 rfl rfl rfl rfl rfl rfl rfl ⟨rfl, rfl, rfl, rfl, rfl⟩ rfl rfl rfl rfl rfl runsFirst_named Try.func4 runsFirst_facts runsFirst_instance runsFirst_wrapper
    (fun os started H enc _ => runsFirst_lifted os started H enc)
#print axioms runsFirst_holds
end Go.Proofs.Ytdbbmjdeeenlhaa
