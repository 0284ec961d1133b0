/- ConfsGood: the law returns true at every input, and its arguments read as before. Conditions: none. -/
import Derived.Test.YtdbbmjdeeenlhaaPack28
import Derived.Test.YtdbbmjdeeenlhaaPack03
import Derived.Test.YtdbbmjdeeenlhaaPack08
set_option linter.unusedSimpArgs false
set_option linter.unusedVariables false
namespace Go.Proofs.Ytdbbmjdeeenlhaa
open Go.ChangeShapes Go.WideShapes Go.ChangeAt Go.RowKit
set_option maxRecDepth 100000
theorem confsGood_readable : ∀ t ∈ Try.f6.params.toList, Try.prog.readableRec t = true ∧ t < Try.prog.types.size := of_decide_eq_true (by kernel_rfl)
theorem confsGood_contract (H : Type) (enc : TypeId × Value → H) (W : World) (base : Nat) (args : Array Value) (ds gs : List (DataW H)) (before : List MemPlace)
    (hval : ∀ (j : Nat) t v, Try.f6.params[j]? = some t → args[j]? = some v → Value.okWide Try.prog W .any base t v)
    (hW : DataW.Whole enc Try.prog Try.f6.params.toList Rows.confsGoodSpec.vars false W args.toList ds gs before)
    (hsz : (DataW.weightsEach Try.prog (Try.f6.params.toList ++ Rows.confsGoodSpec.plain.varTypes Try.prog) (ds ++ gs)).all (· ≤ reachBytes) = true) :
    Calls Try.prog 6 args W fun e W' => ∃ v, e = .returned v ∧ Rows.confsGoodSpec.post enc Try.prog Try.f6 false true false false W args v W' := by
  have hW' := hW
  obtain ⟨p, q, hA, hV, rfl, hfz, hnd⟩ := hW
  rw [Try.params6] at hA hval
  obtain ⟨v0, vs0, d0, ds0, p0, q0, hargs0, rfl, rfl, h0, r0⟩ := trodAll_cons hA
  obtain ⟨v1, vs1, d1, ds1, p1, q1, hargs1, rfl, rfl, h1, r1⟩ := trodAll_cons r0
  obtain ⟨hnil, rfl, rfl⟩ := trodAll_nil r1
  subst hnil
  subst hargs1
  obtain rfl : args = #[v0, v1] := by cases args; simp_all
  obtain ⟨rfl, rfl⟩ := trodVars_none hV
  exact (confsGood_open W base (hval 0 _ _ rfl rfl) h0 (fun n hn => by have := List.all_eq_true.1 hsz n (weightsEach_mem (i := 0) (t := 40) rfl rfl n hn); simpa using this) (hval 1 _ _ rfl rfl) h1 (fun n hn => by have := List.all_eq_true.1 hsz n (weightsEach_mem (i := 1) (t := 67) rfl rfl n hn); simpa using this)).mono fun e W' ⟨he, hb⟩ => ⟨_, he, law_post laidOut Try.underlying4 rfl rfl confsGood_readable hW' rfl hb⟩

theorem confsGood_lifted (os : Os) (started : os.Started) (H : Type) (enc : TypeId × Value → H) :
    ReturnsInHanded {} Try.checked os 6 .any (Rows.confsGoodSpec.pre6 enc Try.prog Try.f6 Rows.confsGoodRow.domain false) (Rows.confsGoodSpec.post enc Try.prog Try.f6 false true false false) := by
  refine returnsInHanded_of_change_sized (C := Try.checked) own started (by kernel_rfl) Try.func6
    (ChangeSpec.witness6 (enc := enc) (C := Try.checked) false ⟨#[], #[.slice none 0 0, .agg #[.int .i64 0, .int .i64 0, .int .i64 0, .int .i64 0]], []⟩ 8 (by kernel_rfl) (by kernel_rfl) (by kernel_rfl) (by kernel_rfl)) ?_
  intro W base args ds gs before hval hW _ hsz _
  exact confsGood_contract H enc W base args ds gs before hval hW hsz

theorem confsGood_k1 : (Rows.confsGoodRow.wf (OpenSpec.ofChange Rows.confsGoodSpec)) = true := by kernel_rfl
theorem confsGood_k10 : (Rows.confsGoodRow.inPlace == Try.prog.inPlace 6) = true := by kernel_rfl
theorem confsGood_k11 : (Rows.confsGoodRow.unfollowed == Try.prog.unfollowed 6) = true := by kernel_rfl
theorem confsGood_k12 : (Rows.confsGoodRow.recurses == Try.prog.recurses 6) = true := by kernel_rfl
theorem confsGood_k13 : (Rows.confsGoodRow.named == Try.prog.varsNamed 6) = true := by kernel_rfl
theorem confsGood_k14 : (Rows.confsGoodRow.maps == (Try.f6.params.toList ++ Rows.confsGoodSpec.plain.varTypes Try.prog).any (Try.prog.mapsRec ·)) = true := by kernel_rfl
theorem confsGood_k15 : (Rows.confsGoodRow.ifaces == (Try.f6.params.toList ++ Rows.confsGoodSpec.plain.varTypes Try.prog).any (Try.prog.ifacesRec ·)) = true := by kernel_rfl
theorem confsGood_k17 : (Rows.confsGoodRow.loops == (Try.f6.params.toList ++ Rows.confsGoodSpec.plain.varTypes Try.prog).any (Try.prog.loopsFrom ·)) = true := by kernel_rfl
theorem confsGood_k17b : (Rows.confsGoodRow.wideKeys == (Try.f6.params.toList ++ Rows.confsGoodSpec.plain.varTypes Try.prog ++ Try.f6.resultTypes.toList).any (Try.prog.wideKeysFrom ·)) = true := by kernel_rfl
theorem confsGood_k24 : (Rows.confsGoodRow.veiled == (Try.f6.params.toList ++ Rows.confsGoodSpec.plain.varTypes Try.prog ++ Try.f6.resultTypes.toList).any (Try.prog.veiledRec ·)) = true := by kernel_rfl
theorem confsGood_k25 : (Rows.confsGoodRow.veiledFits Try.prog Try.f6.params.toList (Try.f6.params.toList ++ Rows.confsGoodSpec.plain.varTypes Try.prog ++ Try.f6.resultTypes.toList)) = true := by kernel_rfl
theorem confsGood_named : Try.checked.prog.funcNamed Rows.confsGoodRow.func = some 6 := by kernel_rfl
theorem confsGood_facts : joinedFacts Try.prog 6 Try.f6 Rows.confsGoodSpec Rows.confsGoodRow = true :=
  facts_mk confsGood_k1 laidOut mapsRowed_ (by kernel_rfl) (by kernel_rfl) (by kernel_rfl) stops_ (by kernel_rfl) stopKnobs_ confsGood_k10 confsGood_k11 confsGood_k12 confsGood_k13 confsGood_k14 confsGood_k15 (by kernel_rfl) confsGood_k17 confsGood_k17b
    (by kernel_rfl) (by kernel_rfl) (by kernel_rfl) (by kernel_rfl) plainKeys_ (by kernel_rfl) stopsHeard_ mayEnter_ liftsFinal_ make_ (by kernel_rfl) (by kernel_rfl) confsGood_k24 confsGood_k25
theorem confsGood_instance : Try.f6.isInstance Try.prog Rows.confsGoodRow.origin Rows.confsGoodRow.targs := of_decide_eq_true (by kernel_rfl)
theorem confsGood_wrapper : Try.f6.isWrapper Try.prog Rows.confsGoodRow.wrapper Rows.confsGoodRow.mainSum := by unfold Func.isWrapper; rw [if_neg (of_decide_eq_false (by kernel_rfl))]; exact ⟨rfl, rfl⟩

theorem confsGood_holds : Rows.ConfsGoodSaid :=
  OpenClaim.holds_of_wide 6 Try.f6 rfl rfl rfl rfl rfl rfl rfl ⟨rfl, rfl, rfl, rfl, rfl⟩ rfl rfl rfl rfl rfl confsGood_named Try.func6 confsGood_facts confsGood_instance confsGood_wrapper
    (fun os started H enc _ => confsGood_lifted os started H enc)
#print axioms confsGood_holds
end Go.Proofs.Ytdbbmjdeeenlhaa
