/- ConfApplies: the law returns true at every input, and its arguments read as before. Conditions: none. -/
import Derived.Test.YtdbbmjdeeenlhaaPack24
import Derived.Test.YtdbbmjdeeenlhaaPack03
import Derived.Test.YtdbbmjdeeenlhaaPack07
namespace Go.Proofs.Ytdbbmjdeeenlhaa
open Go.ChangeShapes Go.WideShapes Go.ChangeAt Go.RowKit
set_option maxRecDepth 100000
theorem confApplies_readable : ∀ t ∈ Try.f5.params.toList, Try.prog.readableRec t = true ∧ t < Try.prog.types.size := of_decide_eq_true (by kernel_rfl)
theorem confApplies_contract (H : Type) (enc : TypeId × Value → H) (W : World) (base : Nat) (args : Array Value) (ds gs : List (DataW H)) (before : List MemPlace)
    (hval : ∀ (j : Nat) t v, Try.f5.params[j]? = some t → args[j]? = some v → Value.okWide Try.prog W .any base t v)
    (hW : DataW.Whole enc Try.prog Try.f5.params.toList Rows.confAppliesSpec.vars false W args.toList ds gs before)
    (hsz : (DataW.weightsEach Try.prog (Try.f5.params.toList ++ Rows.confAppliesSpec.plain.varTypes Try.prog) (ds ++ gs)).all (· ≤ reachBytes) = true) :
    Calls Try.prog 5 args W fun e W' => ∃ v, e = .returned v ∧ Rows.confAppliesSpec.post enc Try.prog Try.f5 false true false false W args v W' := by
  have hW' := hW
  obtain ⟨p, q, hA, hV, rfl, hfz, hnd⟩ := hW
  rw [Try.params5] at hA hval
  obtain ⟨v0, vs0, d0, ds0, p0, q0, hargs0, rfl, rfl, h0, r0⟩ := trodAll_cons hA
  obtain ⟨v1, vs1, d1, ds1, p1, q1, hargs1, rfl, rfl, h1, r1⟩ := trodAll_cons r0
  obtain ⟨hnil, rfl, rfl⟩ := trodAll_nil r1
  subst hnil
  subst hargs1
  obtain rfl : args = #[v0, v1] := by cases args; simp_all
  obtain ⟨rfl, rfl⟩ := trodVars_none hV
  exact (confApplies_open W base (hval 0 _ _ rfl rfl) h0 (fun n hn => by have := List.all_eq_true.1 hsz n (weightsEach_mem (i := 0) (t := 50) rfl rfl n hn); simpa using this) (hval 1 _ _ rfl rfl) h1 (fun n hn => by have := List.all_eq_true.1 hsz n (weightsEach_mem (i := 1) (t := 60) rfl rfl n hn); simpa using this)).mono fun e W' ⟨he, hb⟩ => ⟨_, he, law_post laidOut Try.underlying4 rfl rfl confApplies_readable hW' rfl hb⟩

theorem confApplies_lifted (os : Os) (started : os.Started) (H : Type) (enc : TypeId × Value → H) :
    ReturnsInHanded {} Try.checked os 5 .any (Rows.confAppliesSpec.pre6 enc Try.prog Try.f5 Rows.confAppliesRow.domain false) (Rows.confAppliesSpec.post enc Try.prog Try.f5 false true false false) := by
  refine returnsInHanded_of_change_sized (C := Try.checked) own started (by kernel_rfl) Try.func5
    (ChangeSpec.witness6 (enc := enc) (C := Try.checked) false ⟨#[], #[.agg #[.slice none 0 0, .slice none 0 0, .slice none 0 0], .agg #[.int .i64 0, .int .i64 0, .int .i64 0, .int .i64 0, .int .i64 0, .int .i64 0, .int .i64 0, .int .i64 0, .int .i64 0, .int .i64 0, .int .i64 0, .bool false, .int .i64 0, .int .i64 0, .int .i64 0, .int .i64 0, .int .i64 0, .bool false, .int .i64 0, .int .i64 0, .int .i64 0, .int .i64 0, .int .i64 0, .int .i64 0, .int .i64 0, .int .i64 0, .int .i64 0, .string ByteArray.empty]], []⟩ 8 (by kernel_rfl) (by kernel_rfl) (by kernel_rfl) (by kernel_rfl)) ?_
  intro W base args ds gs before hval hW _ hsz _
  exact confApplies_contract H enc W base args ds gs before hval hW hsz

theorem confApplies_k1 : (Rows.confAppliesRow.wf (OpenSpec.ofChange Rows.confAppliesSpec)) = true := by kernel_rfl
theorem confApplies_k10 : (Rows.confAppliesRow.inPlace == Try.prog.inPlace 5) = true := by kernel_rfl
theorem confApplies_k11 : (Rows.confAppliesRow.unfollowed == Try.prog.unfollowed 5) = true := by kernel_rfl
theorem confApplies_k12 : (Rows.confAppliesRow.recurses == Try.prog.recurses 5) = true := by kernel_rfl
theorem confApplies_k13 : (Rows.confAppliesRow.named == Try.prog.varsNamed 5) = true := by kernel_rfl
theorem confApplies_k14 : (Rows.confAppliesRow.maps == (Try.f5.params.toList ++ Rows.confAppliesSpec.plain.varTypes Try.prog).any (Try.prog.mapsRec ·)) = true := by kernel_rfl
theorem confApplies_k15 : (Rows.confAppliesRow.ifaces == (Try.f5.params.toList ++ Rows.confAppliesSpec.plain.varTypes Try.prog).any (Try.prog.ifacesRec ·)) = true := by kernel_rfl
theorem confApplies_k17 : (Rows.confAppliesRow.loops == (Try.f5.params.toList ++ Rows.confAppliesSpec.plain.varTypes Try.prog).any (Try.prog.loopsFrom ·)) = true := by kernel_rfl
theorem confApplies_k17b : (Rows.confAppliesRow.wideKeys == (Try.f5.params.toList ++ Rows.confAppliesSpec.plain.varTypes Try.prog ++ Try.f5.resultTypes.toList).any (Try.prog.wideKeysFrom ·)) = true := by kernel_rfl
theorem confApplies_k24 : (Rows.confAppliesRow.veiled == (Try.f5.params.toList ++ Rows.confAppliesSpec.plain.varTypes Try.prog ++ Try.f5.resultTypes.toList).any (Try.prog.veiledRec ·)) = true := by kernel_rfl
theorem confApplies_k25 : (Rows.confAppliesRow.veiledFits Try.prog Try.f5.params.toList (Try.f5.params.toList ++ Rows.confAppliesSpec.plain.varTypes Try.prog ++ Try.f5.resultTypes.toList)) = true := by kernel_rfl
theorem confApplies_named : Try.checked.prog.funcNamed Rows.confAppliesRow.func = some 5 := by kernel_rfl
theorem confApplies_facts : joinedFacts Try.prog 5 Try.f5 Rows.confAppliesSpec Rows.confAppliesRow = true :=
  facts_mk confApplies_k1 laidOut mapsRowed_ (by kernel_rfl) (by kernel_rfl) (by kernel_rfl) stops_ (by kernel_rfl) stopKnobs_ confApplies_k10 confApplies_k11 confApplies_k12 confApplies_k13 confApplies_k14 confApplies_k15 (by kernel_rfl) confApplies_k17 confApplies_k17b
    (by kernel_rfl) (by kernel_rfl) (by kernel_rfl) (by kernel_rfl) plainKeys_ (by kernel_rfl) stopsHeard_ mayEnter_ liftsFinal_ make_ (by kernel_rfl) (by kernel_rfl) confApplies_k24 confApplies_k25
theorem confApplies_instance : Try.f5.isInstance Try.prog Rows.confAppliesRow.origin Rows.confAppliesRow.targs := of_decide_eq_true (by kernel_rfl)
theorem confApplies_wrapper : Try.f5.isWrapper Try.prog Rows.confAppliesRow.wrapper Rows.confAppliesRow.mainSum := by unfold Func.isWrapper; rw [if_neg (of_decide_eq_false (by kernel_rfl))]; exact ⟨rfl, rfl⟩

theorem confApplies_holds : Rows.ConfAppliesSaid :=
  OpenClaim.holds_of_wide 5 Try.f5 rfl rfl rfl rfl rfl rfl rfl ⟨rfl, rfl, rfl, rfl, rfl⟩ rfl rfl rfl rfl rfl confApplies_named Try.func5 confApplies_facts confApplies_instance confApplies_wrapper
    (fun os started H enc _ => confApplies_lifted os started H enc)
#print axioms confApplies_holds
end Go.Proofs.Ytdbbmjdeeenlhaa
