/- FramesBack: the law returns true at every input, and its arguments read as before. Conditions: none. -/
import Derived.Test.YtdbbmjdeeenlhaaPack32
import Derived.Test.YtdbbmjdeeenlhaaPack04
import Derived.Test.YtdbbmjdeeenlhaaPack09
set_option linter.unusedSimpArgs false
set_option linter.unusedVariables false
namespace Go.Proofs.Ytdbbmjdeeenlhaa
open Go.ChangeShapes Go.WideShapes Go.ChangeAt Go.RowKit
set_option maxRecDepth 100000
theorem framesBack_readable : ∀ t ∈ Try.f13.params.toList, Try.prog.readableRec t = true ∧ t < Try.prog.types.size := of_decide_eq_true (by kernel_rfl)
theorem framesBack_contract (H : Type) (enc : TypeId × Value → H) (W : World) (base : Nat) (args : Array Value) (ds gs : List (DataW H)) (before : List MemPlace)
    (hval : ∀ (j : Nat) t v, Try.f13.params[j]? = some t → args[j]? = some v → Value.okWide Try.prog W .any base t v)
    (hW : DataW.Whole enc Try.prog Try.f13.params.toList Rows.framesBackSpec.vars false W args.toList ds gs before)
    (hsz : (DataW.weightsEach Try.prog (Try.f13.params.toList ++ Rows.framesBackSpec.plain.varTypes Try.prog) (ds ++ gs)).all (· ≤ reachBytes) = true) :
    Calls Try.prog 13 args W fun e W' => ∃ v, e = .returned v ∧ Rows.framesBackSpec.post enc Try.prog Try.f13 false true false false W args v W' := by
  have hW' := hW
  obtain ⟨p, q, hA, hV, rfl, hfz, hnd⟩ := hW
  rw [Try.params13] at hA hval
  obtain ⟨v0, vs0, d0, ds0, p0, q0, hargs0, rfl, rfl, h0, r0⟩ := trodAll_cons hA
  obtain ⟨v1, vs1, d1, ds1, p1, q1, hargs1, rfl, rfl, h1, r1⟩ := trodAll_cons r0
  obtain ⟨v2, vs2, d2, ds2, p2, q2, hargs2, rfl, rfl, h2, r2⟩ := trodAll_cons r1
  obtain ⟨v3, vs3, d3, ds3, p3, q3, hargs3, rfl, rfl, h3, r3⟩ := trodAll_cons r2
  obtain ⟨v4, vs4, d4, ds4, p4, q4, hargs4, rfl, rfl, h4, r4⟩ := trodAll_cons r3
  obtain ⟨hnil, rfl, rfl⟩ := trodAll_nil r4
  subst hnil
  subst hargs1
  subst hargs2
  subst hargs3
  subst hargs4
  obtain rfl : args = #[v0, v1, v2, v3, v4] := by cases args; simp_all
  obtain ⟨rfl, rfl⟩ := trodVars_none hV
  exact (framesBack_open W base (hval 0 _ _ rfl rfl) h0 (fun n hn => by have := List.all_eq_true.1 hsz n (weightsEach_mem (i := 0) (t := 67) rfl rfl n hn); simpa using this) (hval 1 _ _ rfl rfl) h1 (fun n hn => by have := List.all_eq_true.1 hsz n (weightsEach_mem (i := 1) (t := 9) rfl rfl n hn); simpa using this) (hval 2 _ _ rfl rfl) h2 (fun n hn => by have := List.all_eq_true.1 hsz n (weightsEach_mem (i := 2) (t := 3) rfl rfl n hn); simpa using this) (hval 3 _ _ rfl rfl) h3 (fun n hn => by have := List.all_eq_true.1 hsz n (weightsEach_mem (i := 3) (t := 3) rfl rfl n hn); simpa using this) (hval 4 _ _ rfl rfl) h4 (fun n hn => by have := List.all_eq_true.1 hsz n (weightsEach_mem (i := 4) (t := 3) rfl rfl n hn); simpa using this)).mono fun e W' ⟨he, hb⟩ => ⟨_, he, law_post laidOut Try.underlying4 rfl rfl framesBack_readable hW' rfl hb⟩

theorem framesBack_lifted (os : Os) (started : os.Started) (H : Type) (enc : TypeId × Value → H) :
    ReturnsInHanded {} Try.checked os 13 .any (Rows.framesBackSpec.pre6 enc Try.prog Try.f13 Rows.framesBackRow.domain false) (Rows.framesBackSpec.post enc Try.prog Try.f13 false true false false) := by
  refine returnsInHanded_of_change_sized (C := Try.checked) own started (by kernel_rfl) Try.func13
    (ChangeSpec.witness6 (enc := enc) (C := Try.checked) false ⟨#[], #[.agg #[.int .i64 0, .int .i64 0, .int .i64 0, .int .i64 0], .string ByteArray.empty, .int .i64 0, .int .i64 0, .int .i64 0], []⟩ 8 (by kernel_rfl) (by kernel_rfl) (by kernel_rfl) (by kernel_rfl)) ?_
  intro W base args ds gs before hval hW _ hsz _
  exact framesBack_contract H enc W base args ds gs before hval hW hsz

theorem framesBack_k1 : (Rows.framesBackRow.wf (OpenSpec.ofChange Rows.framesBackSpec)) = true := by kernel_rfl
theorem framesBack_k10 : (Rows.framesBackRow.inPlace == Try.prog.inPlace 13) = true := by kernel_rfl
theorem framesBack_k11 : (Rows.framesBackRow.unfollowed == Try.prog.unfollowed 13) = true := by kernel_rfl
theorem framesBack_k12 : (Rows.framesBackRow.recurses == Try.prog.recurses 13) = true := by kernel_rfl
theorem framesBack_k13 : (Rows.framesBackRow.named == Try.prog.varsNamed 13) = true := by kernel_rfl
theorem framesBack_k14 : (Rows.framesBackRow.maps == (Try.f13.params.toList ++ Rows.framesBackSpec.plain.varTypes Try.prog).any (Try.prog.mapsRec ·)) = true := by kernel_rfl
theorem framesBack_k15 : (Rows.framesBackRow.ifaces == (Try.f13.params.toList ++ Rows.framesBackSpec.plain.varTypes Try.prog).any (Try.prog.ifacesRec ·)) = true := by kernel_rfl
theorem framesBack_k17 : (Rows.framesBackRow.loops == (Try.f13.params.toList ++ Rows.framesBackSpec.plain.varTypes Try.prog).any (Try.prog.loopsFrom ·)) = true := by kernel_rfl
theorem framesBack_k17b : (Rows.framesBackRow.wideKeys == (Try.f13.params.toList ++ Rows.framesBackSpec.plain.varTypes Try.prog ++ Try.f13.resultTypes.toList).any (Try.prog.wideKeysFrom ·)) = true := by kernel_rfl
theorem framesBack_k24 : (Rows.framesBackRow.veiled == (Try.f13.params.toList ++ Rows.framesBackSpec.plain.varTypes Try.prog ++ Try.f13.resultTypes.toList).any (Try.prog.veiledRec ·)) = true := by kernel_rfl
theorem framesBack_k25 : (Rows.framesBackRow.veiledFits Try.prog Try.f13.params.toList (Try.f13.params.toList ++ Rows.framesBackSpec.plain.varTypes Try.prog ++ Try.f13.resultTypes.toList)) = true := by kernel_rfl
theorem framesBack_named : Try.checked.prog.funcNamed Rows.framesBackRow.func = some 13 := by kernel_rfl
theorem framesBack_facts : joinedFacts Try.prog 13 Try.f13 Rows.framesBackSpec Rows.framesBackRow = true :=
  facts_mk framesBack_k1 laidOut mapsRowed_ (by kernel_rfl) (by kernel_rfl) (by kernel_rfl) stops_ (by kernel_rfl) stopKnobs_ framesBack_k10 framesBack_k11 framesBack_k12 framesBack_k13 framesBack_k14 framesBack_k15 (by kernel_rfl) framesBack_k17 framesBack_k17b
    (by kernel_rfl) (by kernel_rfl) (by kernel_rfl) (by kernel_rfl) plainKeys_ (by kernel_rfl) stopsHeard_ mayEnter_ liftsFinal_ make_ (by kernel_rfl) (by kernel_rfl) framesBack_k24 framesBack_k25
theorem framesBack_instance : Try.f13.isInstance Try.prog Rows.framesBackRow.origin Rows.framesBackRow.targs := of_decide_eq_true (by kernel_rfl)
theorem framesBack_wrapper : Try.f13.isWrapper Try.prog Rows.framesBackRow.wrapper Rows.framesBackRow.mainSum := by unfold Func.isWrapper; rw [if_neg (of_decide_eq_false (by kernel_rfl))]; exact ⟨rfl, rfl⟩

theorem framesBack_holds : Rows.FramesBackSaid :=
  OpenClaim.holds_of_wide 13 Try.f13 rfl rfl rfl rfl rfl rfl rfl ⟨rfl, rfl, rfl, rfl, rfl⟩ rfl rfl rfl rfl rfl framesBack_named Try.func13 framesBack_facts framesBack_instance framesBack_wrapper
    (fun os started H enc _ => framesBack_lifted os started H enc)
#print axioms framesBack_holds
end Go.Proofs.Ytdbbmjdeeenlhaa
