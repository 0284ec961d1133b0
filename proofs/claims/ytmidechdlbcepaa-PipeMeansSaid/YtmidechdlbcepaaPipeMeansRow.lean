/- PipeMeans: the law returns true at every input, and its arguments read as before. Conditions: none. -/
import Derived.Test.YtmidechdlbcepaaPack32
import Derived.Test.YtmidechdlbcepaaPack04
import Derived.Test.YtmidechdlbcepaaPack09
set_option linter.unusedSimpArgs false
set_option linter.unusedVariables false
namespace Go.Proofs.Ytmidechdlbcepaa
open Go.ChangeShapes Go.WideShapes Go.ChangeAt Go.RowKit
set_option maxRecDepth 100000
theorem pipeMeans_readable : ∀ t ∈ Try.f3.params.toList, Try.prog.readableRec t = true ∧ t < Try.prog.types.size := of_decide_eq_true (by kernel_rfl)
theorem pipeMeans_contract (H : Type) (enc : TypeId × Value → H) (W : World) (base : Nat) (args : Array Value) (ds gs : List (DataW H)) (before : List MemPlace)
    (hval : ∀ (j : Nat) t v, Try.f3.params[j]? = some t → args[j]? = some v → Value.okWide Try.prog W .any base t v)
    (hW : DataW.Whole enc Try.prog Try.f3.params.toList Rows.pipeMeansSpec.vars false W args.toList ds gs before)
    (hsz : (DataW.weightsEach Try.prog (Try.f3.params.toList ++ Rows.pipeMeansSpec.plain.varTypes Try.prog) (ds ++ gs)).all (· ≤ reachBytes) = true) :
    Calls Try.prog 3 args W fun e W' => ∃ v, e = .returned v ∧ Rows.pipeMeansSpec.post enc Try.prog Try.f3 false true false false W args v W' := by
  have hW' := hW
  obtain ⟨p, q, hA, hV, rfl, hfz, hnd⟩ := hW
  rw [Try.params3] at hA hval
  obtain ⟨v0, vs0, d0, ds0, p0, q0, hargs0, rfl, rfl, h0, r0⟩ := trodAll_cons hA
  obtain ⟨v1, vs1, d1, ds1, p1, q1, hargs1, rfl, rfl, h1, r1⟩ := trodAll_cons r0
  obtain ⟨v2, vs2, d2, ds2, p2, q2, hargs2, rfl, rfl, h2, r2⟩ := trodAll_cons r1
  obtain ⟨v3, vs3, d3, ds3, p3, q3, hargs3, rfl, rfl, h3, r3⟩ := trodAll_cons r2
  obtain ⟨v4, vs4, d4, ds4, p4, q4, hargs4, rfl, rfl, h4, r4⟩ := trodAll_cons r3
  obtain ⟨v5, vs5, d5, ds5, p5, q5, hargs5, rfl, rfl, h5, r5⟩ := trodAll_cons r4
  obtain ⟨hnil, rfl, rfl⟩ := trodAll_nil r5
  subst hnil
  subst hargs1
  subst hargs2
  subst hargs3
  subst hargs4
  subst hargs5
  obtain rfl : args = #[v0, v1, v2, v3, v4, v5] := by cases args; simp_all
  obtain ⟨rfl, rfl⟩ := trodVars_none hV
  exact (pipeMeans_open W base (hval 0 _ _ rfl rfl) h0 (fun n hn => by have := List.all_eq_true.1 hsz n (weightsEach_mem (i := 0) (t := 26) rfl rfl n hn); simpa using this) (hval 1 _ _ rfl rfl) h1 (fun n hn => by have := List.all_eq_true.1 hsz n (weightsEach_mem (i := 1) (t := 3) rfl rfl n hn); simpa using this) (hval 2 _ _ rfl rfl) h2 (fun n hn => by have := List.all_eq_true.1 hsz n (weightsEach_mem (i := 2) (t := 3) rfl rfl n hn); simpa using this) (hval 3 _ _ rfl rfl) h3 (fun n hn => by have := List.all_eq_true.1 hsz n (weightsEach_mem (i := 3) (t := 28) rfl rfl n hn); simpa using this) (hval 4 _ _ rfl rfl) h4 (fun n hn => by have := List.all_eq_true.1 hsz n (weightsEach_mem (i := 4) (t := 3) rfl rfl n hn); simpa using this) (hval 5 _ _ rfl rfl) h5 (fun n hn => by have := List.all_eq_true.1 hsz n (weightsEach_mem (i := 5) (t := 3) rfl rfl n hn); simpa using this)).mono fun e W' ⟨he, hb⟩ => ⟨_, he, law_post laidOut Try.underlying4 rfl rfl pipeMeans_readable hW' rfl hb⟩

theorem pipeMeans_lifted (os : Os) (started : os.Started) (H : Type) (enc : TypeId × Value → H) :
    ReturnsInHanded {} Try.checked os 3 .any (Rows.pipeMeansSpec.pre6 enc Try.prog Try.f3 Rows.pipeMeansRow.domain false) (Rows.pipeMeansSpec.post enc Try.prog Try.f3 false true false false) := by
  refine returnsInHanded_of_change_sized (C := Try.checked) own started (by kernel_rfl) Try.func3
    (ChangeSpec.witness6 (enc := enc) (C := Try.checked) false ⟨#[], #[.agg #[.slice none 0 0, .slice none 0 0, .slice none 0 0], .int .i64 0, .int .i64 0, .agg #[.int .i64 0, .int .i64 0, .int .i64 0, .int .i64 0, .int .i64 0, .int .i64 0, .int .i64 0, .string ByteArray.empty], .int .i64 0, .int .i64 0], []⟩ 8 (by kernel_rfl) (by kernel_rfl) (by kernel_rfl) (by kernel_rfl)) ?_
  intro W base args ds gs before hval hW _ hsz _
  exact pipeMeans_contract H enc W base args ds gs before hval hW hsz

theorem pipeMeans_k1 : (Rows.pipeMeansRow.wf (OpenSpec.ofChange Rows.pipeMeansSpec)) = true := by kernel_rfl
theorem pipeMeans_k10 : (Rows.pipeMeansRow.inPlace == Try.prog.inPlace 3) = true := by kernel_rfl
theorem pipeMeans_k11 : (Rows.pipeMeansRow.unfollowed == Try.prog.unfollowed 3) = true := by kernel_rfl
theorem pipeMeans_k12 : (Rows.pipeMeansRow.recurses == Try.prog.recurses 3) = true := by kernel_rfl
theorem pipeMeans_k13 : (Rows.pipeMeansRow.named == Try.prog.varsNamed 3) = true := by kernel_rfl
theorem pipeMeans_k14 : (Rows.pipeMeansRow.maps == (Try.f3.params.toList ++ Rows.pipeMeansSpec.plain.varTypes Try.prog).any (Try.prog.mapsRec ·)) = true := by kernel_rfl
theorem pipeMeans_k15 : (Rows.pipeMeansRow.ifaces == (Try.f3.params.toList ++ Rows.pipeMeansSpec.plain.varTypes Try.prog).any (Try.prog.ifacesRec ·)) = true := by kernel_rfl
theorem pipeMeans_k17 : (Rows.pipeMeansRow.loops == (Try.f3.params.toList ++ Rows.pipeMeansSpec.plain.varTypes Try.prog).any (Try.prog.loopsFrom ·)) = true := by kernel_rfl
theorem pipeMeans_k17b : (Rows.pipeMeansRow.wideKeys == (Try.f3.params.toList ++ Rows.pipeMeansSpec.plain.varTypes Try.prog ++ Try.f3.resultTypes.toList).any (Try.prog.wideKeysFrom ·)) = true := by kernel_rfl
theorem pipeMeans_k24 : (Rows.pipeMeansRow.veiled == (Try.f3.params.toList ++ Rows.pipeMeansSpec.plain.varTypes Try.prog ++ Try.f3.resultTypes.toList).any (Try.prog.veiledRec ·)) = true := by kernel_rfl
theorem pipeMeans_k25 : (Rows.pipeMeansRow.veiledFits Try.prog Try.f3.params.toList (Try.f3.params.toList ++ Rows.pipeMeansSpec.plain.varTypes Try.prog ++ Try.f3.resultTypes.toList)) = true := by kernel_rfl
theorem pipeMeans_named : Try.checked.prog.funcNamed Rows.pipeMeansRow.func = some 3 := by kernel_rfl
theorem pipeMeans_facts : joinedFacts Try.prog 3 Try.f3 Rows.pipeMeansSpec Rows.pipeMeansRow = true :=
  facts_mk pipeMeans_k1 laidOut mapsRowed_ (by kernel_rfl) (by kernel_rfl) (by kernel_rfl) stops_ (by kernel_rfl) stopKnobs_ pipeMeans_k10 pipeMeans_k11 pipeMeans_k12 pipeMeans_k13 pipeMeans_k14 pipeMeans_k15 (by kernel_rfl) pipeMeans_k17 pipeMeans_k17b
    (by kernel_rfl) (by kernel_rfl) (by kernel_rfl) (by kernel_rfl) plainKeys_ (by kernel_rfl) stopsHeard_ mayEnter_ liftsFinal_ make_ (by kernel_rfl) (by kernel_rfl) pipeMeans_k24 pipeMeans_k25
theorem pipeMeans_instance : Try.f3.isInstance Try.prog Rows.pipeMeansRow.origin Rows.pipeMeansRow.targs := of_decide_eq_true (by kernel_rfl)
theorem pipeMeans_wrapper : Try.f3.isWrapper Try.prog Rows.pipeMeansRow.wrapper Rows.pipeMeansRow.mainSum := by unfold Func.isWrapper; rw [if_neg (of_decide_eq_false (by kernel_rfl))]; exact ⟨rfl, rfl⟩

theorem pipeMeans_holds : Rows.PipeMeansSaid :=
  OpenClaim.holds_of_wide 3 Try.f3 rfl rfl rfl rfl rfl rfl rfl ⟨rfl, rfl, rfl, rfl, rfl⟩ rfl rfl rfl rfl rfl pipeMeans_named Try.func3 pipeMeans_facts pipeMeans_instance pipeMeans_wrapper
    (fun os started H enc _ => pipeMeans_lifted os started H enc)
#print axioms pipeMeans_holds
end Go.Proofs.Ytmidechdlbcepaa
