/- PipesSteady: the law returns true at every input, and its arguments read as before. Conditions: none. -/
import Derived.Test.YtmidechdlbcepaaPack32
import Derived.Test.YtmidechdlbcepaaPack04
import Derived.Test.YtmidechdlbcepaaPack09
set_option linter.unusedSimpArgs false
set_option linter.unusedVariables false
namespace Go.Proofs.Ytmidechdlbcepaa
open Go.ChangeShapes Go.WideShapes Go.ChangeAt Go.RowKit
set_option maxRecDepth 100000
theorem pipesSteady_readable : ∀ t ∈ Try.f4.params.toList, Try.prog.readableRec t = true ∧ t < Try.prog.types.size := of_decide_eq_true (by kernel_rfl)
theorem pipesSteady_contract (H : Type) (enc : TypeId × Value → H) (W : World) (base : Nat) (args : Array Value) (ds gs : List (DataW H)) (before : List MemPlace)
    (hval : ∀ (j : Nat) t v, Try.f4.params[j]? = some t → args[j]? = some v → Value.okWide Try.prog W .any base t v)
    (hW : DataW.Whole enc Try.prog Try.f4.params.toList Rows.pipesSteadySpec.vars false W args.toList ds gs before)
    (hsz : (DataW.weightsEach Try.prog (Try.f4.params.toList ++ Rows.pipesSteadySpec.plain.varTypes Try.prog) (ds ++ gs)).all (· ≤ reachBytes) = true) :
    Calls Try.prog 4 args W fun e W' => ∃ v, e = .returned v ∧ Rows.pipesSteadySpec.post enc Try.prog Try.f4 false true false false W args v W' := by
  have hW' := hW
  obtain ⟨p, q, hA, hV, rfl, hfz, hnd⟩ := hW
  rw [Try.params4] at hA hval
  obtain ⟨v0, vs0, d0, ds0, p0, q0, hargs0, rfl, rfl, h0, r0⟩ := trodAll_cons hA
  obtain ⟨v1, vs1, d1, ds1, p1, q1, hargs1, rfl, rfl, h1, r1⟩ := trodAll_cons r0
  obtain ⟨v2, vs2, d2, ds2, p2, q2, hargs2, rfl, rfl, h2, r2⟩ := trodAll_cons r1
  obtain ⟨v3, vs3, d3, ds3, p3, q3, hargs3, rfl, rfl, h3, r3⟩ := trodAll_cons r2
  obtain ⟨hnil, rfl, rfl⟩ := trodAll_nil r3
  subst hnil
  subst hargs1
  subst hargs2
  subst hargs3
  obtain rfl : args = #[v0, v1, v2, v3] := by cases args; simp_all
  obtain ⟨rfl, rfl⟩ := trodVars_none hV
  exact (pipesSteady_open W base (hval 0 _ _ rfl rfl) h0 (fun n hn => by have := List.all_eq_true.1 hsz n (weightsEach_mem (i := 0) (t := 42) rfl rfl n hn); simpa using this) (hval 1 _ _ rfl rfl) h1 (fun n hn => by have := List.all_eq_true.1 hsz n (weightsEach_mem (i := 1) (t := 44) rfl rfl n hn); simpa using this) (hval 2 _ _ rfl rfl) h2 (fun n hn => by have := List.all_eq_true.1 hsz n (weightsEach_mem (i := 2) (t := 9) rfl rfl n hn); simpa using this) (hval 3 _ _ rfl rfl) h3 (fun n hn => by have := List.all_eq_true.1 hsz n (weightsEach_mem (i := 3) (t := 3) rfl rfl n hn); simpa using this)).mono fun e W' ⟨he, hb⟩ => ⟨_, he, law_post laidOut Try.underlying4 rfl rfl pipesSteady_readable hW' rfl hb⟩

theorem pipesSteady_lifted (os : Os) (started : os.Started) (H : Type) (enc : TypeId × Value → H) :
    ReturnsInHanded {} Try.checked os 4 .any (Rows.pipesSteadySpec.pre6 enc Try.prog Try.f4 Rows.pipesSteadyRow.domain false) (Rows.pipesSteadySpec.post enc Try.prog Try.f4 false true false false) := by
  refine returnsInHanded_of_change_sized (C := Try.checked) own started (by kernel_rfl) Try.func4
    (ChangeSpec.witness6 (enc := enc) (C := Try.checked) false ⟨#[], #[.slice none 0 0, .agg #[.int .i64 0, .int .i64 0, .int .i64 0, .int .i64 0], .string ByteArray.empty, .int .i64 0], []⟩ 8 (by kernel_rfl) (by kernel_rfl) (by kernel_rfl) (by kernel_rfl)) ?_
  intro W base args ds gs before hval hW _ hsz _
  exact pipesSteady_contract H enc W base args ds gs before hval hW hsz

theorem pipesSteady_k1 : (Rows.pipesSteadyRow.wf (OpenSpec.ofChange Rows.pipesSteadySpec)) = true := by kernel_rfl
theorem pipesSteady_k10 : (Rows.pipesSteadyRow.inPlace == Try.prog.inPlace 4) = true := by kernel_rfl
theorem pipesSteady_k11 : (Rows.pipesSteadyRow.unfollowed == Try.prog.unfollowed 4) = true := by kernel_rfl
theorem pipesSteady_k12 : (Rows.pipesSteadyRow.recurses == Try.prog.recurses 4) = true := by kernel_rfl
theorem pipesSteady_k13 : (Rows.pipesSteadyRow.named == Try.prog.varsNamed 4) = true := by kernel_rfl
theorem pipesSteady_k14 : (Rows.pipesSteadyRow.maps == (Try.f4.params.toList ++ Rows.pipesSteadySpec.plain.varTypes Try.prog).any (Try.prog.mapsRec ·)) = true := by kernel_rfl
theorem pipesSteady_k15 : (Rows.pipesSteadyRow.ifaces == (Try.f4.params.toList ++ Rows.pipesSteadySpec.plain.varTypes Try.prog).any (Try.prog.ifacesRec ·)) = true := by kernel_rfl
theorem pipesSteady_k17 : (Rows.pipesSteadyRow.loops == (Try.f4.params.toList ++ Rows.pipesSteadySpec.plain.varTypes Try.prog).any (Try.prog.loopsFrom ·)) = true := by kernel_rfl
theorem pipesSteady_k17b : (Rows.pipesSteadyRow.wideKeys == (Try.f4.params.toList ++ Rows.pipesSteadySpec.plain.varTypes Try.prog ++ Try.f4.resultTypes.toList).any (Try.prog.wideKeysFrom ·)) = true := by kernel_rfl
theorem pipesSteady_k24 : (Rows.pipesSteadyRow.veiled == (Try.f4.params.toList ++ Rows.pipesSteadySpec.plain.varTypes Try.prog ++ Try.f4.resultTypes.toList).any (Try.prog.veiledRec ·)) = true := by kernel_rfl
theorem pipesSteady_k25 : (Rows.pipesSteadyRow.veiledFits Try.prog Try.f4.params.toList (Try.f4.params.toList ++ Rows.pipesSteadySpec.plain.varTypes Try.prog ++ Try.f4.resultTypes.toList)) = true := by kernel_rfl
theorem pipesSteady_named : Try.checked.prog.funcNamed Rows.pipesSteadyRow.func = some 4 := by kernel_rfl
theorem pipesSteady_facts : joinedFacts Try.prog 4 Try.f4 Rows.pipesSteadySpec Rows.pipesSteadyRow = true :=
  facts_mk pipesSteady_k1 laidOut mapsRowed_ (by kernel_rfl) (by kernel_rfl) (by kernel_rfl) stops_ (by kernel_rfl) stopKnobs_ pipesSteady_k10 pipesSteady_k11 pipesSteady_k12 pipesSteady_k13 pipesSteady_k14 pipesSteady_k15 (by kernel_rfl) pipesSteady_k17 pipesSteady_k17b
    (by kernel_rfl) (by kernel_rfl) (by kernel_rfl) (by kernel_rfl) plainKeys_ (by kernel_rfl) stopsHeard_ mayEnter_ liftsFinal_ make_ (by kernel_rfl) (by kernel_rfl) pipesSteady_k24 pipesSteady_k25
theorem pipesSteady_instance : Try.f4.isInstance Try.prog Rows.pipesSteadyRow.origin Rows.pipesSteadyRow.targs := of_decide_eq_true (by kernel_rfl)
theorem pipesSteady_wrapper : Try.f4.isWrapper Try.prog Rows.pipesSteadyRow.wrapper Rows.pipesSteadyRow.mainSum := by unfold Func.isWrapper; rw [if_neg (of_decide_eq_false (by kernel_rfl))]; exact ⟨rfl, rfl⟩

theorem pipesSteady_holds : Rows.PipesSteadySaid :=
  OpenClaim.holds_of_wide 4 Try.f4 rfl rfl rfl rfl rfl rfl rfl ⟨rfl, rfl, rfl, rfl, rfl⟩ rfl rfl rfl rfl rfl pipesSteady_named Try.func4 pipesSteady_facts pipesSteady_instance pipesSteady_wrapper
    (fun os started H enc _ => pipesSteady_lifted os started H enc)
#print axioms pipesSteady_holds
end Go.Proofs.Ytmidechdlbcepaa
