/- ConfsTwice: the law returns true at every input, and its arguments read as before. Conditions: none. -/
import Derived.Test.YtdbbmjdeeenlhaaPack28
import Derived.Test.YtdbbmjdeeenlhaaPack03
import Derived.Test.YtdbbmjdeeenlhaaPack08
set_option linter.unusedSimpArgs false
set_option linter.unusedVariables false
namespace Go.Proofs.Ytdbbmjdeeenlhaa
open Go.ChangeShapes Go.WideShapes Go.ChangeAt Go.RowKit
set_option maxRecDepth 100000
theorem confsTwice_readable : ∀ t ∈ Try.f7.params.toList, Try.prog.readableRec t = true ∧ t < Try.prog.types.size := of_decide_eq_true (by kernel_rfl)
theorem confsTwice_contract (H : Type) (enc : TypeId × Value → H) (W : World) (base : Nat) (args : Array Value) (ds gs : List (DataW H)) (before : List MemPlace)
    (hval : ∀ (j : Nat) t v, Try.f7.params[j]? = some t → args[j]? = some v → Value.okWide Try.prog W .any base t v)
    (hW : DataW.Whole enc Try.prog Try.f7.params.toList Rows.confsTwiceSpec.vars false W args.toList ds gs before)
    (hsz : (DataW.weightsEach Try.prog (Try.f7.params.toList ++ Rows.confsTwiceSpec.plain.varTypes Try.prog) (ds ++ gs)).all (· ≤ reachBytes) = true) :
    Calls Try.prog 7 args W fun e W' => ∃ v, e = .returned v ∧ Rows.confsTwiceSpec.post enc Try.prog Try.f7 false true false false W args v W' := by
  have hW' := hW
  obtain ⟨p, q, hA, hV, rfl, hfz, hnd⟩ := hW
  rw [Try.params7] at hA hval
  obtain ⟨v0, vs0, d0, ds0, p0, q0, hargs0, rfl, rfl, h0, r0⟩ := trodAll_cons hA
  obtain ⟨v1, vs1, d1, ds1, p1, q1, hargs1, rfl, rfl, h1, r1⟩ := trodAll_cons r0
  obtain ⟨hnil, rfl, rfl⟩ := trodAll_nil r1
  subst hnil
  subst hargs1
  obtain rfl : args = #[v0, v1] := by cases args; simp_all
  obtain ⟨rfl, rfl⟩ := trodVars_none hV
  exact (confsTwice_open W base (hval 0 _ _ rfl rfl) h0 (fun n hn => by have := List.all_eq_true.1 hsz n (weightsEach_mem (i := 0) (t := 40) rfl rfl n hn); simpa using this) (hval 1 _ _ rfl rfl) h1 (fun n hn => by have := List.all_eq_true.1 hsz n (weightsEach_mem (i := 1) (t := 3) rfl rfl n hn); simpa using this)).mono fun e W' ⟨he, hb⟩ => ⟨_, he, law_post laidOut Try.underlying4 rfl rfl confsTwice_readable hW' rfl hb⟩

theorem confsTwice_lifted (os : Os) (started : os.Started) (H : Type) (enc : TypeId × Value → H) :
    ReturnsInHanded {} Try.checked os 7 .any (Rows.confsTwiceSpec.pre6 enc Try.prog Try.f7 Rows.confsTwiceRow.domain false) (Rows.confsTwiceSpec.post enc Try.prog Try.f7 false true false false) := by
  refine returnsInHanded_of_change_sized (C := Try.checked) own started (by kernel_rfl) Try.func7
    (ChangeSpec.witness6 (enc := enc) (C := Try.checked) false ⟨#[], #[.slice none 0 0, .int .i64 0], []⟩ 8 (by kernel_rfl) (by kernel_rfl) (by kernel_rfl) (by kernel_rfl)) ?_
  intro W base args ds gs before hval hW _ hsz _
  exact confsTwice_contract H enc W base args ds gs before hval hW hsz

theorem confsTwice_k1 : (Rows.confsTwiceRow.wf (OpenSpec.ofChange Rows.confsTwiceSpec)) = true := by kernel_rfl
theorem confsTwice_k10 : (Rows.confsTwiceRow.inPlace == Try.prog.inPlace 7) = true := by kernel_rfl
theorem confsTwice_k11 : (Rows.confsTwiceRow.unfollowed == Try.prog.unfollowed 7) = true := by kernel_rfl
theorem confsTwice_k12 : (Rows.confsTwiceRow.recurses == Try.prog.recurses 7) = true := by kernel_rfl
theorem confsTwice_k13 : (Rows.confsTwiceRow.named == Try.prog.varsNamed 7) = true := by kernel_rfl
theorem confsTwice_k14 : (Rows.confsTwiceRow.maps == (Try.f7.params.toList ++ Rows.confsTwiceSpec.plain.varTypes Try.prog).any (Try.prog.mapsRec ·)) = true := by kernel_rfl
theorem confsTwice_k15 : (Rows.confsTwiceRow.ifaces == (Try.f7.params.toList ++ Rows.confsTwiceSpec.plain.varTypes Try.prog).any (Try.prog.ifacesRec ·)) = true := by kernel_rfl
theorem confsTwice_k17 : (Rows.confsTwiceRow.loops == (Try.f7.params.toList ++ Rows.confsTwiceSpec.plain.varTypes Try.prog).any (Try.prog.loopsFrom ·)) = true := by kernel_rfl
theorem confsTwice_k17b : (Rows.confsTwiceRow.wideKeys == (Try.f7.params.toList ++ Rows.confsTwiceSpec.plain.varTypes Try.prog ++ Try.f7.resultTypes.toList).any (Try.prog.wideKeysFrom ·)) = true := by kernel_rfl
theorem confsTwice_k24 : (Rows.confsTwiceRow.veiled == (Try.f7.params.toList ++ Rows.confsTwiceSpec.plain.varTypes Try.prog ++ Try.f7.resultTypes.toList).any (Try.prog.veiledRec ·)) = true := by kernel_rfl
theorem confsTwice_k25 : (Rows.confsTwiceRow.veiledFits Try.prog Try.f7.params.toList (Try.f7.params.toList ++ Rows.confsTwiceSpec.plain.varTypes Try.prog ++ Try.f7.resultTypes.toList)) = true := by kernel_rfl
theorem confsTwice_named : Try.checked.prog.funcNamed Rows.confsTwiceRow.func = some 7 := by kernel_rfl
theorem confsTwice_facts : joinedFacts Try.prog 7 Try.f7 Rows.confsTwiceSpec Rows.confsTwiceRow = true :=
  facts_mk confsTwice_k1 laidOut mapsRowed_ (by kernel_rfl) (by kernel_rfl) (by kernel_rfl) stops_ (by kernel_rfl) stopKnobs_ confsTwice_k10 confsTwice_k11 confsTwice_k12 confsTwice_k13 confsTwice_k14 confsTwice_k15 (by kernel_rfl) confsTwice_k17 confsTwice_k17b
    (by kernel_rfl) (by kernel_rfl) (by kernel_rfl) (by kernel_rfl) plainKeys_ (by kernel_rfl) stopsHeard_ mayEnter_ liftsFinal_ make_ (by kernel_rfl) (by kernel_rfl) confsTwice_k24 confsTwice_k25
theorem confsTwice_instance : Try.f7.isInstance Try.prog Rows.confsTwiceRow.origin Rows.confsTwiceRow.targs := of_decide_eq_true (by kernel_rfl)
theorem confsTwice_wrapper : Try.f7.isWrapper Try.prog Rows.confsTwiceRow.wrapper Rows.confsTwiceRow.mainSum := by unfold Func.isWrapper; rw [if_neg (of_decide_eq_false (by kernel_rfl))]; exact ⟨rfl, rfl⟩

theorem confsTwice_holds : Rows.ConfsTwiceSaid :=
  OpenClaim.holds_of_wide 7 Try.f7 rfl rfl rfl rfl rfl rfl rfl ⟨rfl, rfl, rfl, rfl, rfl⟩ rfl rfl rfl rfl rfl confsTwice_named Try.func7 confsTwice_facts confsTwice_instance confsTwice_wrapper
    (fun os started H enc _ => confsTwice_lifted os started H enc)
#print axioms confsTwice_holds
end Go.Proofs.Ytdbbmjdeeenlhaa
