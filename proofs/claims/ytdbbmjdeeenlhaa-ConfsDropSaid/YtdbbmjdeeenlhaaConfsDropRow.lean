/- ConfsDrop: the law returns true at every input, and its arguments read as before. Conditions: none. -/
import Derived.Test.YtdbbmjdeeenlhaaPack32
import Derived.Test.YtdbbmjdeeenlhaaPack04
import Derived.Test.YtdbbmjdeeenlhaaPack09
set_option linter.unusedSimpArgs false
set_option linter.unusedVariables false
namespace Go.Proofs.Ytdbbmjdeeenlhaa
open Go.ChangeShapes Go.WideShapes Go.ChangeAt Go.RowKit
set_option maxRecDepth 100000
theorem confsDrop_readable : ∀ t ∈ Try.f14.params.toList, Try.prog.readableRec t = true ∧ t < Try.prog.types.size := of_decide_eq_true (by kernel_rfl)
theorem confsDrop_contract (H : Type) (enc : TypeId × Value → H) (W : World) (base : Nat) (args : Array Value) (ds gs : List (DataW H)) (before : List MemPlace)
    (hval : ∀ (j : Nat) t v, Try.f14.params[j]? = some t → args[j]? = some v → Value.okWide Try.prog W .any base t v)
    (hW : DataW.Whole enc Try.prog Try.f14.params.toList Rows.confsDropSpec.vars false W args.toList ds gs before)
    (hsz : (DataW.weightsEach Try.prog (Try.f14.params.toList ++ Rows.confsDropSpec.plain.varTypes Try.prog) (ds ++ gs)).all (· ≤ reachBytes) = true) :
    Calls Try.prog 14 args W fun e W' => ∃ v, e = .returned v ∧ Rows.confsDropSpec.post enc Try.prog Try.f14 false true false false W args v W' := by
  have hW' := hW
  obtain ⟨p, q, hA, hV, rfl, hfz, hnd⟩ := hW
  rw [Try.params14] at hA hval
  obtain ⟨v0, vs0, d0, ds0, p0, q0, hargs0, rfl, rfl, h0, r0⟩ := trodAll_cons hA
  obtain ⟨v1, vs1, d1, ds1, p1, q1, hargs1, rfl, rfl, h1, r1⟩ := trodAll_cons r0
  obtain ⟨v2, vs2, d2, ds2, p2, q2, hargs2, rfl, rfl, h2, r2⟩ := trodAll_cons r1
  obtain ⟨hnil, rfl, rfl⟩ := trodAll_nil r2
  subst hnil
  subst hargs1
  subst hargs2
  obtain rfl : args = #[v0, v1, v2] := by cases args; simp_all
  obtain ⟨rfl, rfl⟩ := trodVars_none hV
  exact (confsDrop_open W base (hval 0 _ _ rfl rfl) h0 (fun n hn => by have := List.all_eq_true.1 hsz n (weightsEach_mem (i := 0) (t := 40) rfl rfl n hn); simpa using this) (hval 1 _ _ rfl rfl) h1 (fun n hn => by have := List.all_eq_true.1 hsz n (weightsEach_mem (i := 1) (t := 3) rfl rfl n hn); simpa using this) (hval 2 _ _ rfl rfl) h2 (fun n hn => by have := List.all_eq_true.1 hsz n (weightsEach_mem (i := 2) (t := 3) rfl rfl n hn); simpa using this)).mono fun e W' ⟨he, hb⟩ => ⟨_, he, law_post laidOut Try.underlying4 rfl rfl confsDrop_readable hW' rfl hb⟩

theorem confsDrop_lifted (os : Os) (started : os.Started) (H : Type) (enc : TypeId × Value → H) :
    ReturnsInHanded {} Try.checked os 14 .any (Rows.confsDropSpec.pre6 enc Try.prog Try.f14 Rows.confsDropRow.domain false) (Rows.confsDropSpec.post enc Try.prog Try.f14 false true false false) := by
  refine returnsInHanded_of_change_sized (C := Try.checked) own started (by kernel_rfl) Try.func14
    (ChangeSpec.witness6 (enc := enc) (C := Try.checked) false ⟨#[], #[.slice none 0 0, .int .i64 0, .int .i64 0], []⟩ 8 (by kernel_rfl) (by kernel_rfl) (by kernel_rfl) (by kernel_rfl)) ?_
  intro W base args ds gs before hval hW _ hsz _
  exact confsDrop_contract H enc W base args ds gs before hval hW hsz

theorem confsDrop_k1 : (Rows.confsDropRow.wf (OpenSpec.ofChange Rows.confsDropSpec)) = true := by kernel_rfl
theorem confsDrop_k10 : (Rows.confsDropRow.inPlace == Try.prog.inPlace 14) = true := by kernel_rfl
theorem confsDrop_k11 : (Rows.confsDropRow.unfollowed == Try.prog.unfollowed 14) = true := by kernel_rfl
theorem confsDrop_k12 : (Rows.confsDropRow.recurses == Try.prog.recurses 14) = true := by kernel_rfl
theorem confsDrop_k13 : (Rows.confsDropRow.named == Try.prog.varsNamed 14) = true := by kernel_rfl
theorem confsDrop_k14 : (Rows.confsDropRow.maps == (Try.f14.params.toList ++ Rows.confsDropSpec.plain.varTypes Try.prog).any (Try.prog.mapsRec ·)) = true := by kernel_rfl
theorem confsDrop_k15 : (Rows.confsDropRow.ifaces == (Try.f14.params.toList ++ Rows.confsDropSpec.plain.varTypes Try.prog).any (Try.prog.ifacesRec ·)) = true := by kernel_rfl
theorem confsDrop_k17 : (Rows.confsDropRow.loops == (Try.f14.params.toList ++ Rows.confsDropSpec.plain.varTypes Try.prog).any (Try.prog.loopsFrom ·)) = true := by kernel_rfl
theorem confsDrop_k17b : (Rows.confsDropRow.wideKeys == (Try.f14.params.toList ++ Rows.confsDropSpec.plain.varTypes Try.prog ++ Try.f14.resultTypes.toList).any (Try.prog.wideKeysFrom ·)) = true := by kernel_rfl
theorem confsDrop_k24 : (Rows.confsDropRow.veiled == (Try.f14.params.toList ++ Rows.confsDropSpec.plain.varTypes Try.prog ++ Try.f14.resultTypes.toList).any (Try.prog.veiledRec ·)) = true := by kernel_rfl
theorem confsDrop_k25 : (Rows.confsDropRow.veiledFits Try.prog Try.f14.params.toList (Try.f14.params.toList ++ Rows.confsDropSpec.plain.varTypes Try.prog ++ Try.f14.resultTypes.toList)) = true := by kernel_rfl
theorem confsDrop_named : Try.checked.prog.funcNamed Rows.confsDropRow.func = some 14 := by kernel_rfl
theorem confsDrop_facts : joinedFacts Try.prog 14 Try.f14 Rows.confsDropSpec Rows.confsDropRow = true :=
  facts_mk confsDrop_k1 laidOut mapsRowed_ (by kernel_rfl) (by kernel_rfl) (by kernel_rfl) stops_ (by kernel_rfl) stopKnobs_ confsDrop_k10 confsDrop_k11 confsDrop_k12 confsDrop_k13 confsDrop_k14 confsDrop_k15 (by kernel_rfl) confsDrop_k17 confsDrop_k17b
    (by kernel_rfl) (by kernel_rfl) (by kernel_rfl) (by kernel_rfl) plainKeys_ (by kernel_rfl) stopsHeard_ mayEnter_ liftsFinal_ make_ (by kernel_rfl) (by kernel_rfl) confsDrop_k24 confsDrop_k25
theorem confsDrop_instance : Try.f14.isInstance Try.prog Rows.confsDropRow.origin Rows.confsDropRow.targs := of_decide_eq_true (by kernel_rfl)
theorem confsDrop_wrapper : Try.f14.isWrapper Try.prog Rows.confsDropRow.wrapper Rows.confsDropRow.mainSum := by unfold Func.isWrapper; rw [if_neg (of_decide_eq_false (by kernel_rfl))]; exact ⟨rfl, rfl⟩

theorem confsDrop_holds : Rows.ConfsDropSaid :=
  OpenClaim.holds_of_wide 14 Try.f14 rfl rfl rfl rfl rfl rfl rfl ⟨rfl, rfl, rfl, rfl, rfl⟩ rfl rfl rfl rfl rfl confsDrop_named Try.func14 confsDrop_facts confsDrop_instance confsDrop_wrapper
    (fun os started H enc _ => confsDrop_lifted os started H enc)
#print axioms confsDrop_holds
end Go.Proofs.Ytdbbmjdeeenlhaa
