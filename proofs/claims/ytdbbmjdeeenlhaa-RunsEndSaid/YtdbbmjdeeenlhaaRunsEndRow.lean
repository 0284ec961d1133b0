/- RunsEnd: the law returns true at every input, and its arguments read as before. Conditions: none. -/
import Derived.Test.YtdbbmjdeeenlhaaRunsEnd
import Derived.Test.YtdbbmjdeeenlhaaFrame
import Derived.Test.YtdbbmjdeeenlhaaRead
namespace Go.Proofs.Ytdbbmjdeeenlhaa
open Go.ChangeShapes Go.WideShapes Go.ChangeAt Go.RowKit
set_option maxRecDepth 100000
theorem runsEnd_readable : ∀ t ∈ Try.f3.params.toList, Try.prog.readableRec t = true ∧ t < Try.prog.types.size := of_decide_eq_true (by kernel_rfl)
theorem runsEnd_contract (H : Type) (enc : TypeId × Value → H) (W : World) (base : Nat) (args : Array Value) (ds gs : List (DataW H)) (before : List MemPlace)
    (hval : ∀ (j : Nat) t v, Try.f3.params[j]? = some t → args[j]? = some v → Value.okWide Try.prog W .any base t v)
    (hW : DataW.Whole enc Try.prog Try.f3.params.toList Rows.runsEndSpec.vars false W args.toList ds gs before) :
    Calls Try.prog 3 args W fun e W' => ∃ v, e = .returned v ∧ Rows.runsEndSpec.post enc Try.prog Try.f3 false true false false W args v W' := by
  have hW' := hW
  obtain ⟨p, q, hA, hV, rfl, hfz, hnd⟩ := hW
  rw [Try.params3] at hA hval
  obtain ⟨v0, vs0, d0, ds0, p0, q0, hargs0, rfl, rfl, h0, r0⟩ := trodAll_cons hA
  obtain ⟨hnil, rfl, rfl⟩ := trodAll_nil r0
  subst hnil
  obtain rfl : args = #[v0] := by cases args; simp_all
  obtain ⟨rfl, rfl⟩ := trodVars_none hV
  exact (runsEnd_open W base (hval 0 _ _ rfl rfl) h0).mono fun e W' ⟨he, hb⟩ => ⟨_, he, law_post laidOut Try.underlying4 rfl rfl runsEnd_readable hW' rfl hb⟩

theorem runsEnd_lifted (os : Os) (started : os.Started) (H : Type) (enc : TypeId × Value → H) :
    ReturnsInHanded {} Try.checked os 3 .any (Rows.runsEndSpec.pre6 enc Try.prog Try.f3 Rows.runsEndRow.domain false) (Rows.runsEndSpec.post enc Try.prog Try.f3 false true false false) := by
  refine returnsInHanded_of_change (C := Try.checked) own started (by kernel_rfl) Try.func3
    (ChangeSpec.witness6 (enc := enc) (C := Try.checked) false ⟨#[], #[.int .i64 0], []⟩ 8 (by kernel_rfl) (by kernel_rfl) (by kernel_rfl) (by kernel_rfl)) ?_
  intro W base args ds gs before hval hW _ _
  exact runsEnd_contract H enc W base args ds gs before hval hW

theorem runsEnd_k1 : (Rows.runsEndRow.wf (OpenSpec.ofChange Rows.runsEndSpec)) = true := by kernel_rfl
theorem runsEnd_k10 : (Rows.runsEndRow.inPlace == Try.prog.inPlace 3) = true := by kernel_rfl
theorem runsEnd_k11 : (Rows.runsEndRow.unfollowed == Try.prog.unfollowed 3) = true := by kernel_rfl
theorem runsEnd_k12 : (Rows.runsEndRow.recurses == Try.prog.recurses 3) = true := by kernel_rfl
theorem runsEnd_k13 : (Rows.runsEndRow.named == Try.prog.varsNamed 3) = true := by kernel_rfl
theorem runsEnd_k14 : (Rows.runsEndRow.maps == (Try.f3.params.toList ++ Rows.runsEndSpec.plain.varTypes Try.prog).any (Try.prog.mapsRec ·)) = true := by kernel_rfl
theorem runsEnd_k15 : (Rows.runsEndRow.ifaces == (Try.f3.params.toList ++ Rows.runsEndSpec.plain.varTypes Try.prog).any (Try.prog.ifacesRec ·)) = true := by kernel_rfl
theorem runsEnd_k17 : (Rows.runsEndRow.loops == (Try.f3.params.toList ++ Rows.runsEndSpec.plain.varTypes Try.prog).any (Try.prog.loopsFrom ·)) = true := by kernel_rfl
theorem runsEnd_k17b : (Rows.runsEndRow.wideKeys == (Try.f3.params.toList ++ Rows.runsEndSpec.plain.varTypes Try.prog ++ Try.f3.resultTypes.toList).any (Try.prog.wideKeysFrom ·)) = true := by kernel_rfl
theorem runsEnd_k24 : (Rows.runsEndRow.veiled == (Try.f3.params.toList ++ Rows.runsEndSpec.plain.varTypes Try.prog ++ Try.f3.resultTypes.toList).any (Try.prog.veiledRec ·)) = true := by kernel_rfl
theorem runsEnd_k25 : (Rows.runsEndRow.veiledFits Try.prog Try.f3.params.toList (Try.f3.params.toList ++ Rows.runsEndSpec.plain.varTypes Try.prog ++ Try.f3.resultTypes.toList)) = true := by kernel_rfl
theorem runsEnd_named : Try.checked.prog.funcNamed Rows.runsEndRow.func = some 3 := by kernel_rfl
theorem runsEnd_facts : joinedFacts Try.prog 3 Try.f3 Rows.runsEndSpec Rows.runsEndRow = true :=
  facts_mk runsEnd_k1 laidOut mapsRowed_ (by kernel_rfl) (by kernel_rfl) (by kernel_rfl) stops_ (by kernel_rfl) stopKnobs_ runsEnd_k10 runsEnd_k11 runsEnd_k12 runsEnd_k13 runsEnd_k14 runsEnd_k15 (by kernel_rfl) runsEnd_k17 runsEnd_k17b
    (by kernel_rfl) (by kernel_rfl) (by kernel_rfl) (by kernel_rfl) plainKeys_ (by kernel_rfl) stopsHeard_ mayEnter_ liftsFinal_ make_ (by kernel_rfl) (by kernel_rfl) runsEnd_k24 runsEnd_k25
theorem runsEnd_instance : Try.f3.isInstance Try.prog Rows.runsEndRow.origin Rows.runsEndRow.targs := of_decide_eq_true (by kernel_rfl)
theorem runsEnd_wrapper : Try.f3.isWrapper Try.prog Rows.runsEndRow.wrapper Rows.runsEndRow.mainSum := by unfold Func.isWrapper; rw [if_neg (of_decide_eq_false (by kernel_rfl))]; exact ⟨rfl, rfl⟩

theorem runsEnd_holds : Rows.RunsEndSaid :=
  OpenClaim.holds_of_wide 3 Try.f3 rfl rfl rfl rfl rfl rfl rfl ⟨rfl, rfl, rfl, rfl, rfl⟩ rfl rfl rfl rfl rfl runsEnd_named Try.func3 runsEnd_facts runsEnd_instance runsEnd_wrapper
    (fun os started H enc _ => runsEnd_lifted os started H enc)
#print axioms runsEnd_holds
end Go.Proofs.Ytdbbmjdeeenlhaa
