/- AsksAnswered: the law returns true at every input, and its arguments read as before. Conditions: none. -/
import Derived.Test.YtmidechdlbcepaaGreatPack34
import Derived.Test.YtmidechdlbcepaaGreatPack04
import Derived.Test.YtmidechdlbcepaaGreatPack08
set_option linter.unusedSimpArgs false
set_option linter.unusedVariables false
namespace Go.Proofs.YtmidechdlbcepaaGreat
open Go.ChangeShapes Go.WideShapes Go.ChangeAt Go.RowKit
set_option maxRecDepth 100000
theorem asksAnswered_readable : ∀ t ∈ Tryz.f7.params.toList, Tryz.prog.readableRec t = true ∧ t < Tryz.prog.types.size := of_decide_eq_true (by kernel_rfl)
theorem asksAnswered_contract (H : Type) (enc : TypeId × Value → H) (W : World) (base : Nat) (args : Array Value) (ds gs : List (DataW H)) (before : List MemPlace)
    (hval : ∀ (j : Nat) t v, Tryz.f7.params[j]? = some t → args[j]? = some v → Value.okWide Tryz.prog W .any base t v)
    (hW : DataW.Whole enc Tryz.prog Tryz.f7.params.toList Rows.asksAnsweredSpec.vars false W args.toList ds gs before) :
    Calls Tryz.prog 7 args W fun e W' => ∃ v, e = .returned v ∧ Rows.asksAnsweredSpec.post enc Tryz.prog Tryz.f7 false true false false W args v W' := by
  have hW' := hW
  obtain ⟨p, q, hA, hV, rfl, hfz, hnd⟩ := hW
  rw [Tryz.params7] at hA hval
  obtain ⟨v0, vs0, d0, ds0, p0, q0, hargs0, rfl, rfl, h0, r0⟩ := trodAll_cons hA
  obtain ⟨v1, vs1, d1, ds1, p1, q1, hargs1, rfl, rfl, h1, r1⟩ := trodAll_cons r0
  obtain ⟨hnil, rfl, rfl⟩ := trodAll_nil r1
  subst hnil
  subst hargs1
  obtain rfl : args = #[v0, v1] := by cases args; simp_all
  obtain ⟨rfl, rfl⟩ := trodVars_none hV
  exact (asksAnswered_open W base (hval 0 _ _ rfl rfl) h0 (hval 1 _ _ rfl rfl) h1).mono fun e W' ⟨he, hb⟩ => ⟨_, he, law_post laidOut Tryz.underlying4 rfl rfl asksAnswered_readable hW' rfl hb⟩

theorem asksAnswered_lifted (os : Os) (started : os.Started) (H : Type) (enc : TypeId × Value → H) :
    ReturnsInHanded {} Tryz.checked os 7 .any (Rows.asksAnsweredSpec.pre6 enc Tryz.prog Tryz.f7 Rows.asksAnsweredRow.domain false) (Rows.asksAnsweredSpec.post enc Tryz.prog Tryz.f7 false true false false) := by
  refine returnsInHanded_of_change (C := Tryz.checked) own started (by kernel_rfl) Tryz.func7
    (ChangeSpec.witness6 (enc := enc) (C := Tryz.checked) false ⟨#[], #[.int .i64 0, .int .i64 0], []⟩ 8 (by kernel_rfl) (by kernel_rfl) (by kernel_rfl) (by kernel_rfl)) ?_
  intro W base args ds gs before hval hW _ _
  exact asksAnswered_contract H enc W base args ds gs before hval hW

theorem asksAnswered_k1 : (Rows.asksAnsweredRow.wf (OpenSpec.ofChange Rows.asksAnsweredSpec)) = true := by kernel_rfl
theorem asksAnswered_k10 : (Rows.asksAnsweredRow.inPlace == Tryz.prog.inPlace 7) = true := by kernel_rfl
theorem asksAnswered_k11 : (Rows.asksAnsweredRow.unfollowed == Tryz.prog.unfollowed 7) = true := by kernel_rfl
theorem asksAnswered_k12 : (Rows.asksAnsweredRow.recurses == Tryz.prog.recurses 7) = true := by kernel_rfl
theorem asksAnswered_k13 : (Rows.asksAnsweredRow.named == Tryz.prog.varsNamed 7) = true := by kernel_rfl
theorem asksAnswered_k14 : (Rows.asksAnsweredRow.maps == (Tryz.f7.params.toList ++ Rows.asksAnsweredSpec.plain.varTypes Tryz.prog).any (Tryz.prog.mapsRec ·)) = true := by kernel_rfl
theorem asksAnswered_k15 : (Rows.asksAnsweredRow.ifaces == (Tryz.f7.params.toList ++ Rows.asksAnsweredSpec.plain.varTypes Tryz.prog).any (Tryz.prog.ifacesRec ·)) = true := by kernel_rfl
theorem asksAnswered_k17 : (Rows.asksAnsweredRow.loops == (Tryz.f7.params.toList ++ Rows.asksAnsweredSpec.plain.varTypes Tryz.prog).any (Tryz.prog.loopsFrom ·)) = true := by kernel_rfl
theorem asksAnswered_k17b : (Rows.asksAnsweredRow.wideKeys == (Tryz.f7.params.toList ++ Rows.asksAnsweredSpec.plain.varTypes Tryz.prog ++ Tryz.f7.resultTypes.toList).any (Tryz.prog.wideKeysFrom ·)) = true := by kernel_rfl
theorem asksAnswered_k24 : (Rows.asksAnsweredRow.veiled == (Tryz.f7.params.toList ++ Rows.asksAnsweredSpec.plain.varTypes Tryz.prog ++ Tryz.f7.resultTypes.toList).any (Tryz.prog.veiledRec ·)) = true := by kernel_rfl
theorem asksAnswered_k25 : (Rows.asksAnsweredRow.veiledFits Tryz.prog Tryz.f7.params.toList (Tryz.f7.params.toList ++ Rows.asksAnsweredSpec.plain.varTypes Tryz.prog ++ Tryz.f7.resultTypes.toList)) = true := by kernel_rfl
theorem asksAnswered_named : Tryz.checked.prog.funcNamed Rows.asksAnsweredRow.func = some 7 := by kernel_rfl
theorem asksAnswered_facts : joinedFacts Tryz.prog 7 Tryz.f7 Rows.asksAnsweredSpec Rows.asksAnsweredRow = true :=
  facts_mk asksAnswered_k1 laidOut mapsRowed_ (by kernel_rfl) (by kernel_rfl) (by kernel_rfl) stops_ (by kernel_rfl) stopKnobs_ asksAnswered_k10 asksAnswered_k11 asksAnswered_k12 asksAnswered_k13 asksAnswered_k14 asksAnswered_k15 (by kernel_rfl) asksAnswered_k17 asksAnswered_k17b
    (by kernel_rfl) (by kernel_rfl) (by kernel_rfl) (by kernel_rfl) plainKeys_ (by kernel_rfl) stopsHeard_ mayEnter_ liftsFinal_ make_ (by kernel_rfl) (by kernel_rfl) asksAnswered_k24 asksAnswered_k25
theorem asksAnswered_instance : Tryz.f7.isInstance Tryz.prog Rows.asksAnsweredRow.origin Rows.asksAnsweredRow.targs := of_decide_eq_true (by kernel_rfl)
theorem asksAnswered_wrapper : Tryz.f7.isWrapper Tryz.prog Rows.asksAnsweredRow.wrapper Rows.asksAnsweredRow.mainSum := by unfold Func.isWrapper; rw [if_neg (of_decide_eq_false (by kernel_rfl))]; exact ⟨rfl, rfl⟩

theorem asksAnswered_holds : Rows.AsksAnsweredSaid :=
  OpenClaim.holds_of_wide 7 Tryz.f7 rfl rfl rfl rfl rfl rfl rfl ⟨rfl, rfl, rfl, rfl, rfl⟩ rfl rfl rfl rfl rfl asksAnswered_named Tryz.func7 asksAnswered_facts asksAnswered_instance asksAnswered_wrapper
    (fun os started H enc _ => asksAnswered_lifted os started H enc)
#print axioms asksAnswered_holds
end Go.Proofs.YtmidechdlbcepaaGreat
