/- RoutersLead: the law returns true at every input, and its arguments read as before. Conditions: none. -/
import Derived.Test.YtmidechdlbcepaaGreatPack34
import Derived.Test.YtmidechdlbcepaaGreatPack04
import Derived.Test.YtmidechdlbcepaaGreatPack08
set_option linter.unusedSimpArgs false
set_option linter.unusedVariables false
namespace Go.Proofs.YtmidechdlbcepaaGreat
open Go.ChangeShapes Go.WideShapes Go.ChangeAt Go.RowKit
set_option maxRecDepth 100000
theorem routersLead_readable : ∀ t ∈ Tryz.f6.params.toList, Tryz.prog.readableRec t = true ∧ t < Tryz.prog.types.size := of_decide_eq_true (by kernel_rfl)
theorem routersLead_contract (H : Type) (enc : TypeId × Value → H) (W : World) (base : Nat) (args : Array Value) (ds gs : List (DataW H)) (before : List MemPlace)
    (hval : ∀ (j : Nat) t v, Tryz.f6.params[j]? = some t → args[j]? = some v → Value.okWide Tryz.prog W .any base t v)
    (hW : DataW.Whole enc Tryz.prog Tryz.f6.params.toList Rows.routersLeadSpec.vars false W args.toList ds gs before) :
    Calls Tryz.prog 6 args W fun e W' => ∃ v, e = .returned v ∧ Rows.routersLeadSpec.post enc Tryz.prog Tryz.f6 false true false false W args v W' := by
  have hW' := hW
  obtain ⟨p, q, hA, hV, rfl, hfz, hnd⟩ := hW
  rw [Tryz.params6] at hA hval
  obtain ⟨v0, vs0, d0, ds0, p0, q0, hargs0, rfl, rfl, h0, r0⟩ := trodAll_cons hA
  obtain ⟨v1, vs1, d1, ds1, p1, q1, hargs1, rfl, rfl, h1, r1⟩ := trodAll_cons r0
  obtain ⟨v2, vs2, d2, ds2, p2, q2, hargs2, rfl, rfl, h2, r2⟩ := trodAll_cons r1
  obtain ⟨hnil, rfl, rfl⟩ := trodAll_nil r2
  subst hnil
  subst hargs1
  subst hargs2
  obtain rfl : args = #[v0, v1, v2] := by cases args; simp_all
  obtain ⟨rfl, rfl⟩ := trodVars_none hV
  exact (routersLead_open W base (hval 0 _ _ rfl rfl) h0 (hval 1 _ _ rfl rfl) h1 (hval 2 _ _ rfl rfl) h2).mono fun e W' ⟨he, hb⟩ => ⟨_, he, law_post laidOut Tryz.underlying4 rfl rfl routersLead_readable hW' rfl hb⟩

theorem routersLead_lifted (os : Os) (started : os.Started) (H : Type) (enc : TypeId × Value → H) :
    ReturnsInHanded {} Tryz.checked os 6 .any (Rows.routersLeadSpec.pre6 enc Tryz.prog Tryz.f6 Rows.routersLeadRow.domain false) (Rows.routersLeadSpec.post enc Tryz.prog Tryz.f6 false true false false) := by
  refine returnsInHanded_of_change (C := Tryz.checked) own started (by kernel_rfl) Tryz.func6
    (ChangeSpec.witness6 (enc := enc) (C := Tryz.checked) false ⟨#[], #[.int .i64 0, .int .i64 0, .int .i64 0], []⟩ 8 (by kernel_rfl) (by kernel_rfl) (by kernel_rfl) (by kernel_rfl)) ?_
  intro W base args ds gs before hval hW _ _
  exact routersLead_contract H enc W base args ds gs before hval hW

theorem routersLead_k1 : (Rows.routersLeadRow.wf (OpenSpec.ofChange Rows.routersLeadSpec)) = true := by kernel_rfl
theorem routersLead_k10 : (Rows.routersLeadRow.inPlace == Tryz.prog.inPlace 6) = true := by kernel_rfl
theorem routersLead_k11 : (Rows.routersLeadRow.unfollowed == Tryz.prog.unfollowed 6) = true := by kernel_rfl
theorem routersLead_k12 : (Rows.routersLeadRow.recurses == Tryz.prog.recurses 6) = true := by kernel_rfl
theorem routersLead_k13 : (Rows.routersLeadRow.named == Tryz.prog.varsNamed 6) = true := by kernel_rfl
theorem routersLead_k14 : (Rows.routersLeadRow.maps == (Tryz.f6.params.toList ++ Rows.routersLeadSpec.plain.varTypes Tryz.prog).any (Tryz.prog.mapsRec ·)) = true := by kernel_rfl
theorem routersLead_k15 : (Rows.routersLeadRow.ifaces == (Tryz.f6.params.toList ++ Rows.routersLeadSpec.plain.varTypes Tryz.prog).any (Tryz.prog.ifacesRec ·)) = true := by kernel_rfl
theorem routersLead_k17 : (Rows.routersLeadRow.loops == (Tryz.f6.params.toList ++ Rows.routersLeadSpec.plain.varTypes Tryz.prog).any (Tryz.prog.loopsFrom ·)) = true := by kernel_rfl
theorem routersLead_k17b : (Rows.routersLeadRow.wideKeys == (Tryz.f6.params.toList ++ Rows.routersLeadSpec.plain.varTypes Tryz.prog ++ Tryz.f6.resultTypes.toList).any (Tryz.prog.wideKeysFrom ·)) = true := by kernel_rfl
theorem routersLead_k24 : (Rows.routersLeadRow.veiled == (Tryz.f6.params.toList ++ Rows.routersLeadSpec.plain.varTypes Tryz.prog ++ Tryz.f6.resultTypes.toList).any (Tryz.prog.veiledRec ·)) = true := by kernel_rfl
theorem routersLead_k25 : (Rows.routersLeadRow.veiledFits Tryz.prog Tryz.f6.params.toList (Tryz.f6.params.toList ++ Rows.routersLeadSpec.plain.varTypes Tryz.prog ++ Tryz.f6.resultTypes.toList)) = true := by kernel_rfl
theorem routersLead_named : Tryz.checked.prog.funcNamed Rows.routersLeadRow.func = some 6 := by kernel_rfl
theorem routersLead_facts : joinedFacts Tryz.prog 6 Tryz.f6 Rows.routersLeadSpec Rows.routersLeadRow = true :=
  facts_mk routersLead_k1 laidOut mapsRowed_ (by kernel_rfl) (by kernel_rfl) (by kernel_rfl) stops_ (by kernel_rfl) stopKnobs_ routersLead_k10 routersLead_k11 routersLead_k12 routersLead_k13 routersLead_k14 routersLead_k15 (by kernel_rfl) routersLead_k17 routersLead_k17b
    (by kernel_rfl) (by kernel_rfl) (by kernel_rfl) (by kernel_rfl) plainKeys_ (by kernel_rfl) stopsHeard_ mayEnter_ liftsFinal_ make_ (by kernel_rfl) (by kernel_rfl) routersLead_k24 routersLead_k25
theorem routersLead_instance : Tryz.f6.isInstance Tryz.prog Rows.routersLeadRow.origin Rows.routersLeadRow.targs := of_decide_eq_true (by kernel_rfl)
theorem routersLead_wrapper : Tryz.f6.isWrapper Tryz.prog Rows.routersLeadRow.wrapper Rows.routersLeadRow.mainSum := by unfold Func.isWrapper; rw [if_neg (of_decide_eq_false (by kernel_rfl))]; exact ⟨rfl, rfl⟩

theorem routersLead_holds : Rows.RoutersLeadSaid :=
  OpenClaim.holds_of_wide 6 Tryz.f6 rfl rfl rfl rfl rfl rfl rfl ⟨rfl, rfl, rfl, rfl, rfl⟩ rfl rfl rfl rfl rfl routersLead_named Tryz.func6 routersLead_facts routersLead_instance routersLead_wrapper
    (fun os started H enc _ => routersLead_lifted os started H enc)
#print axioms routersLead_holds
end Go.Proofs.YtmidechdlbcepaaGreat
