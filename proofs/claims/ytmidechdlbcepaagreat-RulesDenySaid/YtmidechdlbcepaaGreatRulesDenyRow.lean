/- RulesDeny: the law returns true at every input, and its arguments read as before. Conditions: none. -/
import Derived.Test.YtmidechdlbcepaaGreatPack34
import Derived.Test.YtmidechdlbcepaaGreatPack04
import Derived.Test.YtmidechdlbcepaaGreatPack08
set_option linter.unusedSimpArgs false
set_option linter.unusedVariables false
namespace Go.Proofs.YtmidechdlbcepaaGreat
open Go.ChangeShapes Go.WideShapes Go.ChangeAt Go.RowKit
set_option maxRecDepth 100000
theorem rulesDeny_readable : ∀ t ∈ Tryz.f4.params.toList, Tryz.prog.readableRec t = true ∧ t < Tryz.prog.types.size := of_decide_eq_true (by kernel_rfl)
theorem rulesDeny_contract (H : Type) (enc : TypeId × Value → H) (W : World) (base : Nat) (args : Array Value) (ds gs : List (DataW H)) (before : List MemPlace)
    (hval : ∀ (j : Nat) t v, Tryz.f4.params[j]? = some t → args[j]? = some v → Value.okWide Tryz.prog W .any base t v)
    (hW : DataW.Whole enc Tryz.prog Tryz.f4.params.toList Rows.rulesDenySpec.vars false W args.toList ds gs before) :
    Calls Tryz.prog 4 args W fun e W' => ∃ v, e = .returned v ∧ Rows.rulesDenySpec.post enc Tryz.prog Tryz.f4 false true false false W args v W' := by
  have hW' := hW
  obtain ⟨p, q, hA, hV, rfl, hfz, hnd⟩ := hW
  rw [Tryz.params4] at hA hval
  obtain ⟨v0, vs0, d0, ds0, p0, q0, hargs0, rfl, rfl, h0, r0⟩ := trodAll_cons hA
  obtain ⟨v1, vs1, d1, ds1, p1, q1, hargs1, rfl, rfl, h1, r1⟩ := trodAll_cons r0
  obtain ⟨v2, vs2, d2, ds2, p2, q2, hargs2, rfl, rfl, h2, r2⟩ := trodAll_cons r1
  obtain ⟨v3, vs3, d3, ds3, p3, q3, hargs3, rfl, rfl, h3, r3⟩ := trodAll_cons r2
  obtain ⟨hnil, rfl, rfl⟩ := trodAll_nil r3
  subst hnil
  subst hargs1
  subst hargs2
  subst hargs3
  obtain rfl : args = #[v0, v1, v2, v3] := by cases args; simp_all
  obtain ⟨rfl, rfl⟩ := trodVars_none hV
  exact (rulesDeny_open W base (hval 0 _ _ rfl rfl) h0 (hval 1 _ _ rfl rfl) h1 (hval 2 _ _ rfl rfl) h2 (hval 3 _ _ rfl rfl) h3).mono fun e W' ⟨he, hb⟩ => ⟨_, he, law_post laidOut Tryz.underlying4 rfl rfl rulesDeny_readable hW' rfl hb⟩

theorem rulesDeny_lifted (os : Os) (started : os.Started) (H : Type) (enc : TypeId × Value → H) :
    ReturnsInHanded {} Tryz.checked os 4 .any (Rows.rulesDenySpec.pre6 enc Tryz.prog Tryz.f4 Rows.rulesDenyRow.domain false) (Rows.rulesDenySpec.post enc Tryz.prog Tryz.f4 false true false false) := by
  refine returnsInHanded_of_change (C := Tryz.checked) own started (by kernel_rfl) Tryz.func4
    (ChangeSpec.witness6 (enc := enc) (C := Tryz.checked) false ⟨#[], #[.int .i64 0, .int .i64 0, .bool false, .int .i64 0], []⟩ 8 (by kernel_rfl) (by kernel_rfl) (by kernel_rfl) (by kernel_rfl)) ?_
  intro W base args ds gs before hval hW _ _
  exact rulesDeny_contract H enc W base args ds gs before hval hW

theorem rulesDeny_k1 : (Rows.rulesDenyRow.wf (OpenSpec.ofChange Rows.rulesDenySpec)) = true := by kernel_rfl
theorem rulesDeny_k10 : (Rows.rulesDenyRow.inPlace == Tryz.prog.inPlace 4) = true := by kernel_rfl
theorem rulesDeny_k11 : (Rows.rulesDenyRow.unfollowed == Tryz.prog.unfollowed 4) = true := by kernel_rfl
theorem rulesDeny_k12 : (Rows.rulesDenyRow.recurses == Tryz.prog.recurses 4) = true := by kernel_rfl
theorem rulesDeny_k13 : (Rows.rulesDenyRow.named == Tryz.prog.varsNamed 4) = true := by kernel_rfl
theorem rulesDeny_k14 : (Rows.rulesDenyRow.maps == (Tryz.f4.params.toList ++ Rows.rulesDenySpec.plain.varTypes Tryz.prog).any (Tryz.prog.mapsRec ·)) = true := by kernel_rfl
theorem rulesDeny_k15 : (Rows.rulesDenyRow.ifaces == (Tryz.f4.params.toList ++ Rows.rulesDenySpec.plain.varTypes Tryz.prog).any (Tryz.prog.ifacesRec ·)) = true := by kernel_rfl
theorem rulesDeny_k17 : (Rows.rulesDenyRow.loops == (Tryz.f4.params.toList ++ Rows.rulesDenySpec.plain.varTypes Tryz.prog).any (Tryz.prog.loopsFrom ·)) = true := by kernel_rfl
theorem rulesDeny_k17b : (Rows.rulesDenyRow.wideKeys == (Tryz.f4.params.toList ++ Rows.rulesDenySpec.plain.varTypes Tryz.prog ++ Tryz.f4.resultTypes.toList).any (Tryz.prog.wideKeysFrom ·)) = true := by kernel_rfl
theorem rulesDeny_k24 : (Rows.rulesDenyRow.veiled == (Tryz.f4.params.toList ++ Rows.rulesDenySpec.plain.varTypes Tryz.prog ++ Tryz.f4.resultTypes.toList).any (Tryz.prog.veiledRec ·)) = true := by kernel_rfl
theorem rulesDeny_k25 : (Rows.rulesDenyRow.veiledFits Tryz.prog Tryz.f4.params.toList (Tryz.f4.params.toList ++ Rows.rulesDenySpec.plain.varTypes Tryz.prog ++ Tryz.f4.resultTypes.toList)) = true := by kernel_rfl
theorem rulesDeny_named : Tryz.checked.prog.funcNamed Rows.rulesDenyRow.func = some 4 := by kernel_rfl
theorem rulesDeny_facts : joinedFacts Tryz.prog 4 Tryz.f4 Rows.rulesDenySpec Rows.rulesDenyRow = true :=
  facts_mk rulesDeny_k1 laidOut mapsRowed_ (by kernel_rfl) (by kernel_rfl) (by kernel_rfl) stops_ (by kernel_rfl) stopKnobs_ rulesDeny_k10 rulesDeny_k11 rulesDeny_k12 rulesDeny_k13 rulesDeny_k14 rulesDeny_k15 (by kernel_rfl) rulesDeny_k17 rulesDeny_k17b
    (by kernel_rfl) (by kernel_rfl) (by kernel_rfl) (by kernel_rfl) plainKeys_ (by kernel_rfl) stopsHeard_ mayEnter_ liftsFinal_ make_ (by kernel_rfl) (by kernel_rfl) rulesDeny_k24 rulesDeny_k25
theorem rulesDeny_instance : Tryz.f4.isInstance Tryz.prog Rows.rulesDenyRow.origin Rows.rulesDenyRow.targs := of_decide_eq_true (by kernel_rfl)
theorem rulesDeny_wrapper : Tryz.f4.isWrapper Tryz.prog Rows.rulesDenyRow.wrapper Rows.rulesDenyRow.mainSum := by unfold Func.isWrapper; rw [if_neg (of_decide_eq_false (by kernel_rfl))]; exact ⟨rfl, rfl⟩

theorem rulesDeny_holds : Rows.RulesDenySaid :=
  OpenClaim.holds_of_wide 4 Tryz.f4 rfl rfl rfl rfl rfl rfl rfl ⟨rfl, rfl, rfl, rfl, rfl⟩ rfl rfl rfl rfl rfl rulesDeny_named Tryz.func4 rulesDeny_facts rulesDeny_instance rulesDeny_wrapper
    (fun os started H enc _ => rulesDeny_lifted os started H enc)
#print axioms rulesDeny_holds
end Go.Proofs.YtmidechdlbcepaaGreat
