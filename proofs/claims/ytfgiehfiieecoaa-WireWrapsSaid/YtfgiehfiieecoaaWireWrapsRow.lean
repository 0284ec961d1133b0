/- WireWraps: the law returns true at every input, and its arguments read as before. Conditions: none. -/
import Derived.Test.YtfgiehfiieecoaaWireWraps
import Derived.Test.YtfgiehfiieecoaaFrame
import Derived.Test.YtfgiehfiieecoaaRead
namespace Go.Proofs.Ytfgiehfiieecoaa
open Go.ChangeShapes Go.WideShapes Go.ChangeAt Go.RowKit
set_option maxRecDepth 100000
theorem wireWraps_readable : ∀ t ∈ Try.f11.params.toList, Try.prog.readableRec t = true ∧ t < Try.prog.types.size := of_decide_eq_true (by kernel_rfl)
theorem wireWraps_contract (H : Type) (enc : TypeId × Value → H) (W : World) (base : Nat) (args : Array Value) (ds gs : List (DataW H)) (before : List MemPlace)
    (hval : ∀ (j : Nat) t v, Try.f11.params[j]? = some t → args[j]? = some v → Value.okWide Try.prog W .any base t v)
    (hW : DataW.Whole enc Try.prog Try.f11.params.toList Rows.wireWrapsSpec.vars false W args.toList ds gs before) :
    Calls Try.prog 11 args W fun e W' => ∃ v, e = .returned v ∧ Rows.wireWrapsSpec.post enc Try.prog Try.f11 false true false false W args v W' := by
  have hW' := hW
  obtain ⟨p, q, hA, hV, rfl, hfz, hnd⟩ := hW
  rw [Try.params11] at hA hval
  obtain ⟨v0, vs0, d0, ds0, p0, q0, hargs0, rfl, rfl, h0, r0⟩ := trodAll_cons hA
  obtain ⟨v1, vs1, d1, ds1, p1, q1, hargs1, rfl, rfl, h1, r1⟩ := trodAll_cons r0
  obtain ⟨v2, vs2, d2, ds2, p2, q2, hargs2, rfl, rfl, h2, r2⟩ := trodAll_cons r1
  obtain ⟨hnil, rfl, rfl⟩ := trodAll_nil r2
  subst hnil
  subst hargs1
  subst hargs2
  obtain rfl : args = #[v0, v1, v2] := by cases args; simp_all
  obtain ⟨rfl, rfl⟩ := trodVars_none hV
  exact (wireWraps_open W base (hval 0 _ _ rfl rfl) h0 (hval 1 _ _ rfl rfl) h1 (hval 2 _ _ rfl rfl) h2).mono fun e W' ⟨he, hb⟩ => ⟨_, he, law_post laidOut Try.underlying4 rfl rfl wireWraps_readable hW' rfl hb⟩

theorem wireWraps_lifted (os : Os) (started : os.Started) (H : Type) (enc : TypeId × Value → H) :
    ReturnsInHanded {} Try.checked os 11 .any (Rows.wireWrapsSpec.pre6 enc Try.prog Try.f11 Rows.wireWrapsRow.domain false) (Rows.wireWrapsSpec.post enc Try.prog Try.f11 false true false false) := by
  refine returnsInHanded_of_change (C := Try.checked) own started (by kernel_rfl) Try.func11
    (ChangeSpec.witness6 (enc := enc) (C := Try.checked) false ⟨#[], #[.int .i64 0, .int .i64 0, .agg #[.int .i64 0, .int .i64 0, .int .i64 0, .int .i64 0, .int .i64 0, .int .i64 0, .int .i64 0, .string ByteArray.empty]], []⟩ 8 (by kernel_rfl) (by kernel_rfl) (by kernel_rfl) (by kernel_rfl)) ?_
  intro W base args ds gs before hval hW _ _
  exact wireWraps_contract H enc W base args ds gs before hval hW

theorem wireWraps_k1 : (Rows.wireWrapsRow.wf (OpenSpec.ofChange Rows.wireWrapsSpec)) = true := by kernel_rfl
theorem wireWraps_k10 : (Rows.wireWrapsRow.inPlace == Try.prog.inPlace 11) = true := by kernel_rfl
theorem wireWraps_k11 : (Rows.wireWrapsRow.unfollowed == Try.prog.unfollowed 11) = true := by kernel_rfl
theorem wireWraps_k12 : (Rows.wireWrapsRow.recurses == Try.prog.recurses 11) = true := by kernel_rfl
theorem wireWraps_k13 : (Rows.wireWrapsRow.named == Try.prog.varsNamed 11) = true := by kernel_rfl
theorem wireWraps_k14 : (Rows.wireWrapsRow.maps == (Try.f11.params.toList ++ Rows.wireWrapsSpec.plain.varTypes Try.prog).any (Try.prog.mapsRec ·)) = true := by kernel_rfl
theorem wireWraps_k15 : (Rows.wireWrapsRow.ifaces == (Try.f11.params.toList ++ Rows.wireWrapsSpec.plain.varTypes Try.prog).any (Try.prog.ifacesRec ·)) = true := by kernel_rfl
theorem wireWraps_k17 : (Rows.wireWrapsRow.loops == (Try.f11.params.toList ++ Rows.wireWrapsSpec.plain.varTypes Try.prog).any (Try.prog.loopsFrom ·)) = true := by kernel_rfl
theorem wireWraps_k17b : (Rows.wireWrapsRow.wideKeys == (Try.f11.params.toList ++ Rows.wireWrapsSpec.plain.varTypes Try.prog ++ Try.f11.resultTypes.toList).any (Try.prog.wideKeysFrom ·)) = true := by kernel_rfl
theorem wireWraps_k24 : (Rows.wireWrapsRow.veiled == (Try.f11.params.toList ++ Rows.wireWrapsSpec.plain.varTypes Try.prog ++ Try.f11.resultTypes.toList).any (Try.prog.veiledRec ·)) = true := by kernel_rfl
theorem wireWraps_k25 : (Rows.wireWrapsRow.veiledFits Try.prog Try.f11.params.toList (Try.f11.params.toList ++ Rows.wireWrapsSpec.plain.varTypes Try.prog ++ Try.f11.resultTypes.toList)) = true := by kernel_rfl
theorem wireWraps_named : Try.checked.prog.funcNamed Rows.wireWrapsRow.func = some 11 := by kernel_rfl
theorem wireWraps_facts : joinedFacts Try.prog 11 Try.f11 Rows.wireWrapsSpec Rows.wireWrapsRow = true :=
  facts_mk wireWraps_k1 laidOut mapsRowed_ (by kernel_rfl) (by kernel_rfl) (by kernel_rfl) stops_ (by kernel_rfl) stopKnobs_ wireWraps_k10 wireWraps_k11 wireWraps_k12 wireWraps_k13 wireWraps_k14 wireWraps_k15 (by kernel_rfl) wireWraps_k17 wireWraps_k17b
    (by kernel_rfl) (by kernel_rfl) (by kernel_rfl) (by kernel_rfl) plainKeys_ (by kernel_rfl) stopsHeard_ mayEnter_ liftsFinal_ make_ (by kernel_rfl) (by kernel_rfl) wireWraps_k24 wireWraps_k25
theorem wireWraps_instance : Try.f11.isInstance Try.prog Rows.wireWrapsRow.origin Rows.wireWrapsRow.targs := of_decide_eq_true (by kernel_rfl)
theorem wireWraps_wrapper : Try.f11.isWrapper Try.prog Rows.wireWrapsRow.wrapper Rows.wireWrapsRow.mainSum := by unfold Func.isWrapper; rw [if_neg (of_decide_eq_false (by kernel_rfl))]; exact ⟨rfl, rfl⟩

theorem wireWraps_holds : Rows.WireWrapsSaid :=
  OpenClaim.holds_of_wide 11 Try.f11 rfl rfl rfl rfl rfl rfl rfl ⟨rfl, rfl, rfl, rfl, rfl⟩ rfl rfl rfl rfl rfl wireWraps_named Try.func11 wireWraps_facts wireWraps_instance wireWraps_wrapper
    (fun os started H enc _ => wireWraps_lifted os started H enc)
#print axioms wireWraps_holds
end Go.Proofs.Ytfgiehfiieecoaa
