/- PipePackets: the law returns true at every input, and its arguments read as before. Conditions: none. -/
import Derived.Test.YtfgiehfiieecoaaPipePackets
import Derived.Test.YtfgiehfiieecoaaFrame
namespace Go.Proofs.Ytfgiehfiieecoaa
open Go.ChangeShapes Go.WideShapes Go.ChangeAt Go.RowKit
set_option maxRecDepth 100000
theorem pipePackets_readable : ∀ t ∈ Try.f8.params.toList, Try.prog.readableRec t = true ∧ t < Try.prog.types.size := of_decide_eq_true (by kernel_rfl)
theorem pipePackets_contract (H : Type) (enc : TypeId × Value → H) (W : World) (base : Nat) (args : Array Value) (ds gs : List (DataW H)) (before : List MemPlace)
    (hval : ∀ (j : Nat) t v, Try.f8.params[j]? = some t → args[j]? = some v → Value.okWide Try.prog W .any base t v)
    (hW : DataW.Whole enc Try.prog Try.f8.params.toList Rows.pipePacketsSpec.vars false W args.toList ds gs before) :
    Calls Try.prog 8 args W fun e W' => ∃ v, e = .returned v ∧ Rows.pipePacketsSpec.post enc Try.prog Try.f8 false true false false W args v W' := by
  have hW' := hW
  obtain ⟨p, q, hA, hV, rfl, hfz, hnd⟩ := hW
  rw [Try.params8] at hA hval
  obtain ⟨v0, vs0, d0, ds0, p0, q0, hargs0, rfl, rfl, h0, r0⟩ := trodAll_cons hA
  obtain ⟨v1, vs1, d1, ds1, p1, q1, hargs1, rfl, rfl, h1, r1⟩ := trodAll_cons r0
  obtain ⟨v2, vs2, d2, ds2, p2, q2, hargs2, rfl, rfl, h2, r2⟩ := trodAll_cons r1
  obtain ⟨v3, vs3, d3, ds3, p3, q3, hargs3, rfl, rfl, h3, r3⟩ := trodAll_cons r2
  obtain ⟨hnil, rfl, rfl⟩ := trodAll_nil r3
  subst hnil
  subst hargs1
  subst hargs2
  subst hargs3
  obtain rfl : args = #[v0, v1, v2, v3] := by cases args; simp_all
  obtain ⟨rfl, rfl⟩ := trodVars_none hV
  exact (pipePackets_open W base (hval 0 _ _ rfl rfl) h0 (hval 1 _ _ rfl rfl) h1 (hval 2 _ _ rfl rfl) h2 (hval 3 _ _ rfl rfl) h3).mono fun e W' ⟨he, hb⟩ => ⟨_, he, law_post laidOut Try.underlying4 rfl rfl pipePackets_readable hW' rfl hb⟩

theorem pipePackets_lifted (os : Os) (started : os.Started) (H : Type) (enc : TypeId × Value → H) :
    ReturnsInHanded {} Try.checked os 8 .any (Rows.pipePacketsSpec.pre6 enc Try.prog Try.f8 Rows.pipePacketsRow.domain false) (Rows.pipePacketsSpec.post enc Try.prog Try.f8 false true false false) := by
  refine returnsInHanded_of_change (C := Try.checked) own started (by kernel_rfl) Try.func8
    (ChangeSpec.witness6 (enc := enc) (C := Try.checked) false ⟨#[], #[.agg #[.int .i64 0, .int .i64 0, .int .i64 0, .int .i64 0, .int .i64 0, .int .i64 0, .int .i64 0, .string ByteArray.empty], .int .i64 0, .int .i64 0, .int .i64 0], []⟩ 8 (by kernel_rfl) (by kernel_rfl) (by kernel_rfl) (by kernel_rfl)) ?_
  intro W base args ds gs before hval hW _ _
  exact pipePackets_contract H enc W base args ds gs before hval hW

theorem pipePackets_k1 : (Rows.pipePacketsRow.wf (OpenSpec.ofChange Rows.pipePacketsSpec)) = true := by kernel_rfl
theorem pipePackets_k10 : (Rows.pipePacketsRow.inPlace == Try.prog.inPlace 8) = true := by kernel_rfl
theorem pipePackets_k11 : (Rows.pipePacketsRow.unfollowed == Try.prog.unfollowed 8) = true := by kernel_rfl
theorem pipePackets_k12 : (Rows.pipePacketsRow.recurses == Try.prog.recurses 8) = true := by kernel_rfl
theorem pipePackets_k13 : (Rows.pipePacketsRow.named == Try.prog.varsNamed 8) = true := by kernel_rfl
theorem pipePackets_k14 : (Rows.pipePacketsRow.maps == (Try.f8.params.toList ++ Rows.pipePacketsSpec.plain.varTypes Try.prog).any (Try.prog.mapsRec ·)) = true := by kernel_rfl
theorem pipePackets_k15 : (Rows.pipePacketsRow.ifaces == (Try.f8.params.toList ++ Rows.pipePacketsSpec.plain.varTypes Try.prog).any (Try.prog.ifacesRec ·)) = true := by kernel_rfl
theorem pipePackets_k17 : (Rows.pipePacketsRow.loops == (Try.f8.params.toList ++ Rows.pipePacketsSpec.plain.varTypes Try.prog).any (Try.prog.loopsFrom ·)) = true := by kernel_rfl
theorem pipePackets_k17b : (Rows.pipePacketsRow.wideKeys == (Try.f8.params.toList ++ Rows.pipePacketsSpec.plain.varTypes Try.prog ++ Try.f8.resultTypes.toList).any (Try.prog.wideKeysFrom ·)) = true := by kernel_rfl
theorem pipePackets_k24 : (Rows.pipePacketsRow.veiled == (Try.f8.params.toList ++ Rows.pipePacketsSpec.plain.varTypes Try.prog ++ Try.f8.resultTypes.toList).any (Try.prog.veiledRec ·)) = true := by kernel_rfl
theorem pipePackets_k25 : (Rows.pipePacketsRow.veiledFits Try.prog Try.f8.params.toList (Try.f8.params.toList ++ Rows.pipePacketsSpec.plain.varTypes Try.prog ++ Try.f8.resultTypes.toList)) = true := by kernel_rfl
theorem pipePackets_named : Try.checked.prog.funcNamed Rows.pipePacketsRow.func = some 8 := by kernel_rfl
theorem pipePackets_facts : joinedFacts Try.prog 8 Try.f8 Rows.pipePacketsSpec Rows.pipePacketsRow = true :=
  facts_mk pipePackets_k1 laidOut mapsRowed_ (by kernel_rfl) (by kernel_rfl) (by kernel_rfl) stops_ (by kernel_rfl) stopKnobs_ pipePackets_k10 pipePackets_k11 pipePackets_k12 pipePackets_k13 pipePackets_k14 pipePackets_k15 (by kernel_rfl) pipePackets_k17 pipePackets_k17b
    (by kernel_rfl) (by kernel_rfl) (by kernel_rfl) (by kernel_rfl) plainKeys_ (by kernel_rfl) stopsHeard_ mayEnter_ liftsFinal_ make_ (by kernel_rfl) (by kernel_rfl) pipePackets_k24 pipePackets_k25
theorem pipePackets_instance : Try.f8.isInstance Try.prog Rows.pipePacketsRow.origin Rows.pipePacketsRow.targs := of_decide_eq_true (by kernel_rfl)
theorem pipePackets_wrapper : Try.f8.isWrapper Try.prog Rows.pipePacketsRow.wrapper Rows.pipePacketsRow.mainSum := by unfold Func.isWrapper; rw [if_neg (of_decide_eq_false (by kernel_rfl))]; exact ⟨rfl, rfl⟩

theorem pipePackets_holds : Rows.PipePacketsSaid :=
  OpenClaim.holds_of_wide 8 Try.f8 rfl rfl rfl rfl rfl rfl rfl ⟨rfl, rfl, rfl, rfl, rfl⟩ rfl rfl rfl rfl rfl pipePackets_named Try.func8 pipePackets_facts pipePackets_instance pipePackets_wrapper
    (fun os started H enc _ => pipePackets_lifted os started H enc)
#print axioms pipePackets_holds
end Go.Proofs.Ytfgiehfiieecoaa
