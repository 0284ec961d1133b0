/- FabricDelivers: the law returns true at every input, and its arguments read as before. Conditions: none. -/
import Derived.Test.YtmidechdlbcepaaGreatPack34
import Derived.Test.YtmidechdlbcepaaGreatPack04
import Derived.Test.YtmidechdlbcepaaGreatPack09
set_option linter.unusedSimpArgs false
set_option linter.unusedVariables false
namespace Go.Proofs.YtmidechdlbcepaaGreat
open Go.ChangeShapes Go.WideShapes Go.ChangeAt Go.RowKit
set_option maxRecDepth 100000
theorem fabricDelivers_readable : ∀ t ∈ Tryz.f3.params.toList, Tryz.prog.readableRec t = true ∧ t < Tryz.prog.types.size := of_decide_eq_true (by kernel_rfl)
theorem fabricDelivers_contract (H : Type) (enc : TypeId × Value → H) (W : World) (base : Nat) (args : Array Value) (ds gs : List (DataW H)) (before : List MemPlace)
    (hval : ∀ (j : Nat) t v, Tryz.f3.params[j]? = some t → args[j]? = some v → Value.okWide Tryz.prog W .any base t v)
    (hW : DataW.Whole enc Tryz.prog Tryz.f3.params.toList Rows.fabricDeliversSpec.vars false W args.toList ds gs before)
    (hsz : (DataW.weightsEach Tryz.prog (Tryz.f3.params.toList ++ Rows.fabricDeliversSpec.plain.varTypes Tryz.prog) (ds ++ gs)).all (· ≤ reachBytes) = true) :
    Calls Tryz.prog 3 args W fun e W' => ∃ v, e = .returned v ∧ Rows.fabricDeliversSpec.post enc Tryz.prog Tryz.f3 false true false false W args v W' := by
  have hW' := hW
  obtain ⟨p, q, hA, hV, rfl, hfz, hnd⟩ := hW
  rw [Tryz.params3] at hA hval
  obtain ⟨v0, vs0, d0, ds0, p0, q0, hargs0, rfl, rfl, h0, r0⟩ := trodAll_cons hA
  obtain ⟨v1, vs1, d1, ds1, p1, q1, hargs1, rfl, rfl, h1, r1⟩ := trodAll_cons r0
  obtain ⟨v2, vs2, d2, ds2, p2, q2, hargs2, rfl, rfl, h2, r2⟩ := trodAll_cons r1
  obtain ⟨hnil, rfl, rfl⟩ := trodAll_nil r2
  subst hnil
  subst hargs1
  subst hargs2
  obtain rfl : args = #[v0, v1, v2] := by cases args; simp_all
  obtain ⟨rfl, rfl⟩ := trodVars_none hV
  exact (fabricDelivers_open W base (hval 0 _ _ rfl rfl) h0 (fun n hn => by have := List.all_eq_true.1 hsz n (weightsEach_mem (i := 0) (t := 26) rfl rfl n hn); simpa using this) (hval 1 _ _ rfl rfl) h1 (fun n hn => by have := List.all_eq_true.1 hsz n (weightsEach_mem (i := 1) (t := 3) rfl rfl n hn); simpa using this) (hval 2 _ _ rfl rfl) h2 (fun n hn => by have := List.all_eq_true.1 hsz n (weightsEach_mem (i := 2) (t := 28) rfl rfl n hn); simpa using this)).mono fun e W' ⟨he, hb⟩ => ⟨_, he, law_post laidOut Tryz.underlying4 rfl rfl fabricDelivers_readable hW' rfl hb⟩

theorem fabricDelivers_lifted (os : Os) (started : os.Started) (H : Type) (enc : TypeId × Value → H) :
    ReturnsInHanded {} Tryz.checked os 3 .any (Rows.fabricDeliversSpec.pre6 enc Tryz.prog Tryz.f3 Rows.fabricDeliversRow.domain false) (Rows.fabricDeliversSpec.post enc Tryz.prog Tryz.f3 false true false false) := by
  refine returnsInHanded_of_change_sized (C := Tryz.checked) own started (by kernel_rfl) Tryz.func3
    (ChangeSpec.witness6 (enc := enc) (C := Tryz.checked) false ⟨#[], #[.agg #[.slice none 0 0, .slice none 0 0, .slice none 0 0], .int .i64 0, .agg #[.int .i64 0, .int .i64 0, .int .i64 0, .int .i64 0, .int .i64 0, .int .i64 0, .int .i64 0, .string ByteArray.empty]], []⟩ 8 (by kernel_rfl) (by kernel_rfl) (by kernel_rfl) (by kernel_rfl)) ?_
  intro W base args ds gs before hval hW _ hsz _
  exact fabricDelivers_contract H enc W base args ds gs before hval hW hsz

theorem fabricDelivers_k1 : (Rows.fabricDeliversRow.wf (OpenSpec.ofChange Rows.fabricDeliversSpec)) = true := by kernel_rfl
theorem fabricDelivers_k10 : (Rows.fabricDeliversRow.inPlace == Tryz.prog.inPlace 3) = true := by kernel_rfl
theorem fabricDelivers_k11 : (Rows.fabricDeliversRow.unfollowed == Tryz.prog.unfollowed 3) = true := by kernel_rfl
theorem fabricDelivers_k12 : (Rows.fabricDeliversRow.recurses == Tryz.prog.recurses 3) = true := by kernel_rfl
theorem fabricDelivers_k13 : (Rows.fabricDeliversRow.named == Tryz.prog.varsNamed 3) = true := by kernel_rfl
theorem fabricDelivers_k14 : (Rows.fabricDeliversRow.maps == (Tryz.f3.params.toList ++ Rows.fabricDeliversSpec.plain.varTypes Tryz.prog).any (Tryz.prog.mapsRec ·)) = true := by kernel_rfl
theorem fabricDelivers_k15 : (Rows.fabricDeliversRow.ifaces == (Tryz.f3.params.toList ++ Rows.fabricDeliversSpec.plain.varTypes Tryz.prog).any (Tryz.prog.ifacesRec ·)) = true := by kernel_rfl
theorem fabricDelivers_k17 : (Rows.fabricDeliversRow.loops == (Tryz.f3.params.toList ++ Rows.fabricDeliversSpec.plain.varTypes Tryz.prog).any (Tryz.prog.loopsFrom ·)) = true := by kernel_rfl
theorem fabricDelivers_k17b : (Rows.fabricDeliversRow.wideKeys == (Tryz.f3.params.toList ++ Rows.fabricDeliversSpec.plain.varTypes Tryz.prog ++ Tryz.f3.resultTypes.toList).any (Tryz.prog.wideKeysFrom ·)) = true := by kernel_rfl
theorem fabricDelivers_k24 : (Rows.fabricDeliversRow.veiled == (Tryz.f3.params.toList ++ Rows.fabricDeliversSpec.plain.varTypes Tryz.prog ++ Tryz.f3.resultTypes.toList).any (Tryz.prog.veiledRec ·)) = true := by kernel_rfl
theorem fabricDelivers_k25 : (Rows.fabricDeliversRow.veiledFits Tryz.prog Tryz.f3.params.toList (Tryz.f3.params.toList ++ Rows.fabricDeliversSpec.plain.varTypes Tryz.prog ++ Tryz.f3.resultTypes.toList)) = true := by kernel_rfl
theorem fabricDelivers_named : Tryz.checked.prog.funcNamed Rows.fabricDeliversRow.func = some 3 := by kernel_rfl
theorem fabricDelivers_facts : joinedFacts Tryz.prog 3 Tryz.f3 Rows.fabricDeliversSpec Rows.fabricDeliversRow = true :=
  facts_mk fabricDelivers_k1 laidOut mapsRowed_ (by kernel_rfl) (by kernel_rfl) (by kernel_rfl) stops_ (by kernel_rfl) stopKnobs_ fabricDelivers_k10 fabricDelivers_k11 fabricDelivers_k12 fabricDelivers_k13 fabricDelivers_k14 fabricDelivers_k15 (by kernel_rfl) fabricDelivers_k17 fabricDelivers_k17b
    (by kernel_rfl) (by kernel_rfl) (by kernel_rfl) (by kernel_rfl) plainKeys_ (by kernel_rfl) stopsHeard_ mayEnter_ liftsFinal_ make_ (by kernel_rfl) (by kernel_rfl) fabricDelivers_k24 fabricDelivers_k25
theorem fabricDelivers_instance : Tryz.f3.isInstance Tryz.prog Rows.fabricDeliversRow.origin Rows.fabricDeliversRow.targs := of_decide_eq_true (by kernel_rfl)
theorem fabricDelivers_wrapper : Tryz.f3.isWrapper Tryz.prog Rows.fabricDeliversRow.wrapper Rows.fabricDeliversRow.mainSum := by unfold Func.isWrapper; rw [if_neg (of_decide_eq_false (by kernel_rfl))]; exact ⟨rfl, rfl⟩

theorem fabricDelivers_holds : Rows.FabricDeliversSaid :=
  OpenClaim.holds_of_wide 3 Tryz.f3 rfl rfl rfl rfl rfl rfl rfl ⟨rfl, rfl, rfl, rfl, rfl⟩ rfl rfl rfl rfl rfl fabricDelivers_named Tryz.func3 fabricDelivers_facts fabricDelivers_instance fabricDelivers_wrapper
    (fun os started H enc _ => fabricDelivers_lifted os started H enc)
#print axioms fabricDelivers_holds
end Go.Proofs.YtmidechdlbcepaaGreat
