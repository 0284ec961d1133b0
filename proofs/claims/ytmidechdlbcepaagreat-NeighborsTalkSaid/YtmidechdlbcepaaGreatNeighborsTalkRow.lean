/- NeighborsTalk: the law returns true at every input, and its arguments read as before. Conditions: none. -/
import Derived.Test.YtmidechdlbcepaaGreatPack34
import Derived.Test.YtmidechdlbcepaaGreatPack04
import Derived.Test.YtmidechdlbcepaaGreatPack09
set_option linter.unusedSimpArgs false
set_option linter.unusedVariables false
namespace Go.Proofs.YtmidechdlbcepaaGreat
open Go.ChangeShapes Go.WideShapes Go.ChangeAt Go.RowKit
set_option maxRecDepth 100000
theorem neighborsTalk_readable : ∀ t ∈ Tryz.f5.params.toList, Tryz.prog.readableRec t = true ∧ t < Tryz.prog.types.size := of_decide_eq_true (by kernel_rfl)
theorem neighborsTalk_contract (H : Type) (enc : TypeId × Value → H) (W : World) (base : Nat) (args : Array Value) (ds gs : List (DataW H)) (before : List MemPlace)
    (hval : ∀ (j : Nat) t v, Tryz.f5.params[j]? = some t → args[j]? = some v → Value.okWide Tryz.prog W .any base t v)
    (hW : DataW.Whole enc Tryz.prog Tryz.f5.params.toList Rows.neighborsTalkSpec.vars false W args.toList ds gs before)
    (hsz : (DataW.weightsEach Tryz.prog (Tryz.f5.params.toList ++ Rows.neighborsTalkSpec.plain.varTypes Tryz.prog) (ds ++ gs)).all (· ≤ reachBytes) = true) :
    Calls Tryz.prog 5 args W fun e W' => ∃ v, e = .returned v ∧ Rows.neighborsTalkSpec.post enc Tryz.prog Tryz.f5 false true false false W args v W' := by
  have hW' := hW
  obtain ⟨p, q, hA, hV, rfl, hfz, hnd⟩ := hW
  rw [Tryz.params5] at hA hval
  obtain ⟨v0, vs0, d0, ds0, p0, q0, hargs0, rfl, rfl, h0, r0⟩ := trodAll_cons hA
  obtain ⟨v1, vs1, d1, ds1, p1, q1, hargs1, rfl, rfl, h1, r1⟩ := trodAll_cons r0
  obtain ⟨v2, vs2, d2, ds2, p2, q2, hargs2, rfl, rfl, h2, r2⟩ := trodAll_cons r1
  obtain ⟨hnil, rfl, rfl⟩ := trodAll_nil r2
  subst hnil
  subst hargs1
  subst hargs2
  obtain rfl : args = #[v0, v1, v2] := by cases args; simp_all
  obtain ⟨rfl, rfl⟩ := trodVars_none hV
  exact (neighborsTalk_open W base (hval 0 _ _ rfl rfl) h0 (fun n hn => by have := List.all_eq_true.1 hsz n (weightsEach_mem (i := 0) (t := 3) rfl rfl n hn); simpa using this) (hval 1 _ _ rfl rfl) h1 (fun n hn => by have := List.all_eq_true.1 hsz n (weightsEach_mem (i := 1) (t := 3) rfl rfl n hn); simpa using this) (hval 2 _ _ rfl rfl) h2 (fun n hn => by have := List.all_eq_true.1 hsz n (weightsEach_mem (i := 2) (t := 9) rfl rfl n hn); simpa using this)).mono fun e W' ⟨he, hb⟩ => ⟨_, he, law_post laidOut Tryz.underlying4 rfl rfl neighborsTalk_readable hW' rfl hb⟩

theorem neighborsTalk_lifted (os : Os) (started : os.Started) (H : Type) (enc : TypeId × Value → H) :
    ReturnsInHanded {} Tryz.checked os 5 .any (Rows.neighborsTalkSpec.pre6 enc Tryz.prog Tryz.f5 Rows.neighborsTalkRow.domain false) (Rows.neighborsTalkSpec.post enc Tryz.prog Tryz.f5 false true false false) := by
  refine returnsInHanded_of_change_sized (C := Tryz.checked) own started (by kernel_rfl) Tryz.func5
    (ChangeSpec.witness6 (enc := enc) (C := Tryz.checked) false ⟨#[], #[.int .i64 0, .int .i64 0, .string ByteArray.empty], []⟩ 8 (by kernel_rfl) (by kernel_rfl) (by kernel_rfl) (by kernel_rfl)) ?_
  intro W base args ds gs before hval hW _ hsz _
  exact neighborsTalk_contract H enc W base args ds gs before hval hW hsz

theorem neighborsTalk_k1 : (Rows.neighborsTalkRow.wf (OpenSpec.ofChange Rows.neighborsTalkSpec)) = true := by kernel_rfl
theorem neighborsTalk_k10 : (Rows.neighborsTalkRow.inPlace == Tryz.prog.inPlace 5) = true := by kernel_rfl
theorem neighborsTalk_k11 : (Rows.neighborsTalkRow.unfollowed == Tryz.prog.unfollowed 5) = true := by kernel_rfl
theorem neighborsTalk_k12 : (Rows.neighborsTalkRow.recurses == Tryz.prog.recurses 5) = true := by kernel_rfl
theorem neighborsTalk_k13 : (Rows.neighborsTalkRow.named == Tryz.prog.varsNamed 5) = true := by kernel_rfl
theorem neighborsTalk_k14 : (Rows.neighborsTalkRow.maps == (Tryz.f5.params.toList ++ Rows.neighborsTalkSpec.plain.varTypes Tryz.prog).any (Tryz.prog.mapsRec ·)) = true := by kernel_rfl
theorem neighborsTalk_k15 : (Rows.neighborsTalkRow.ifaces == (Tryz.f5.params.toList ++ Rows.neighborsTalkSpec.plain.varTypes Tryz.prog).any (Tryz.prog.ifacesRec ·)) = true := by kernel_rfl
theorem neighborsTalk_k17 : (Rows.neighborsTalkRow.loops == (Tryz.f5.params.toList ++ Rows.neighborsTalkSpec.plain.varTypes Tryz.prog).any (Tryz.prog.loopsFrom ·)) = true := by kernel_rfl
theorem neighborsTalk_k17b : (Rows.neighborsTalkRow.wideKeys == (Tryz.f5.params.toList ++ Rows.neighborsTalkSpec.plain.varTypes Tryz.prog ++ Tryz.f5.resultTypes.toList).any (Tryz.prog.wideKeysFrom ·)) = true := by kernel_rfl
theorem neighborsTalk_k24 : (Rows.neighborsTalkRow.veiled == (Tryz.f5.params.toList ++ Rows.neighborsTalkSpec.plain.varTypes Tryz.prog ++ Tryz.f5.resultTypes.toList).any (Tryz.prog.veiledRec ·)) = true := by kernel_rfl
theorem neighborsTalk_k25 : (Rows.neighborsTalkRow.veiledFits Tryz.prog Tryz.f5.params.toList (Tryz.f5.params.toList ++ Rows.neighborsTalkSpec.plain.varTypes Tryz.prog ++ Tryz.f5.resultTypes.toList)) = true := by kernel_rfl
theorem neighborsTalk_named : Tryz.checked.prog.funcNamed Rows.neighborsTalkRow.func = some 5 := by kernel_rfl
theorem neighborsTalk_facts : joinedFacts Tryz.prog 5 Tryz.f5 Rows.neighborsTalkSpec Rows.neighborsTalkRow = true :=
  facts_mk neighborsTalk_k1 laidOut mapsRowed_ (by kernel_rfl) (by kernel_rfl) (by kernel_rfl) stops_ (by kernel_rfl) stopKnobs_ neighborsTalk_k10 neighborsTalk_k11 neighborsTalk_k12 neighborsTalk_k13 neighborsTalk_k14 neighborsTalk_k15 (by kernel_rfl) neighborsTalk_k17 neighborsTalk_k17b
    (by kernel_rfl) (by kernel_rfl) (by kernel_rfl) (by kernel_rfl) plainKeys_ (by kernel_rfl) stopsHeard_ mayEnter_ liftsFinal_ make_ (by kernel_rfl) (by kernel_rfl) neighborsTalk_k24 neighborsTalk_k25
theorem neighborsTalk_instance : Tryz.f5.isInstance Tryz.prog Rows.neighborsTalkRow.origin Rows.neighborsTalkRow.targs := of_decide_eq_true (by kernel_rfl)
theorem neighborsTalk_wrapper : Tryz.f5.isWrapper Tryz.prog Rows.neighborsTalkRow.wrapper Rows.neighborsTalkRow.mainSum := by unfold Func.isWrapper; rw [if_neg (of_decide_eq_false (by kernel_rfl))]; exact ⟨rfl, rfl⟩

theorem neighborsTalk_holds : Rows.NeighborsTalkSaid :=
  OpenClaim.holds_of_wide 5 Tryz.f5 rfl rfl rfl rfl rfl rfl rfl ⟨rfl, rfl, rfl, rfl, rfl⟩ rfl rfl rfl rfl rfl neighborsTalk_named Tryz.func5 neighborsTalk_facts neighborsTalk_instance neighborsTalk_wrapper
    (fun os started H enc _ => neighborsTalk_lifted os started H enc)
#print axioms neighborsTalk_holds
end Go.Proofs.YtmidechdlbcepaaGreat
