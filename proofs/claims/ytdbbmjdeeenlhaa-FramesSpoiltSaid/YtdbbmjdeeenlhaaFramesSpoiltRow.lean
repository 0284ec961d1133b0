/- FramesSpoilt: the law returns true at every input, and its arguments read as before. Conditions: none. -/
import Derived.Test.YtdbbmjdeeenlhaaPack32
import Derived.Test.YtdbbmjdeeenlhaaPack04
import Derived.Test.YtdbbmjdeeenlhaaPack09
set_option linter.unusedSimpArgs false
set_option linter.unusedVariables false
namespace Go.Proofs.Ytdbbmjdeeenlhaa
open Go.ChangeShapes Go.WideShapes Go.ChangeAt Go.RowKit
set_option maxRecDepth 100000
theorem framesSpoilt_readable : ∀ t ∈ Try.f11.params.toList, Try.prog.readableRec t = true ∧ t < Try.prog.types.size := of_decide_eq_true (by kernel_rfl)
theorem framesSpoilt_contract (H : Type) (enc : TypeId × Value → H) (W : World) (base : Nat) (args : Array Value) (ds gs : List (DataW H)) (before : List MemPlace)
    (hval : ∀ (j : Nat) t v, Try.f11.params[j]? = some t → args[j]? = some v → Value.okWide Try.prog W .any base t v)
    (hW : DataW.Whole enc Try.prog Try.f11.params.toList Rows.framesSpoiltSpec.vars false W args.toList ds gs before)
    (hsz : (DataW.weightsEach Try.prog (Try.f11.params.toList ++ Rows.framesSpoiltSpec.plain.varTypes Try.prog) (ds ++ gs)).all (· ≤ reachBytes) = true) :
    Calls Try.prog 11 args W fun e W' => ∃ v, e = .returned v ∧ Rows.framesSpoiltSpec.post enc Try.prog Try.f11 false true false false W args v W' := by
  have hW' := hW
  obtain ⟨p, q, hA, hV, rfl, hfz, hnd⟩ := hW
  rw [Try.params11] at hA hval
  obtain ⟨v0, vs0, d0, ds0, p0, q0, hargs0, rfl, rfl, h0, r0⟩ := trodAll_cons hA
  obtain ⟨v1, vs1, d1, ds1, p1, q1, hargs1, rfl, rfl, h1, r1⟩ := trodAll_cons r0
  obtain ⟨v2, vs2, d2, ds2, p2, q2, hargs2, rfl, rfl, h2, r2⟩ := trodAll_cons r1
  obtain ⟨v3, vs3, d3, ds3, p3, q3, hargs3, rfl, rfl, h3, r3⟩ := trodAll_cons r2
  obtain ⟨hnil, rfl, rfl⟩ := trodAll_nil r3
  subst hnil
  subst hargs1
  subst hargs2
  subst hargs3
  obtain rfl : args = #[v0, v1, v2, v3] := by cases args; simp_all
  obtain ⟨rfl, rfl⟩ := trodVars_none hV
  exact (framesSpoilt_open W base (hval 0 _ _ rfl rfl) h0 (fun n hn => by have := List.all_eq_true.1 hsz n (weightsEach_mem (i := 0) (t := 67) rfl rfl n hn); simpa using this) (hval 1 _ _ rfl rfl) h1 (fun n hn => by have := List.all_eq_true.1 hsz n (weightsEach_mem (i := 1) (t := 9) rfl rfl n hn); simpa using this) (hval 2 _ _ rfl rfl) h2 (fun n hn => by have := List.all_eq_true.1 hsz n (weightsEach_mem (i := 2) (t := 3) rfl rfl n hn); simpa using this) (hval 3 _ _ rfl rfl) h3 (fun n hn => by have := List.all_eq_true.1 hsz n (weightsEach_mem (i := 3) (t := 5) rfl rfl n hn); simpa using this)).mono fun e W' ⟨he, hb⟩ => ⟨_, he, law_post laidOut Try.underlying4 rfl rfl framesSpoilt_readable hW' rfl hb⟩

theorem framesSpoilt_lifted (os : Os) (started : os.Started) (H : Type) (enc : TypeId × Value → H) :
    ReturnsInHanded {} Try.checked os 11 .any (Rows.framesSpoiltSpec.pre6 enc Try.prog Try.f11 Rows.framesSpoiltRow.domain false) (Rows.framesSpoiltSpec.post enc Try.prog Try.f11 false true false false) := by
  refine returnsInHanded_of_change_sized (C := Try.checked) own started (by kernel_rfl) Try.func11
    (ChangeSpec.witness6 (enc := enc) (C := Try.checked) false ⟨#[], #[.agg #[.int .i64 0, .int .i64 0, .int .i64 0, .int .i64 0], .string ByteArray.empty, .int .i64 0, .int .u8 0], []⟩ 8 (by kernel_rfl) (by kernel_rfl) (by kernel_rfl) (by kernel_rfl)) ?_
  intro W base args ds gs before hval hW _ hsz _
  exact framesSpoilt_contract H enc W base args ds gs before hval hW hsz

theorem framesSpoilt_k1 : (Rows.framesSpoiltRow.wf (OpenSpec.ofChange Rows.framesSpoiltSpec)) = true := by kernel_rfl
theorem framesSpoilt_k10 : (Rows.framesSpoiltRow.inPlace == Try.prog.inPlace 11) = true := by kernel_rfl
theorem framesSpoilt_k11 : (Rows.framesSpoiltRow.unfollowed == Try.prog.unfollowed 11) = true := by kernel_rfl
theorem framesSpoilt_k12 : (Rows.framesSpoiltRow.recurses == Try.prog.recurses 11) = true := by kernel_rfl
theorem framesSpoilt_k13 : (Rows.framesSpoiltRow.named == Try.prog.varsNamed 11) = true := by kernel_rfl
theorem framesSpoilt_k14 : (Rows.framesSpoiltRow.maps == (Try.f11.params.toList ++ Rows.framesSpoiltSpec.plain.varTypes Try.prog).any (Try.prog.mapsRec ·)) = true := by kernel_rfl
theorem framesSpoilt_k15 : (Rows.framesSpoiltRow.ifaces == (Try.f11.params.toList ++ Rows.framesSpoiltSpec.plain.varTypes Try.prog).any (Try.prog.ifacesRec ·)) = true := by kernel_rfl
theorem framesSpoilt_k17 : (Rows.framesSpoiltRow.loops == (Try.f11.params.toList ++ Rows.framesSpoiltSpec.plain.varTypes Try.prog).any (Try.prog.loopsFrom ·)) = true := by kernel_rfl
theorem framesSpoilt_k17b : (Rows.framesSpoiltRow.wideKeys == (Try.f11.params.toList ++ Rows.framesSpoiltSpec.plain.varTypes Try.prog ++ Try.f11.resultTypes.toList).any (Try.prog.wideKeysFrom ·)) = true := by kernel_rfl
theorem framesSpoilt_k24 : (Rows.framesSpoiltRow.veiled == (Try.f11.params.toList ++ Rows.framesSpoiltSpec.plain.varTypes Try.prog ++ Try.f11.resultTypes.toList).any (Try.prog.veiledRec ·)) = true := by kernel_rfl
theorem framesSpoilt_k25 : (Rows.framesSpoiltRow.veiledFits Try.prog Try.f11.params.toList (Try.f11.params.toList ++ Rows.framesSpoiltSpec.plain.varTypes Try.prog ++ Try.f11.resultTypes.toList)) = true := by kernel_rfl
theorem framesSpoilt_named : Try.checked.prog.funcNamed Rows.framesSpoiltRow.func = some 11 := by kernel_rfl
theorem framesSpoilt_facts : joinedFacts Try.prog 11 Try.f11 Rows.framesSpoiltSpec Rows.framesSpoiltRow = true :=
  facts_mk framesSpoilt_k1 laidOut mapsRowed_ (by kernel_rfl) (by kernel_rfl) (by kernel_rfl) stops_ (by kernel_rfl) stopKnobs_ framesSpoilt_k10 framesSpoilt_k11 framesSpoilt_k12 framesSpoilt_k13 framesSpoilt_k14 framesSpoilt_k15 (by kernel_rfl) framesSpoilt_k17 framesSpoilt_k17b
    (by kernel_rfl) (by kernel_rfl) (by kernel_rfl) (by kernel_rfl) plainKeys_ (by kernel_rfl) stopsHeard_ mayEnter_ liftsFinal_ make_ (by kernel_rfl) (by kernel_rfl) framesSpoilt_k24 framesSpoilt_k25
theorem framesSpoilt_instance : Try.f11.isInstance Try.prog Rows.framesSpoiltRow.origin Rows.framesSpoiltRow.targs := of_decide_eq_true (by kernel_rfl)
theorem framesSpoilt_wrapper : Try.f11.isWrapper Try.prog Rows.framesSpoiltRow.wrapper Rows.framesSpoiltRow.mainSum := by unfold Func.isWrapper; rw [if_neg (of_decide_eq_false (by kernel_rfl))]; exact ⟨rfl, rfl⟩

theorem framesSpoilt_holds : Rows.FramesSpoiltSaid :=
  OpenClaim.holds_of_wide 11 Try.f11 rfl rfl rfl rfl rfl rfl rfl ⟨rfl, rfl, rfl, rfl, rfl⟩ rfl rfl rfl rfl rfl framesSpoilt_named Try.func11 framesSpoilt_facts framesSpoilt_instance framesSpoilt_wrapper
    (fun os started H enc _ => framesSpoilt_lifted os started H enc)
#print axioms framesSpoilt_holds
end Go.Proofs.Ytdbbmjdeeenlhaa
