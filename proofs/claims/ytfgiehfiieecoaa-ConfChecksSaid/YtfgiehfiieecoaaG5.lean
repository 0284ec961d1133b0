/- What is wanted: what the document says of a thing that comes. -/
import Derived.Test.YtfgiehfiieecoaaG4
namespace Go.Proofs.Ytfgiehfiieecoaa
open Go.RowKit
set_option maxRecDepth 100000

theorem switchFault_T (c : Cf) (s : Sw) (hl : c.Small) : Fun Try.prog 100 [.agg ((encCf c).map .fv), .agg ((encSw s).map .fv)] (.fv (.int .i64 (swFault c s))) := by
  have hsec : (c.ss.any (fun x => x.id == s.id) || (decide (s.gate > 0) && takenB c s.tenant s.gate)) = true ↔ (c.ss.any (fun x => x.id == s.id) = true ∨ (0 < s.gate ∧ takenB c s.tenant s.gate = true)) := by
    rw [Bool.or_eq_true, Bool.and_eq_true, decide_eq_true_iff]
  refine Fun.body tbl_ok Try.func100 rfl (by kernel_rfl) rfl rfl rfl ?_
  repeat' (first
    | (apply Ops.loc; (· rfl); (· rfl); (· rfl); (· first | exact .eff (.mv rfl) | exact .eff (.asg rfl) | exact .eff (.loadO rfl rfl rfl) | exact .eff (.loadF rfl rfl) | exact .eff (.fldO rfl rfl rfl) | exact .eff (.fldF rfl rfl rfl) | (refine .eff (.add64 rfl rfl ?_ ?_) <;> omega) | (refine .eff (.sub64 rfl rfl ?_ ?_) <;> omega) | exact .eff (.lenF rfl rfl) | exact .eff (.lenO rfl rfl rfl) | exact .eff (.lenN rfl rfl) | exact .eff (.lenS rfl rfl) | exact .eff (.or rfl rfl rfl) | exact .eff (.and rfl rfl rfl) | exact .eff (.not rfl) | exact .eff (.extract rfl rfl) | (refine .eff (.mul64 rfl rfl ?_ ?_) <;> omega) | exact .eff (.bin rfl rfl rfl) | (refine .eff (.quo64 rfl rfl ?_ ?_ ?_) <;> omega) | (refine .eff (.rem64 rfl rfl ?_ ?_) <;> omega) | exact .eff (.idxPO rfl rfl rfl (by omega) (by omega)) | exact .eff (.idxPF rfl rfl rfl (by omega) (by omega)) | exact .eff (.idxO rfl rfl rfl rfl (by omega) (by omega)) | exact .eff (.build rfl rfl rfl rfl) | exact .eff (.eqA rfl rfl rfl rfl rfl) | exact .eff (.neA rfl rfl rfl rfl rfl) | exact .eff (.quo rfl rfl (by decide)) | exact .eff (.rem rfl rfl (by decide)) | exact .eff (.shr rfl rfl (by decide) (by decide)) | exact .eff (.shl rfl rfl (by decide) (by decide)) | exact .eff (.conv rfl rfl rfl) | exact .eff (.strEq rfl rfl) | exact .eff (.strNe rfl rfl) | exact .eff (.mkFn) | exact .eff (.nilO rfl) | exact .eff (.nilF rfl) | exact .eff (.neg rfl) | exact .eff (.max rfl rfl) | exact .eff (.min rfl rfl) | exact .callL rfl rfl rfl (by first | exact in_T _ _ _ | exact switchOf_T c _ hl | exact isTaken_T c _ _ hl) rfl | (apply LEff.callBL rfl rfl (by first | exact in_T _ _ _ | exact switchOf_T c _ hl | exact isTaken_T c _ _ hl) (by repeat' (first | exact .nil | refine .cons ?_ ?_ | exact .le (.refl _) | exact .row rfl | exact .box rfl | exact .le .nil | refine .agg ?_ | refine .fn ?_ | fail)) rfl)))
    | with_reducible refine WP.seq ?_
    | with_reducible refine WP.reg tbl_ok rfl ?_
    | with_reducible refine Ops.nil ?_
    | with_reducible refine thenQ.nor ?_
    | with_reducible refine thenQ.ex ?_
    | with_reducible refine thenQ.ret ?_
    | with_reducible refine blockQ.nor ?_
    | with_reducible refine blockQ.ret ?_
    | with_reducible refine blockQ.hit rfl ?_
    | with_reducible refine blockQ.out rfl ?_
    | with_reducible refine WP.block ?_
    | with_reducible refine WP.skip ?_
    | with_reducible refine WP.exit ?_
    | with_reducible refine WP.ret ?_
    | refine WP.condT rfl ?_
    | refine WP.condF rfl ?_
    | (refine WP.cond rfl ?_ ?_ <;> intro hcond)
    | (apply Ops.gst; (· rfl); (· rfl); (· rfl); (· rfl); (· rfl); (· rfl); (· rfl); (· first | exact .b | exact .w); (· intro hc; repeat' (first | exact trivial | exact fun _ => hc | exact fun _ => hc.1 | exact fun _ => ⟨hc.1.1, hc.1.2⟩ | refine And.intro ?_ ?_)); (· intro hc; first | exact .eff (.mvG rfl) | exact .eff (.asg rfl) | exact .eff (.loadO rfl rfl rfl) | exact .eff (.loadF rfl rfl) | exact .eff (.fldO rfl rfl rfl) | exact .eff (.fldF rfl rfl rfl) | (refine .eff (.add64 rfl rfl ?_ ?_) <;> omega) | (refine .eff (.sub64 rfl rfl ?_ ?_) <;> omega) | exact .eff (.lenF rfl rfl) | exact .eff (.lenO rfl rfl rfl) | exact .eff (.lenN rfl rfl) | exact .eff (.lenS rfl rfl) | exact .eff (.or rfl rfl rfl) | exact .eff (.and rfl rfl rfl) | exact .eff (.not rfl) | exact .eff (.extract rfl rfl) | (refine .eff (.mul64 rfl rfl ?_ ?_) <;> omega) | exact .eff (.bin rfl rfl rfl) | (refine .eff (.quo64 rfl rfl ?_ ?_ ?_) <;> omega) | (refine .eff (.rem64 rfl rfl ?_ ?_) <;> omega) | exact .eff (.idxPO rfl rfl rfl (by omega) (by omega)) | exact .eff (.idxPF rfl rfl rfl (by omega) (by omega)) | exact .eff (.idxO rfl rfl rfl rfl (by omega) (by omega)) | exact .eff (.build rfl rfl rfl rfl) | exact .eff (.eqA rfl rfl rfl rfl rfl) | exact .eff (.neA rfl rfl rfl rfl rfl) | exact .eff (.quo rfl rfl (by decide)) | exact .eff (.rem rfl rfl (by decide)) | exact .eff (.shr rfl rfl (by decide) (by decide)) | exact .eff (.shl rfl rfl (by decide) (by decide)) | exact .eff (.conv rfl rfl rfl) | exact .eff (.strEq rfl rfl) | exact .eff (.strNe rfl rfl) | exact .eff (.mkFn) | exact .eff (.nilO rfl) | exact .eff (.nilF rfl) | exact .eff (.neg rfl) | exact .eff (.max rfl rfl) | exact .eff (.min rfl rfl) | exact .callG rfl rfl rfl (by first | exact in_T _ _ _ | exact switchOf_T c _ hl | exact isTaken_T c _ _ hl) rfl | (apply LEff.callBG rfl rfl (by first | exact in_T _ _ _ | exact switchOf_T c _ hl | exact isTaken_T c _ _ hl) (by repeat' (first | exact .nil | refine .cons ?_ ?_ | exact .le (.refl _) | exact .row rfl | exact .box rfl | exact .le .nil | refine .agg ?_ | refine .fn ?_ | fail)) rfl)); (· rfl); (· rfl))
    | (apply Ops.new; (· rfl); (· rfl); (· rfl); (· first | exact .eff (.box rfl) | exact .eff (.alloc rfl) | exact .eff (.bslice rfl rfl rfl rfl rfl)); (· first | rfl | (simp only [freshB, noRefH, OB.cells, refsL_fv, refsL_app]; rfl)))
    | refine Ops.app rfl rfl rfl rfl rfl rfl rfl (by first | exact .nil | exact .own rfl (rmv_p _ _)) (by first | exact .nil | exact .own rfl (by first | rfl | exact onesB_map _) | exact .fz (by first | rfl | simp)) rfl ?_ (by first | rfl | (simp only [freshB, noRefH, OB.cells, refsL_fv, refsL_app]; rfl)) ?_
    | (show (_ : Nat) ≤ 140737488355328; omega)
    | refine Ops.stoW rfl rfl rfl rfl rfl rfl (by first | rfl | exact onesB_map _) rfl rfl (by repeat' (first | exact .here | apply Repl.there rfl)) ?_
    | refine Ops.stoB rfl rfl rfl rfl rfl rfl (by first | rfl | exact onesB_map _) rfl rfl (by repeat' (first | exact .here | apply Repl.there rfl)) ?_
    | refine Ops.stoR rfl rfl rfl rfl rfl rfl (by first | rfl | exact onesB_map _) rfl rfl (by repeat' (first | exact .here | apply Repl.there rfl)) ?_
    | refine Ops.gand rfl rfl rfl rfl rfl rfl rfl (by first | exact .b | exact .w) rfl rfl rfl (by simp) (by intro hc; first | exact hc | exact hc.1) (by intro hc; exact ⟨fun h => h.2, fun h => ⟨hc, h⟩⟩) ?_
    | refine Ops.gor rfl rfl rfl rfl rfl rfl rfl (by first | exact .b | exact .w) rfl rfl rfl (by simp) (by intro hc; first | exact hc | exact hc.1) (by intro hc; exact ⟨fun h => h.2, fun h => ⟨hc, h⟩⟩) ?_
    | refine WP.drwL tbl_ok mixed_no (by kernel_rfl) (by first | rfl | (simp only [freeB, noRefH, OB.cells, refsL_fv, refsL_app]; rfl)) rfl ?_
    | fail)
  · refine .f1 (.inl rfl) rfl ?_
    rw [swFault, if_pos (by simpa [or_assoc] using hcond)]
  all_goals (have h1 : ¬ (inR s.id 1 500 = false ∨ inR s.tenant 1 9 = false ∨ inR s.gate 0 65535 = false) := by simpa [and_assoc] using ‹(!inR s.id 1 500 || !inR s.tenant 1 9 || !inR s.gate 0 65535) = false›)
  · refine .f1 (.inl rfl) rfl ?_
    rw [swFault, if_neg h1, if_pos (hsec.1 hcond)]
  · refine .f1 (.inl rfl) rfl ?_
    rename_i h2
    rw [swFault, if_neg h1, if_neg (fun h => by rw [hsec.2 h] at h2; cases h2), if_pos (by simp at hcond; omega)]
  · refine .f1 (.inl rfl) rfl ?_
    rename_i h2
    rw [swFault, if_neg h1, if_neg (fun h => by rw [hsec.2 h] at h2; cases h2), if_neg (by simp at hcond; omega)]
set_option maxHeartbeats 2000000 in
theorem portFault_T (c : Cf) (p : Po) (hl : c.Small) : Fun Try.prog 101 [.agg ((encCf c).map .fv), .agg ((encPo p).map .fv)] (.fv (.int .i64 (poFault c p))) := by
  have hl2 := hl.2.1
  refine Fun.body tbl_ok Try.func101 rfl (by kernel_rfl) rfl rfl rfl ?_
  repeat' (first
    | (apply Ops.loc; (· rfl); (· rfl); (· rfl); (· first | exact .eff (.mv rfl) | exact .eff (.asg rfl) | exact .eff (.loadO rfl rfl rfl) | exact .eff (.loadF rfl rfl) | exact .eff (.fldO rfl rfl rfl) | exact .eff (.fldF rfl rfl rfl) | (refine .eff (.add64 rfl rfl ?_ ?_) <;> omega) | (refine .eff (.sub64 rfl rfl ?_ ?_) <;> omega) | exact .eff (.lenF rfl rfl) | exact .eff (.lenO rfl rfl rfl) | exact .eff (.lenN rfl rfl) | exact .eff (.lenS rfl rfl) | exact .eff (.or rfl rfl rfl) | exact .eff (.and rfl rfl rfl) | exact .eff (.not rfl) | exact .eff (.extract rfl rfl) | (refine .eff (.mul64 rfl rfl ?_ ?_) <;> omega) | exact .eff (.bin rfl rfl rfl) | (refine .eff (.quo64 rfl rfl ?_ ?_ ?_) <;> omega) | (refine .eff (.rem64 rfl rfl ?_ ?_) <;> omega) | exact .eff (.idxPO rfl rfl rfl (by omega) (by omega)) | exact .eff (.idxPF rfl rfl rfl (by omega) (by omega)) | exact .eff (.idxO rfl rfl rfl rfl (by omega) (by omega)) | exact .eff (.build rfl rfl rfl rfl) | exact .eff (.eqA rfl rfl rfl rfl rfl) | exact .eff (.neA rfl rfl rfl rfl rfl) | exact .eff (.quo rfl rfl (by decide)) | exact .eff (.rem rfl rfl (by decide)) | exact .eff (.shr rfl rfl (by decide) (by decide)) | exact .eff (.shl rfl rfl (by decide) (by decide)) | exact .eff (.conv rfl rfl rfl) | exact .eff (.strEq rfl rfl) | exact .eff (.strNe rfl rfl) | exact .eff (.mkFn) | exact .eff (.nilO rfl) | exact .eff (.nilF rfl) | exact .eff (.neg rfl) | exact .eff (.max rfl rfl) | exact .eff (.min rfl rfl) | exact .callL rfl rfl rfl (by first | exact in_T _ _ _ | exact switchOf_T c _ hl) rfl | (apply LEff.callBL rfl rfl (by first | exact in_T _ _ _ | exact switchOf_T c _ hl) (by repeat' (first | exact .nil | refine .cons ?_ ?_ | exact .le (.refl _) | exact .row rfl | exact .box rfl | exact .le .nil | refine .agg ?_ | refine .fn ?_ | fail)) rfl)))
    | with_reducible refine WP.seq ?_
    | with_reducible refine WP.reg tbl_ok rfl ?_
    | with_reducible refine Ops.nil ?_
    | with_reducible refine thenQ.nor ?_
    | with_reducible refine thenQ.ex ?_
    | with_reducible refine thenQ.ret ?_
    | with_reducible refine blockQ.nor ?_
    | with_reducible refine blockQ.ret ?_
    | with_reducible refine blockQ.hit rfl ?_
    | with_reducible refine blockQ.out rfl ?_
    | with_reducible refine WP.block ?_
    | with_reducible refine WP.skip ?_
    | with_reducible refine WP.exit ?_
    | with_reducible refine WP.ret ?_
    | refine WP.condT rfl ?_
    | refine WP.condF rfl ?_
    | (refine WP.cond rfl ?_ ?_ <;> intro hcond)
    | (apply Ops.gst; (· rfl); (· rfl); (· rfl); (· rfl); (· rfl); (· rfl); (· rfl); (· first | exact .b | exact .w); (· intro hc; repeat' (first | exact trivial | exact fun _ => hc | exact fun _ => hc.1 | exact fun _ => ⟨hc.1.1, hc.1.2⟩ | refine And.intro ?_ ?_)); (· intro hc; first | exact .eff (.mvG rfl) | exact .eff (.asg rfl) | exact .eff (.loadO rfl rfl rfl) | exact .eff (.loadF rfl rfl) | exact .eff (.fldO rfl rfl rfl) | exact .eff (.fldF rfl rfl rfl) | (refine .eff (.add64 rfl rfl ?_ ?_) <;> omega) | (refine .eff (.sub64 rfl rfl ?_ ?_) <;> omega) | exact .eff (.lenF rfl rfl) | exact .eff (.lenO rfl rfl rfl) | exact .eff (.lenN rfl rfl) | exact .eff (.lenS rfl rfl) | exact .eff (.or rfl rfl rfl) | exact .eff (.and rfl rfl rfl) | exact .eff (.not rfl) | exact .eff (.extract rfl rfl) | (refine .eff (.mul64 rfl rfl ?_ ?_) <;> omega) | exact .eff (.bin rfl rfl rfl) | (refine .eff (.quo64 rfl rfl ?_ ?_ ?_) <;> omega) | (refine .eff (.rem64 rfl rfl ?_ ?_) <;> omega) | exact .eff (.idxPO rfl rfl rfl (by omega) (by omega)) | exact .eff (.idxPF rfl rfl rfl (by omega) (by omega)) | exact .eff (.idxO rfl rfl rfl rfl (by omega) (by omega)) | exact .eff (.build rfl rfl rfl rfl) | exact .eff (.eqA rfl rfl rfl rfl rfl) | exact .eff (.neA rfl rfl rfl rfl rfl) | exact .eff (.quo rfl rfl (by decide)) | exact .eff (.rem rfl rfl (by decide)) | exact .eff (.shr rfl rfl (by decide) (by decide)) | exact .eff (.shl rfl rfl (by decide) (by decide)) | exact .eff (.conv rfl rfl rfl) | exact .eff (.strEq rfl rfl) | exact .eff (.strNe rfl rfl) | exact .eff (.mkFn) | exact .eff (.nilO rfl) | exact .eff (.nilF rfl) | exact .eff (.neg rfl) | exact .eff (.max rfl rfl) | exact .eff (.min rfl rfl) | exact .callG rfl rfl rfl (by first | exact in_T _ _ _ | exact switchOf_T c _ hl) rfl | (apply LEff.callBG rfl rfl (by first | exact in_T _ _ _ | exact switchOf_T c _ hl) (by repeat' (first | exact .nil | refine .cons ?_ ?_ | exact .le (.refl _) | exact .row rfl | exact .box rfl | exact .le .nil | refine .agg ?_ | refine .fn ?_ | fail)) rfl)); (· rfl); (· rfl))
    | (apply Ops.new; (· rfl); (· rfl); (· rfl); (· first | exact .eff (.box rfl) | exact .eff (.alloc rfl) | exact .eff (.bslice rfl rfl rfl rfl rfl)); (· first | rfl | (simp only [freshB, noRefH, OB.cells, refsL_fv, refsL_app]; rfl)))
    | refine Ops.app rfl rfl rfl rfl rfl rfl rfl (by first | exact .nil | exact .own rfl (rmv_p _ _)) (by first | exact .nil | exact .own rfl (by first | rfl | exact onesB_map _) | exact .fz (by first | rfl | simp)) rfl ?_ (by first | rfl | (simp only [freshB, noRefH, OB.cells, refsL_fv, refsL_app]; rfl)) ?_
    | (show (_ : Nat) ≤ 140737488355328; omega)
    | refine Ops.stoW rfl rfl rfl rfl rfl rfl (by first | rfl | exact onesB_map _) rfl rfl (by repeat' (first | exact .here | apply Repl.there rfl)) ?_
    | refine Ops.stoB rfl rfl rfl rfl rfl rfl (by first | rfl | exact onesB_map _) rfl rfl (by repeat' (first | exact .here | apply Repl.there rfl)) ?_
    | refine Ops.stoR rfl rfl rfl rfl rfl rfl (by first | rfl | exact onesB_map _) rfl rfl (by repeat' (first | exact .here | apply Repl.there rfl)) ?_
    | refine Ops.gand rfl rfl rfl rfl rfl rfl rfl (by first | exact .b | exact .w) rfl rfl rfl (by simp) (by intro hc; first | exact hc | exact hc.1) (by intro hc; exact ⟨fun h => h.2, fun h => ⟨hc, h⟩⟩) ?_
    | refine Ops.gor rfl rfl rfl rfl rfl rfl rfl (by first | exact .b | exact .w) rfl rfl rfl (by simp) (by intro hc; first | exact hc | exact hc.1) (by intro hc; exact ⟨fun h => h.2, fun h => ⟨hc, h⟩⟩) ?_
    | refine WP.drwL tbl_ok mixed_no (by kernel_rfl) (by first | rfl | (simp only [freeB, noRefH, OB.cells, refsL_fv, refsL_app]; rfl)) rfl ?_
    | fail)
  · refine .f1 (.inl rfl) rfl ?_
    rw [poFault, if_pos (by simpa [or_assoc] using hcond)]
  all_goals (have h1 : ¬ (inR p.id 1 999 = false ∨ inR p.mac 1 59999 = false ∨ inR p.ip 1 65535 = false ∨ inR p.ch (-1) 5 = false) := by simpa [and_assoc] using ‹(!inR p.id 1 999 || !inR p.mac 1 59999 || !inR p.ip 1 65535 || !inR p.ch (-1) 5) = false›)
  · refine .f1 (.inl rfl) rfl ?_
    rw [poFault, if_neg h1, if_pos (by simpa only [Bool.not_eq_true'] using hcond)]
  have h2 : ¬ (c.ss.any (fun x => x.id == p.sw) = false) := by simpa only [Bool.not_eq_false', Bool.not_eq_false] using hcond
  clear hcond
  refine WP.loop (ι := Nat) (fun k => ⟨[(2, .optr 2 0), (3, .optr 3 0), (5, .optr 5 0), (7, .fv (.int .i64 k))], [(2, .box 35 ((encCf c).map .fv)), (3, .box 86 ((encPo p).map .fv)), (5, .box 84 ((encSw (swOf c.ss p.sw)).map .fv))]⟩)
    (fun k => k ≤ c.ps.length ∧ c.ps.any (fun q => q.id == p.id || (q.sw == p.sw && q.mac == p.mac)) = (c.ps.drop k).any (fun q => q.id == p.id || (q.sw == p.sw && q.mac == p.mac))) (fun k => c.ps.length - k) 0 ⟨by omega, rfl⟩ ?_ ?_
  · skip
    refine St.le_of ?_ ?_ <;> (repeat' (first | exact trivial | refine ⟨⟨_, rfl, .refl _⟩, ?_⟩ | refine ⟨⟨_, rfl, .any _⟩, ?_⟩ | refine ⟨⟨_, rfl, .of_eq ?_⟩, ?_⟩ | refine ⟨⟨_, rfl, fun _ _ _ _ h => h⟩, ?_⟩ | fail))
  rintro k ⟨hk, hd⟩
  try dsimp only
  by_cases hlt : k < c.ps.length
  case pos =>
    obtain ⟨x, hx⟩ : ∃ x, c.ps[k]? = some x := ⟨_, List.getElem?_eq_getElem hlt⟩
    have hat := any_at (p := fun q : Po => q.id == p.id || (q.sw == p.sw && q.mac == p.mac)) hx
    repeat' (first
      | (apply Ops.loc; (· rfl); (· rfl); (· rfl); (· first | (exact .eff (.idxS rfl rfl rfl encPo_len hx)) | exact .eff (.mv rfl) | exact .eff (.asg rfl) | exact .eff (.loadO rfl rfl rfl) | exact .eff (.loadF rfl rfl) | exact .eff (.fldO rfl rfl rfl) | exact .eff (.fldF rfl rfl rfl) | (refine .eff (.add64 rfl rfl ?_ ?_) <;> omega) | (refine .eff (.sub64 rfl rfl ?_ ?_) <;> omega) | exact .eff (.lenF rfl rfl) | exact .eff (.lenO rfl rfl rfl) | exact .eff (.lenN rfl rfl) | exact .eff (.lenS rfl rfl) | exact .eff (.or rfl rfl rfl) | exact .eff (.and rfl rfl rfl) | exact .eff (.not rfl) | exact .eff (.extract rfl rfl) | (refine .eff (.mul64 rfl rfl ?_ ?_) <;> omega) | exact .eff (.bin rfl rfl rfl) | (refine .eff (.quo64 rfl rfl ?_ ?_ ?_) <;> omega) | (refine .eff (.rem64 rfl rfl ?_ ?_) <;> omega) | exact .eff (.idxPO rfl rfl rfl (by omega) (by omega)) | exact .eff (.idxPF rfl rfl rfl (by omega) (by omega)) | exact .eff (.idxO rfl rfl rfl rfl (by omega) (by omega)) | exact .eff (.build rfl rfl rfl rfl) | exact .eff (.eqA rfl rfl rfl rfl rfl) | exact .eff (.neA rfl rfl rfl rfl rfl) | exact .eff (.quo rfl rfl (by decide)) | exact .eff (.rem rfl rfl (by decide)) | exact .eff (.shr rfl rfl (by decide) (by decide)) | exact .eff (.shl rfl rfl (by decide) (by decide)) | exact .eff (.conv rfl rfl rfl) | exact .eff (.strEq rfl rfl) | exact .eff (.strNe rfl rfl) | exact .eff (.mkFn) | exact .eff (.nilO rfl) | exact .eff (.nilF rfl) | exact .eff (.neg rfl) | exact .eff (.max rfl rfl) | exact .eff (.min rfl rfl)))
      | with_reducible refine WP.seq ?_
      | with_reducible refine WP.reg tbl_ok rfl ?_
      | with_reducible refine Ops.nil ?_
      | with_reducible refine thenQ.nor ?_
      | with_reducible refine thenQ.ex ?_
      | with_reducible refine thenQ.ret ?_
      | with_reducible refine blockQ.nor ?_
      | with_reducible refine blockQ.ret ?_
      | with_reducible refine blockQ.hit rfl ?_
      | with_reducible refine blockQ.out rfl ?_
      | with_reducible refine WP.block ?_
      | with_reducible refine WP.skip ?_
      | with_reducible refine WP.exit ?_
      | with_reducible refine WP.ret ?_
      | refine WP.condT rfl ?_
      | refine WP.condF rfl ?_
      | (refine WP.cond rfl ?_ ?_ <;> intro hcond)
      | (apply Ops.gst; (· rfl); (· rfl); (· rfl); (· rfl); (· rfl); (· rfl); (· rfl); (· first | exact .b | exact .w); (· intro hc; repeat' (first | exact trivial | exact fun _ => hc | exact fun _ => hc.1 | exact fun _ => ⟨hc.1.1, hc.1.2⟩ | refine And.intro ?_ ?_)); (· intro hc; first | (exact .eff (.idxS rfl rfl rfl encPo_len hx)) | exact .eff (.mvG rfl) | exact .eff (.asg rfl) | exact .eff (.loadO rfl rfl rfl) | exact .eff (.loadF rfl rfl) | exact .eff (.fldO rfl rfl rfl) | exact .eff (.fldF rfl rfl rfl) | (refine .eff (.add64 rfl rfl ?_ ?_) <;> omega) | (refine .eff (.sub64 rfl rfl ?_ ?_) <;> omega) | exact .eff (.lenF rfl rfl) | exact .eff (.lenO rfl rfl rfl) | exact .eff (.lenN rfl rfl) | exact .eff (.lenS rfl rfl) | exact .eff (.or rfl rfl rfl) | exact .eff (.and rfl rfl rfl) | exact .eff (.not rfl) | exact .eff (.extract rfl rfl) | (refine .eff (.mul64 rfl rfl ?_ ?_) <;> omega) | exact .eff (.bin rfl rfl rfl) | (refine .eff (.quo64 rfl rfl ?_ ?_ ?_) <;> omega) | (refine .eff (.rem64 rfl rfl ?_ ?_) <;> omega) | exact .eff (.idxPO rfl rfl rfl (by omega) (by omega)) | exact .eff (.idxPF rfl rfl rfl (by omega) (by omega)) | exact .eff (.idxO rfl rfl rfl rfl (by omega) (by omega)) | exact .eff (.build rfl rfl rfl rfl) | exact .eff (.eqA rfl rfl rfl rfl rfl) | exact .eff (.neA rfl rfl rfl rfl rfl) | exact .eff (.quo rfl rfl (by decide)) | exact .eff (.rem rfl rfl (by decide)) | exact .eff (.shr rfl rfl (by decide) (by decide)) | exact .eff (.shl rfl rfl (by decide) (by decide)) | exact .eff (.conv rfl rfl rfl) | exact .eff (.strEq rfl rfl) | exact .eff (.strNe rfl rfl) | exact .eff (.mkFn) | exact .eff (.nilO rfl) | exact .eff (.nilF rfl) | exact .eff (.neg rfl) | exact .eff (.max rfl rfl) | exact .eff (.min rfl rfl)); (· rfl); (· rfl))
      | (apply Ops.new; (· rfl); (· rfl); (· rfl); (· first | exact .eff (.box rfl) | exact .eff (.alloc rfl) | exact .eff (.bslice rfl rfl rfl rfl rfl)); (· first | rfl | (simp only [freshB, noRefH, OB.cells, refsL_fv, refsL_app]; rfl)))
      | refine Ops.app rfl rfl rfl rfl rfl rfl rfl (by first | exact .nil | exact .own rfl (rmv_p _ _)) (by first | exact .nil | exact .own rfl (by first | rfl | exact onesB_map _) | exact .fz (by first | rfl | simp)) rfl ?_ (by first | rfl | (simp only [freshB, noRefH, OB.cells, refsL_fv, refsL_app]; rfl)) ?_
      | (show (_ : Nat) ≤ 140737488355328; omega)
      | refine Ops.stoW rfl rfl rfl rfl rfl rfl (by first | rfl | exact onesB_map _) rfl rfl (by repeat' (first | exact .here | apply Repl.there rfl)) ?_
      | refine Ops.stoB rfl rfl rfl rfl rfl rfl (by first | rfl | exact onesB_map _) rfl rfl (by repeat' (first | exact .here | apply Repl.there rfl)) ?_
      | refine Ops.stoR rfl rfl rfl rfl rfl rfl (by first | rfl | exact onesB_map _) rfl rfl (by repeat' (first | exact .here | apply Repl.there rfl)) ?_
      | refine Ops.gand rfl rfl rfl rfl rfl rfl rfl (by first | exact .b | exact .w) rfl rfl rfl (by simp) (by intro hc; first | exact hc | exact hc.1) (by intro hc; exact ⟨fun h => h.2, fun h => ⟨hc, h⟩⟩) ?_
      | refine Ops.gor rfl rfl rfl rfl rfl rfl rfl (by first | exact .b | exact .w) rfl rfl rfl (by simp) (by intro hc; first | exact hc | exact hc.1) (by intro hc; exact ⟨fun h => h.2, fun h => ⟨hc, h⟩⟩) ?_
      | refine WP.drwL tbl_ok mixed_no (by kernel_rfl) (by first | rfl | (simp only [freeB, noRefH, OB.cells, refsL_fv, refsL_app]; rfl)) rfl ?_
      | fail)
    · refine .f1 (.inl rfl) rfl ?_
      rw [poFault, if_neg h1, if_neg h2, if_pos (by rw [hd, hat, hcond]; rfl)]
    · refine ⟨k + 1, ⟨by omega, ?_⟩, by omega, ?_⟩
      · rw [hd, hat, hcond]
        rfl
      · skip
        refine St.le_of ?_ ?_ <;> (repeat' (first | exact trivial | refine ⟨⟨_, rfl, .refl _⟩, ?_⟩ | refine ⟨⟨_, rfl, .any _⟩, ?_⟩ | refine ⟨⟨_, rfl, .of_eq ?_⟩, ?_⟩ | refine ⟨⟨_, rfl, fun _ _ _ _ h => h⟩, ?_⟩ | fail))
    · exfalso
      simp at hcond
      omega
  case neg =>
    have h3 : ¬ (c.ps.any (fun q => q.id == p.id || (q.sw == p.sw && q.mac == p.mac)) = true) := by rw [hd, List.drop_of_length_le (by omega)]; simp
    repeat' (first
      | (apply Ops.loc; (· rfl); (· rfl); (· rfl); (· first | exact .eff (.mv rfl) | exact .eff (.asg rfl) | exact .eff (.loadO rfl rfl rfl) | exact .eff (.loadF rfl rfl) | exact .eff (.fldO rfl rfl rfl) | exact .eff (.fldF rfl rfl rfl) | (refine .eff (.add64 rfl rfl ?_ ?_) <;> omega) | (refine .eff (.sub64 rfl rfl ?_ ?_) <;> omega) | exact .eff (.lenF rfl rfl) | exact .eff (.lenO rfl rfl rfl) | exact .eff (.lenN rfl rfl) | exact .eff (.lenS rfl rfl) | exact .eff (.or rfl rfl rfl) | exact .eff (.and rfl rfl rfl) | exact .eff (.not rfl) | exact .eff (.extract rfl rfl) | (refine .eff (.mul64 rfl rfl ?_ ?_) <;> omega) | exact .eff (.bin rfl rfl rfl) | (refine .eff (.quo64 rfl rfl ?_ ?_ ?_) <;> omega) | (refine .eff (.rem64 rfl rfl ?_ ?_) <;> omega) | exact .eff (.idxPO rfl rfl rfl (by omega) (by omega)) | exact .eff (.idxPF rfl rfl rfl (by omega) (by omega)) | exact .eff (.idxO rfl rfl rfl rfl (by omega) (by omega)) | exact .eff (.build rfl rfl rfl rfl) | exact .eff (.eqA rfl rfl rfl rfl rfl) | exact .eff (.neA rfl rfl rfl rfl rfl) | exact .eff (.quo rfl rfl (by decide)) | exact .eff (.rem rfl rfl (by decide)) | exact .eff (.shr rfl rfl (by decide) (by decide)) | exact .eff (.shl rfl rfl (by decide) (by decide)) | exact .eff (.conv rfl rfl rfl) | exact .eff (.strEq rfl rfl) | exact .eff (.strNe rfl rfl) | exact .eff (.mkFn) | exact .eff (.nilO rfl) | exact .eff (.nilF rfl) | exact .eff (.neg rfl) | exact .eff (.max rfl rfl) | exact .eff (.min rfl rfl) | exact .callL rfl rfl rfl (by first | exact isTaken_T c _ _ hl) rfl | (apply LEff.callBL rfl rfl (by first | exact isTaken_T c _ _ hl) (by repeat' (first | exact .nil | refine .cons ?_ ?_ | exact .le (.refl _) | exact .row rfl | exact .box rfl | exact .le .nil | refine .agg ?_ | refine .fn ?_ | fail)) rfl)))
      | with_reducible refine WP.seq ?_
      | with_reducible refine WP.reg tbl_ok rfl ?_
      | with_reducible refine Ops.nil ?_
      | with_reducible refine thenQ.nor ?_
      | with_reducible refine thenQ.ex ?_
      | with_reducible refine thenQ.ret ?_
      | with_reducible refine blockQ.nor ?_
      | with_reducible refine blockQ.ret ?_
      | with_reducible refine blockQ.hit rfl ?_
      | with_reducible refine blockQ.out rfl ?_
      | with_reducible refine WP.block ?_
      | with_reducible refine WP.skip ?_
      | with_reducible refine WP.exit ?_
      | with_reducible refine WP.ret ?_
      | refine WP.condT rfl ?_
      | refine WP.condF rfl ?_
      | (refine WP.cond rfl ?_ ?_ <;> intro hcond)
      | (apply Ops.gst; (· rfl); (· rfl); (· rfl); (· rfl); (· rfl); (· rfl); (· rfl); (· first | exact .b | exact .w); (· intro hc; repeat' (first | exact trivial | exact fun _ => hc | exact fun _ => hc.1 | exact fun _ => ⟨hc.1.1, hc.1.2⟩ | refine And.intro ?_ ?_)); (· intro hc; first | exact .eff (.mvG rfl) | exact .eff (.asg rfl) | exact .eff (.loadO rfl rfl rfl) | exact .eff (.loadF rfl rfl) | exact .eff (.fldO rfl rfl rfl) | exact .eff (.fldF rfl rfl rfl) | (refine .eff (.add64 rfl rfl ?_ ?_) <;> omega) | (refine .eff (.sub64 rfl rfl ?_ ?_) <;> omega) | exact .eff (.lenF rfl rfl) | exact .eff (.lenO rfl rfl rfl) | exact .eff (.lenN rfl rfl) | exact .eff (.lenS rfl rfl) | exact .eff (.or rfl rfl rfl) | exact .eff (.and rfl rfl rfl) | exact .eff (.not rfl) | exact .eff (.extract rfl rfl) | (refine .eff (.mul64 rfl rfl ?_ ?_) <;> omega) | exact .eff (.bin rfl rfl rfl) | (refine .eff (.quo64 rfl rfl ?_ ?_ ?_) <;> omega) | (refine .eff (.rem64 rfl rfl ?_ ?_) <;> omega) | exact .eff (.idxPO rfl rfl rfl (by omega) (by omega)) | exact .eff (.idxPF rfl rfl rfl (by omega) (by omega)) | exact .eff (.idxO rfl rfl rfl rfl (by omega) (by omega)) | exact .eff (.build rfl rfl rfl rfl) | exact .eff (.eqA rfl rfl rfl rfl rfl) | exact .eff (.neA rfl rfl rfl rfl rfl) | exact .eff (.quo rfl rfl (by decide)) | exact .eff (.rem rfl rfl (by decide)) | exact .eff (.shr rfl rfl (by decide) (by decide)) | exact .eff (.shl rfl rfl (by decide) (by decide)) | exact .eff (.conv rfl rfl rfl) | exact .eff (.strEq rfl rfl) | exact .eff (.strNe rfl rfl) | exact .eff (.mkFn) | exact .eff (.nilO rfl) | exact .eff (.nilF rfl) | exact .eff (.neg rfl) | exact .eff (.max rfl rfl) | exact .eff (.min rfl rfl) | exact .callG rfl rfl rfl (by first | exact isTaken_T c _ _ hl) rfl | (apply LEff.callBG rfl rfl (by first | exact isTaken_T c _ _ hl) (by repeat' (first | exact .nil | refine .cons ?_ ?_ | exact .le (.refl _) | exact .row rfl | exact .box rfl | exact .le .nil | refine .agg ?_ | refine .fn ?_ | fail)) rfl)); (· rfl); (· rfl))
      | (apply Ops.new; (· rfl); (· rfl); (· rfl); (· first | exact .eff (.box rfl) | exact .eff (.alloc rfl) | exact .eff (.bslice rfl rfl rfl rfl rfl)); (· first | rfl | (simp only [freshB, noRefH, OB.cells, refsL_fv, refsL_app]; rfl)))
      | refine Ops.app rfl rfl rfl rfl rfl rfl rfl (by first | exact .nil | exact .own rfl (rmv_p _ _)) (by first | exact .nil | exact .own rfl (by first | rfl | exact onesB_map _) | exact .fz (by first | rfl | simp)) rfl ?_ (by first | rfl | (simp only [freshB, noRefH, OB.cells, refsL_fv, refsL_app]; rfl)) ?_
      | (show (_ : Nat) ≤ 140737488355328; omega)
      | refine Ops.stoW rfl rfl rfl rfl rfl rfl (by first | rfl | exact onesB_map _) rfl rfl (by repeat' (first | exact .here | apply Repl.there rfl)) ?_
      | refine Ops.stoB rfl rfl rfl rfl rfl rfl (by first | rfl | exact onesB_map _) rfl rfl (by repeat' (first | exact .here | apply Repl.there rfl)) ?_
      | refine Ops.stoR rfl rfl rfl rfl rfl rfl (by first | rfl | exact onesB_map _) rfl rfl (by repeat' (first | exact .here | apply Repl.there rfl)) ?_
      | refine Ops.gand rfl rfl rfl rfl rfl rfl rfl (by first | exact .b | exact .w) rfl rfl rfl (by simp) (by intro hc; first | exact hc | exact hc.1) (by intro hc; exact ⟨fun h => h.2, fun h => ⟨hc, h⟩⟩) ?_
      | refine Ops.gor rfl rfl rfl rfl rfl rfl rfl (by first | exact .b | exact .w) rfl rfl rfl (by simp) (by intro hc; first | exact hc | exact hc.1) (by intro hc; exact ⟨fun h => h.2, fun h => ⟨hc, h⟩⟩) ?_
      | refine WP.drwL tbl_ok mixed_no (by kernel_rfl) (by first | rfl | (simp only [freeB, noRefH, OB.cells, refsL_fv, refsL_app]; rfl)) rfl ?_
      | fail)
    · exfalso
      simp at hcond
      omega
    · refine .f1 (.inl rfl) rfl ?_
      rw [poFault, if_neg h1, if_neg h2, if_neg h3, ← swOf_tenant, if_pos hcond]
    · refine .f1 (.inl rfl) rfl ?_
      rename_i h4
      rw [poFault, if_neg h1, if_neg h2, if_neg h3, ← swOf_tenant, if_neg (fun h => by rw [h] at h4; cases h4), if_pos (by simp at hcond; omega)]
    · refine .f1 (.inl rfl) rfl ?_
      rename_i h4
      rw [poFault, if_neg h1, if_neg h2, if_neg h3, ← swOf_tenant, if_neg (fun h => by rw [h] at h4; cases h4), if_neg (by simp at hcond; omega)]
theorem unit_T (b : Nat) (hb : b ≤ 16) : Fun Try.prog 137 [.fv (.int .i64 b)] (.fv (.int .i64 (unitOf b))) := by
  refine Fun.body tbl_ok Try.func137 rfl (by kernel_rfl) rfl rfl rfl ?_
  repeat' (first
    | (apply Ops.loc; (· rfl); (· rfl); (· rfl); (· first | exact .eff (.mv rfl) | exact .eff (.asg rfl) | exact .eff (.loadO rfl rfl rfl) | exact .eff (.loadF rfl rfl) | exact .eff (.fldO rfl rfl rfl) | exact .eff (.fldF rfl rfl rfl) | (refine .eff (.add64 rfl rfl ?_ ?_) <;> omega) | (refine .eff (.sub64 rfl rfl ?_ ?_) <;> omega) | exact .eff (.lenF rfl rfl) | exact .eff (.lenO rfl rfl rfl) | exact .eff (.lenN rfl rfl) | exact .eff (.lenS rfl rfl) | exact .eff (.or rfl rfl rfl) | exact .eff (.and rfl rfl rfl) | exact .eff (.not rfl) | exact .eff (.extract rfl rfl) | (refine .eff (.mul64 rfl rfl ?_ ?_) <;> omega) | exact .eff (.bin rfl rfl rfl) | (refine .eff (.quo64 rfl rfl ?_ ?_ ?_) <;> omega) | (refine .eff (.rem64 rfl rfl ?_ ?_) <;> omega) | exact .eff (.idxPO rfl rfl rfl (by omega) (by omega)) | exact .eff (.idxPF rfl rfl rfl (by omega) (by omega)) | exact .eff (.idxO rfl rfl rfl rfl (by omega) (by omega)) | exact .eff (.build rfl rfl rfl rfl) | exact .eff (.eqA rfl rfl rfl rfl rfl) | exact .eff (.neA rfl rfl rfl rfl rfl) | exact .eff (.quo rfl rfl (by decide)) | exact .eff (.rem rfl rfl (by decide)) | exact .eff (.shr rfl rfl (by decide) (by decide)) | exact .eff (.shl rfl rfl (by decide) (by decide)) | exact .eff (.conv rfl rfl rfl) | exact .eff (.strEq rfl rfl) | exact .eff (.strNe rfl rfl) | exact .eff (.mkFn) | exact .eff (.nilO rfl) | exact .eff (.nilF rfl) | exact .eff (.neg rfl) | exact .eff (.max rfl rfl) | exact .eff (.min rfl rfl)))
    | with_reducible refine WP.seq ?_
    | with_reducible refine WP.reg tbl_ok rfl ?_
    | with_reducible refine Ops.nil ?_
    | with_reducible refine thenQ.nor ?_
    | with_reducible refine thenQ.ex ?_
    | with_reducible refine thenQ.ret ?_
    | with_reducible refine blockQ.nor ?_
    | with_reducible refine blockQ.ret ?_
    | with_reducible refine blockQ.hit rfl ?_
    | with_reducible refine blockQ.out rfl ?_
    | with_reducible refine WP.block ?_
    | with_reducible refine WP.skip ?_
    | with_reducible refine WP.exit ?_
    | with_reducible refine WP.ret ?_
    | refine WP.condT rfl ?_
    | refine WP.condF rfl ?_
    | (refine WP.cond rfl ?_ ?_ <;> intro hcond)
    | (apply Ops.gst; (· rfl); (· rfl); (· rfl); (· rfl); (· rfl); (· rfl); (· rfl); (· first | exact .b | exact .w); (· intro hc; repeat' (first | exact trivial | exact fun _ => hc | exact fun _ => hc.1 | exact fun _ => ⟨hc.1.1, hc.1.2⟩ | refine And.intro ?_ ?_)); (· intro hc; first | exact .eff (.mvG rfl) | exact .eff (.asg rfl) | exact .eff (.loadO rfl rfl rfl) | exact .eff (.loadF rfl rfl) | exact .eff (.fldO rfl rfl rfl) | exact .eff (.fldF rfl rfl rfl) | (refine .eff (.add64 rfl rfl ?_ ?_) <;> omega) | (refine .eff (.sub64 rfl rfl ?_ ?_) <;> omega) | exact .eff (.lenF rfl rfl) | exact .eff (.lenO rfl rfl rfl) | exact .eff (.lenN rfl rfl) | exact .eff (.lenS rfl rfl) | exact .eff (.or rfl rfl rfl) | exact .eff (.and rfl rfl rfl) | exact .eff (.not rfl) | exact .eff (.extract rfl rfl) | (refine .eff (.mul64 rfl rfl ?_ ?_) <;> omega) | exact .eff (.bin rfl rfl rfl) | (refine .eff (.quo64 rfl rfl ?_ ?_ ?_) <;> omega) | (refine .eff (.rem64 rfl rfl ?_ ?_) <;> omega) | exact .eff (.idxPO rfl rfl rfl (by omega) (by omega)) | exact .eff (.idxPF rfl rfl rfl (by omega) (by omega)) | exact .eff (.idxO rfl rfl rfl rfl (by omega) (by omega)) | exact .eff (.build rfl rfl rfl rfl) | exact .eff (.eqA rfl rfl rfl rfl rfl) | exact .eff (.neA rfl rfl rfl rfl rfl) | exact .eff (.quo rfl rfl (by decide)) | exact .eff (.rem rfl rfl (by decide)) | exact .eff (.shr rfl rfl (by decide) (by decide)) | exact .eff (.shl rfl rfl (by decide) (by decide)) | exact .eff (.conv rfl rfl rfl) | exact .eff (.strEq rfl rfl) | exact .eff (.strNe rfl rfl) | exact .eff (.mkFn) | exact .eff (.nilO rfl) | exact .eff (.nilF rfl) | exact .eff (.neg rfl) | exact .eff (.max rfl rfl) | exact .eff (.min rfl rfl)); (· rfl); (· rfl))
    | (apply Ops.new; (· rfl); (· rfl); (· rfl); (· first | exact .eff (.box rfl) | exact .eff (.alloc rfl) | exact .eff (.bslice rfl rfl rfl rfl rfl)); (· first | rfl | (simp only [freshB, noRefH, OB.cells, refsL_fv, refsL_app]; rfl)))
    | refine Ops.app rfl rfl rfl rfl rfl rfl rfl (by first | exact .nil | exact .own rfl (rmv_p _ _)) (by first | exact .nil | exact .own rfl (by first | rfl | exact onesB_map _) | exact .fz (by first | rfl | simp)) rfl ?_ (by first | rfl | (simp only [freshB, noRefH, OB.cells, refsL_fv, refsL_app]; rfl)) ?_
    | (show (_ : Nat) ≤ 140737488355328; omega)
    | refine Ops.stoW rfl rfl rfl rfl rfl rfl (by first | rfl | exact onesB_map _) rfl rfl (by repeat' (first | exact .here | apply Repl.there rfl)) ?_
    | refine Ops.stoB rfl rfl rfl rfl rfl rfl (by first | rfl | exact onesB_map _) rfl rfl (by repeat' (first | exact .here | apply Repl.there rfl)) ?_
    | refine Ops.stoR rfl rfl rfl rfl rfl rfl (by first | rfl | exact onesB_map _) rfl rfl (by repeat' (first | exact .here | apply Repl.there rfl)) ?_
    | refine Ops.gand rfl rfl rfl rfl rfl rfl rfl (by first | exact .b | exact .w) rfl rfl rfl (by simp) (by intro hc; first | exact hc | exact hc.1) (by intro hc; exact ⟨fun h => h.2, fun h => ⟨hc, h⟩⟩) ?_
    | refine Ops.gor rfl rfl rfl rfl rfl rfl rfl (by first | exact .b | exact .w) rfl rfl rfl (by simp) (by intro hc; first | exact hc | exact hc.1) (by intro hc; exact ⟨fun h => h.2, fun h => ⟨hc, h⟩⟩) ?_
    | refine WP.drwL tbl_ok mixed_no (by kernel_rfl) (by first | rfl | (simp only [freeB, noRefH, OB.cells, refsL_fv, refsL_app]; rfl)) rfl ?_
    | fail)
  refine WP.loop (ι := Nat) (fun k => ⟨[(0, .fv (.int .i64 ((b : Int) - k))), (3, .fv (.int .i64 ((2 ^ (16 - k) : Nat) : Int)))], []⟩) (fun k => k ≤ b) (fun k => b - k) 0 (by omega) ?_ ?_
  · skip
    refine St.le_of ?_ ?_ <;> (repeat' (first | exact trivial | refine ⟨⟨_, rfl, .refl _⟩, ?_⟩ | refine ⟨⟨_, rfl, .any _⟩, ?_⟩ | refine ⟨⟨_, rfl, .of_eq ?_⟩, ?_⟩ | refine ⟨⟨_, rfl, fun _ _ _ _ h => h⟩, ?_⟩ | fail))
  rintro k hk
  try dsimp only
  have hp : (2 : Nat) ^ (16 - k) ≤ 65536 := by
    have := Nat.pow_le_pow_right (n := 2) (by omega) (show 16 - k ≤ 16 by omega)
    simpa using this
  have hpz := Nat.two_pow_pos (16 - k)
  generalize hq : (2 : Nat) ^ (16 - k) = q at hp hpz
  by_cases hlt : k < b
  case pos =>
    repeat' (first
      | (apply Ops.loc; (· rfl); (· rfl); (· rfl); (· first | exact .eff (.mv rfl) | exact .eff (.asg rfl) | exact .eff (.loadO rfl rfl rfl) | exact .eff (.loadF rfl rfl) | exact .eff (.fldO rfl rfl rfl) | exact .eff (.fldF rfl rfl rfl) | (refine .eff (.add64 rfl rfl ?_ ?_) <;> omega) | (refine .eff (.sub64 rfl rfl ?_ ?_) <;> omega) | exact .eff (.lenF rfl rfl) | exact .eff (.lenO rfl rfl rfl) | exact .eff (.lenN rfl rfl) | exact .eff (.lenS rfl rfl) | exact .eff (.or rfl rfl rfl) | exact .eff (.and rfl rfl rfl) | exact .eff (.not rfl) | exact .eff (.extract rfl rfl) | (refine .eff (.mul64 rfl rfl ?_ ?_) <;> omega) | exact .eff (.bin rfl rfl rfl) | (refine .eff (.quo64 rfl rfl ?_ ?_ ?_) <;> omega) | (refine .eff (.rem64 rfl rfl ?_ ?_) <;> omega) | exact .eff (.idxPO rfl rfl rfl (by omega) (by omega)) | exact .eff (.idxPF rfl rfl rfl (by omega) (by omega)) | exact .eff (.idxO rfl rfl rfl rfl (by omega) (by omega)) | exact .eff (.build rfl rfl rfl rfl) | exact .eff (.eqA rfl rfl rfl rfl rfl) | exact .eff (.neA rfl rfl rfl rfl rfl) | exact .eff (.quo rfl rfl (by decide)) | exact .eff (.rem rfl rfl (by decide)) | exact .eff (.shr rfl rfl (by decide) (by decide)) | exact .eff (.shl rfl rfl (by decide) (by decide)) | exact .eff (.conv rfl rfl rfl) | exact .eff (.strEq rfl rfl) | exact .eff (.strNe rfl rfl) | exact .eff (.mkFn) | exact .eff (.nilO rfl) | exact .eff (.nilF rfl) | exact .eff (.neg rfl) | exact .eff (.max rfl rfl) | exact .eff (.min rfl rfl)))
      | with_reducible refine WP.seq ?_
      | with_reducible refine WP.reg tbl_ok rfl ?_
      | with_reducible refine Ops.nil ?_
      | with_reducible refine thenQ.nor ?_
      | with_reducible refine thenQ.ex ?_
      | with_reducible refine thenQ.ret ?_
      | with_reducible refine blockQ.nor ?_
      | with_reducible refine blockQ.ret ?_
      | with_reducible refine blockQ.hit rfl ?_
      | with_reducible refine blockQ.out rfl ?_
      | with_reducible refine WP.block ?_
      | with_reducible refine WP.skip ?_
      | with_reducible refine WP.exit ?_
      | with_reducible refine WP.ret ?_
      | refine WP.condT rfl ?_
      | refine WP.condF rfl ?_
      | (refine WP.cond rfl ?_ ?_ <;> intro hcond)
      | (apply Ops.gst; (· rfl); (· rfl); (· rfl); (· rfl); (· rfl); (· rfl); (· rfl); (· first | exact .b | exact .w); (· intro hc; repeat' (first | exact trivial | exact fun _ => hc | exact fun _ => hc.1 | exact fun _ => ⟨hc.1.1, hc.1.2⟩ | refine And.intro ?_ ?_)); (· intro hc; first | exact .eff (.mvG rfl) | exact .eff (.asg rfl) | exact .eff (.loadO rfl rfl rfl) | exact .eff (.loadF rfl rfl) | exact .eff (.fldO rfl rfl rfl) | exact .eff (.fldF rfl rfl rfl) | (refine .eff (.add64 rfl rfl ?_ ?_) <;> omega) | (refine .eff (.sub64 rfl rfl ?_ ?_) <;> omega) | exact .eff (.lenF rfl rfl) | exact .eff (.lenO rfl rfl rfl) | exact .eff (.lenN rfl rfl) | exact .eff (.lenS rfl rfl) | exact .eff (.or rfl rfl rfl) | exact .eff (.and rfl rfl rfl) | exact .eff (.not rfl) | exact .eff (.extract rfl rfl) | (refine .eff (.mul64 rfl rfl ?_ ?_) <;> omega) | exact .eff (.bin rfl rfl rfl) | (refine .eff (.quo64 rfl rfl ?_ ?_ ?_) <;> omega) | (refine .eff (.rem64 rfl rfl ?_ ?_) <;> omega) | exact .eff (.idxPO rfl rfl rfl (by omega) (by omega)) | exact .eff (.idxPF rfl rfl rfl (by omega) (by omega)) | exact .eff (.idxO rfl rfl rfl rfl (by omega) (by omega)) | exact .eff (.build rfl rfl rfl rfl) | exact .eff (.eqA rfl rfl rfl rfl rfl) | exact .eff (.neA rfl rfl rfl rfl rfl) | exact .eff (.quo rfl rfl (by decide)) | exact .eff (.rem rfl rfl (by decide)) | exact .eff (.shr rfl rfl (by decide) (by decide)) | exact .eff (.shl rfl rfl (by decide) (by decide)) | exact .eff (.conv rfl rfl rfl) | exact .eff (.strEq rfl rfl) | exact .eff (.strNe rfl rfl) | exact .eff (.mkFn) | exact .eff (.nilO rfl) | exact .eff (.nilF rfl) | exact .eff (.neg rfl) | exact .eff (.max rfl rfl) | exact .eff (.min rfl rfl)); (· rfl); (· rfl))
      | (apply Ops.new; (· rfl); (· rfl); (· rfl); (· first | exact .eff (.box rfl) | exact .eff (.alloc rfl) | exact .eff (.bslice rfl rfl rfl rfl rfl)); (· first | rfl | (simp only [freshB, noRefH, OB.cells, refsL_fv, refsL_app]; rfl)))
      | refine Ops.app rfl rfl rfl rfl rfl rfl rfl (by first | exact .nil | exact .own rfl (rmv_p _ _)) (by first | exact .nil | exact .own rfl (by first | rfl | exact onesB_map _) | exact .fz (by first | rfl | simp)) rfl ?_ (by first | rfl | (simp only [freshB, noRefH, OB.cells, refsL_fv, refsL_app]; rfl)) ?_
      | (show (_ : Nat) ≤ 140737488355328; omega)
      | refine Ops.stoW rfl rfl rfl rfl rfl rfl (by first | rfl | exact onesB_map _) rfl rfl (by repeat' (first | exact .here | apply Repl.there rfl)) ?_
      | refine Ops.stoB rfl rfl rfl rfl rfl rfl (by first | rfl | exact onesB_map _) rfl rfl (by repeat' (first | exact .here | apply Repl.there rfl)) ?_
      | refine Ops.stoR rfl rfl rfl rfl rfl rfl (by first | rfl | exact onesB_map _) rfl rfl (by repeat' (first | exact .here | apply Repl.there rfl)) ?_
      | refine Ops.gand rfl rfl rfl rfl rfl rfl rfl (by first | exact .b | exact .w) rfl rfl rfl (by simp) (by intro hc; first | exact hc | exact hc.1) (by intro hc; exact ⟨fun h => h.2, fun h => ⟨hc, h⟩⟩) ?_
      | refine Ops.gor rfl rfl rfl rfl rfl rfl rfl (by first | exact .b | exact .w) rfl rfl rfl (by simp) (by intro hc; first | exact hc | exact hc.1) (by intro hc; exact ⟨fun h => h.2, fun h => ⟨hc, h⟩⟩) ?_
      | refine WP.drwL tbl_ok mixed_no (by kernel_rfl) (by first | rfl | (simp only [freeB, noRefH, OB.cells, refsL_fv, refsL_app]; rfl)) rfl ?_
      | fail)
    · refine ⟨k + 1, by omega, by omega, ?_⟩
      refine St.le_of ?_ ?_ <;> (repeat' (first | exact trivial | refine ⟨⟨_, rfl, .refl _⟩, ?_⟩ | refine ⟨⟨_, rfl, .any _⟩, ?_⟩ | refine ⟨⟨_, rfl, .of_eq ?_⟩, ?_⟩ | refine ⟨⟨_, rfl, fun _ _ _ _ h => h⟩, ?_⟩ | fail))
      · congr 2
        omega
      · rw [show 16 - k = (16 - (k + 1)) + 1 from by omega, Nat.pow_succ] at hq
        generalize (2 : Nat) ^ (16 - (k + 1)) = r at hq ⊢
        congr 2
        omega
    · exfalso
      simp at hcond
      omega
  case neg =>
    repeat' (first
      | (apply Ops.loc; (· rfl); (· rfl); (· rfl); (· first | exact .eff (.mv rfl) | exact .eff (.asg rfl) | exact .eff (.loadO rfl rfl rfl) | exact .eff (.loadF rfl rfl) | exact .eff (.fldO rfl rfl rfl) | exact .eff (.fldF rfl rfl rfl) | (refine .eff (.add64 rfl rfl ?_ ?_) <;> omega) | (refine .eff (.sub64 rfl rfl ?_ ?_) <;> omega) | exact .eff (.lenF rfl rfl) | exact .eff (.lenO rfl rfl rfl) | exact .eff (.lenN rfl rfl) | exact .eff (.lenS rfl rfl) | exact .eff (.or rfl rfl rfl) | exact .eff (.and rfl rfl rfl) | exact .eff (.not rfl) | exact .eff (.extract rfl rfl) | (refine .eff (.mul64 rfl rfl ?_ ?_) <;> omega) | exact .eff (.bin rfl rfl rfl) | (refine .eff (.quo64 rfl rfl ?_ ?_ ?_) <;> omega) | (refine .eff (.rem64 rfl rfl ?_ ?_) <;> omega) | exact .eff (.idxPO rfl rfl rfl (by omega) (by omega)) | exact .eff (.idxPF rfl rfl rfl (by omega) (by omega)) | exact .eff (.idxO rfl rfl rfl rfl (by omega) (by omega)) | exact .eff (.build rfl rfl rfl rfl) | exact .eff (.eqA rfl rfl rfl rfl rfl) | exact .eff (.neA rfl rfl rfl rfl rfl) | exact .eff (.quo rfl rfl (by decide)) | exact .eff (.rem rfl rfl (by decide)) | exact .eff (.shr rfl rfl (by decide) (by decide)) | exact .eff (.shl rfl rfl (by decide) (by decide)) | exact .eff (.conv rfl rfl rfl) | exact .eff (.strEq rfl rfl) | exact .eff (.strNe rfl rfl) | exact .eff (.mkFn) | exact .eff (.nilO rfl) | exact .eff (.nilF rfl) | exact .eff (.neg rfl) | exact .eff (.max rfl rfl) | exact .eff (.min rfl rfl)))
      | with_reducible refine WP.seq ?_
      | with_reducible refine WP.reg tbl_ok rfl ?_
      | with_reducible refine Ops.nil ?_
      | with_reducible refine thenQ.nor ?_
      | with_reducible refine thenQ.ex ?_
      | with_reducible refine thenQ.ret ?_
      | with_reducible refine blockQ.nor ?_
      | with_reducible refine blockQ.ret ?_
      | with_reducible refine blockQ.hit rfl ?_
      | with_reducible refine blockQ.out rfl ?_
      | with_reducible refine WP.block ?_
      | with_reducible refine WP.skip ?_
      | with_reducible refine WP.exit ?_
      | with_reducible refine WP.ret ?_
      | refine WP.condT rfl ?_
      | refine WP.condF rfl ?_
      | (refine WP.cond rfl ?_ ?_ <;> intro hcond)
      | (apply Ops.gst; (· rfl); (· rfl); (· rfl); (· rfl); (· rfl); (· rfl); (· rfl); (· first | exact .b | exact .w); (· intro hc; repeat' (first | exact trivial | exact fun _ => hc | exact fun _ => hc.1 | exact fun _ => ⟨hc.1.1, hc.1.2⟩ | refine And.intro ?_ ?_)); (· intro hc; first | exact .eff (.mvG rfl) | exact .eff (.asg rfl) | exact .eff (.loadO rfl rfl rfl) | exact .eff (.loadF rfl rfl) | exact .eff (.fldO rfl rfl rfl) | exact .eff (.fldF rfl rfl rfl) | (refine .eff (.add64 rfl rfl ?_ ?_) <;> omega) | (refine .eff (.sub64 rfl rfl ?_ ?_) <;> omega) | exact .eff (.lenF rfl rfl) | exact .eff (.lenO rfl rfl rfl) | exact .eff (.lenN rfl rfl) | exact .eff (.lenS rfl rfl) | exact .eff (.or rfl rfl rfl) | exact .eff (.and rfl rfl rfl) | exact .eff (.not rfl) | exact .eff (.extract rfl rfl) | (refine .eff (.mul64 rfl rfl ?_ ?_) <;> omega) | exact .eff (.bin rfl rfl rfl) | (refine .eff (.quo64 rfl rfl ?_ ?_ ?_) <;> omega) | (refine .eff (.rem64 rfl rfl ?_ ?_) <;> omega) | exact .eff (.idxPO rfl rfl rfl (by omega) (by omega)) | exact .eff (.idxPF rfl rfl rfl (by omega) (by omega)) | exact .eff (.idxO rfl rfl rfl rfl (by omega) (by omega)) | exact .eff (.build rfl rfl rfl rfl) | exact .eff (.eqA rfl rfl rfl rfl rfl) | exact .eff (.neA rfl rfl rfl rfl rfl) | exact .eff (.quo rfl rfl (by decide)) | exact .eff (.rem rfl rfl (by decide)) | exact .eff (.shr rfl rfl (by decide) (by decide)) | exact .eff (.shl rfl rfl (by decide) (by decide)) | exact .eff (.conv rfl rfl rfl) | exact .eff (.strEq rfl rfl) | exact .eff (.strNe rfl rfl) | exact .eff (.mkFn) | exact .eff (.nilO rfl) | exact .eff (.nilF rfl) | exact .eff (.neg rfl) | exact .eff (.max rfl rfl) | exact .eff (.min rfl rfl)); (· rfl); (· rfl))
      | (apply Ops.new; (· rfl); (· rfl); (· rfl); (· first | exact .eff (.box rfl) | exact .eff (.alloc rfl) | exact .eff (.bslice rfl rfl rfl rfl rfl)); (· first | rfl | (simp only [freshB, noRefH, OB.cells, refsL_fv, refsL_app]; rfl)))
      | refine Ops.app rfl rfl rfl rfl rfl rfl rfl (by first | exact .nil | exact .own rfl (rmv_p _ _)) (by first | exact .nil | exact .own rfl (by first | rfl | exact onesB_map _) | exact .fz (by first | rfl | simp)) rfl ?_ (by first | rfl | (simp only [freshB, noRefH, OB.cells, refsL_fv, refsL_app]; rfl)) ?_
      | (show (_ : Nat) ≤ 140737488355328; omega)
      | refine Ops.stoW rfl rfl rfl rfl rfl rfl (by first | rfl | exact onesB_map _) rfl rfl (by repeat' (first | exact .here | apply Repl.there rfl)) ?_
      | refine Ops.stoB rfl rfl rfl rfl rfl rfl (by first | rfl | exact onesB_map _) rfl rfl (by repeat' (first | exact .here | apply Repl.there rfl)) ?_
      | refine Ops.stoR rfl rfl rfl rfl rfl rfl (by first | rfl | exact onesB_map _) rfl rfl (by repeat' (first | exact .here | apply Repl.there rfl)) ?_
      | refine Ops.gand rfl rfl rfl rfl rfl rfl rfl (by first | exact .b | exact .w) rfl rfl rfl (by simp) (by intro hc; first | exact hc | exact hc.1) (by intro hc; exact ⟨fun h => h.2, fun h => ⟨hc, h⟩⟩) ?_
      | refine Ops.gor rfl rfl rfl rfl rfl rfl rfl (by first | exact .b | exact .w) rfl rfl rfl (by simp) (by intro hc; first | exact hc | exact hc.1) (by intro hc; exact ⟨fun h => h.2, fun h => ⟨hc, h⟩⟩) ?_
      | refine WP.drwL tbl_ok mixed_no (by kernel_rfl) (by first | rfl | (simp only [freeB, noRefH, OB.cells, refsL_fv, refsL_app]; rfl)) rfl ?_
      | fail)
    · exfalso
      simp at hcond
      omega
    · refine .f1 (.inl rfl) rfl ?_
      have : k = b := by omega
      subst this
      rw [unitOf, Int.toNat_natCast, ← hq]
      simp
set_option maxHeartbeats 2000000 in
theorem aclFault_T (c : Cf) (a : Ac) (hl : c.Small) : Fun Try.prog 102 [.agg ((encCf c).map .fv), .agg ((encAc a).map .fv)] (.fv (.int .i64 (acFault c a))) := by
  refine Fun.body tbl_ok Try.func102 rfl (by kernel_rfl) rfl rfl rfl ?_
  repeat' (first
    | (apply Ops.loc; (· rfl); (· rfl); (· rfl); (· first | exact .eff (.mv rfl) | exact .eff (.asg rfl) | exact .eff (.loadO rfl rfl rfl) | exact .eff (.loadF rfl rfl) | exact .eff (.fldO rfl rfl rfl) | exact .eff (.fldF rfl rfl rfl) | (refine .eff (.add64 rfl rfl ?_ ?_) <;> omega) | (refine .eff (.sub64 rfl rfl ?_ ?_) <;> omega) | exact .eff (.lenF rfl rfl) | exact .eff (.lenO rfl rfl rfl) | exact .eff (.lenN rfl rfl) | exact .eff (.lenS rfl rfl) | exact .eff (.or rfl rfl rfl) | exact .eff (.and rfl rfl rfl) | exact .eff (.not rfl) | exact .eff (.extract rfl rfl) | (refine .eff (.mul64 rfl rfl ?_ ?_) <;> omega) | exact .eff (.bin rfl rfl rfl) | (refine .eff (.quo64 rfl rfl ?_ ?_ ?_) <;> omega) | (refine .eff (.rem64 rfl rfl ?_ ?_) <;> omega) | exact .eff (.idxPO rfl rfl rfl (by omega) (by omega)) | exact .eff (.idxPF rfl rfl rfl (by omega) (by omega)) | exact .eff (.idxO rfl rfl rfl rfl (by omega) (by omega)) | exact .eff (.build rfl rfl rfl rfl) | exact .eff (.eqA rfl rfl rfl rfl rfl) | exact .eff (.neA rfl rfl rfl rfl rfl) | exact .eff (.quo rfl rfl (by decide)) | exact .eff (.rem rfl rfl (by decide)) | exact .eff (.shr rfl rfl (by decide) (by decide)) | exact .eff (.shl rfl rfl (by decide) (by decide)) | exact .eff (.conv rfl rfl rfl) | exact .eff (.strEq rfl rfl) | exact .eff (.strNe rfl rfl) | exact .eff (.mkFn) | exact .eff (.nilO rfl) | exact .eff (.nilF rfl) | exact .eff (.neg rfl) | exact .eff (.max rfl rfl) | exact .eff (.min rfl rfl) | exact .callL rfl rfl rfl (by first | exact in_T _ _ _) rfl | (apply LEff.callBL rfl rfl (by first | exact in_T _ _ _) (by repeat' (first | exact .nil | refine .cons ?_ ?_ | exact .le (.refl _) | exact .row rfl | exact .box rfl | exact .le .nil | refine .agg ?_ | refine .fn ?_ | fail)) rfl)))
    | with_reducible refine WP.seq ?_
    | with_reducible refine WP.reg tbl_ok rfl ?_
    | with_reducible refine Ops.nil ?_
    | with_reducible refine thenQ.nor ?_
    | with_reducible refine thenQ.ex ?_
    | with_reducible refine thenQ.ret ?_
    | with_reducible refine blockQ.nor ?_
    | with_reducible refine blockQ.ret ?_
    | with_reducible refine blockQ.hit rfl ?_
    | with_reducible refine blockQ.out rfl ?_
    | with_reducible refine WP.block ?_
    | with_reducible refine WP.skip ?_
    | with_reducible refine WP.exit ?_
    | with_reducible refine WP.ret ?_
    | refine WP.condT rfl ?_
    | refine WP.condF rfl ?_
    | (refine WP.cond rfl ?_ ?_ <;> intro hcond)
    | (apply Ops.gst; (· rfl); (· rfl); (· rfl); (· rfl); (· rfl); (· rfl); (· rfl); (· first | exact .b | exact .w); (· intro hc; repeat' (first | exact trivial | exact fun _ => hc | exact fun _ => hc.1 | exact fun _ => ⟨hc.1.1, hc.1.2⟩ | refine And.intro ?_ ?_)); (· intro hc; first | exact .eff (.mvG rfl) | exact .eff (.asg rfl) | exact .eff (.loadO rfl rfl rfl) | exact .eff (.loadF rfl rfl) | exact .eff (.fldO rfl rfl rfl) | exact .eff (.fldF rfl rfl rfl) | (refine .eff (.add64 rfl rfl ?_ ?_) <;> omega) | (refine .eff (.sub64 rfl rfl ?_ ?_) <;> omega) | exact .eff (.lenF rfl rfl) | exact .eff (.lenO rfl rfl rfl) | exact .eff (.lenN rfl rfl) | exact .eff (.lenS rfl rfl) | exact .eff (.or rfl rfl rfl) | exact .eff (.and rfl rfl rfl) | exact .eff (.not rfl) | exact .eff (.extract rfl rfl) | (refine .eff (.mul64 rfl rfl ?_ ?_) <;> omega) | exact .eff (.bin rfl rfl rfl) | (refine .eff (.quo64 rfl rfl ?_ ?_ ?_) <;> omega) | (refine .eff (.rem64 rfl rfl ?_ ?_) <;> omega) | exact .eff (.idxPO rfl rfl rfl (by omega) (by omega)) | exact .eff (.idxPF rfl rfl rfl (by omega) (by omega)) | exact .eff (.idxO rfl rfl rfl rfl (by omega) (by omega)) | exact .eff (.build rfl rfl rfl rfl) | exact .eff (.eqA rfl rfl rfl rfl rfl) | exact .eff (.neA rfl rfl rfl rfl rfl) | exact .eff (.quo rfl rfl (by decide)) | exact .eff (.rem rfl rfl (by decide)) | exact .eff (.shr rfl rfl (by decide) (by decide)) | exact .eff (.shl rfl rfl (by decide) (by decide)) | exact .eff (.conv rfl rfl rfl) | exact .eff (.strEq rfl rfl) | exact .eff (.strNe rfl rfl) | exact .eff (.mkFn) | exact .eff (.nilO rfl) | exact .eff (.nilF rfl) | exact .eff (.neg rfl) | exact .eff (.max rfl rfl) | exact .eff (.min rfl rfl) | exact .callG rfl rfl rfl (by first | exact in_T _ _ _) rfl | (apply LEff.callBG rfl rfl (by first | exact in_T _ _ _) (by repeat' (first | exact .nil | refine .cons ?_ ?_ | exact .le (.refl _) | exact .row rfl | exact .box rfl | exact .le .nil | refine .agg ?_ | refine .fn ?_ | fail)) rfl)); (· rfl); (· rfl))
    | (apply Ops.new; (· rfl); (· rfl); (· rfl); (· first | exact .eff (.box rfl) | exact .eff (.alloc rfl) | exact .eff (.bslice rfl rfl rfl rfl rfl)); (· first | rfl | (simp only [freshB, noRefH, OB.cells, refsL_fv, refsL_app]; rfl)))
    | refine Ops.app rfl rfl rfl rfl rfl rfl rfl (by first | exact .nil | exact .own rfl (rmv_p _ _)) (by first | exact .nil | exact .own rfl (by first | rfl | exact onesB_map _) | exact .fz (by first | rfl | simp)) rfl ?_ (by first | rfl | (simp only [freshB, noRefH, OB.cells, refsL_fv, refsL_app]; rfl)) ?_
    | (show (_ : Nat) ≤ 140737488355328; omega)
    | refine Ops.stoW rfl rfl rfl rfl rfl rfl (by first | rfl | exact onesB_map _) rfl rfl (by repeat' (first | exact .here | apply Repl.there rfl)) ?_
    | refine Ops.stoB rfl rfl rfl rfl rfl rfl (by first | rfl | exact onesB_map _) rfl rfl (by repeat' (first | exact .here | apply Repl.there rfl)) ?_
    | refine Ops.stoR rfl rfl rfl rfl rfl rfl (by first | rfl | exact onesB_map _) rfl rfl (by repeat' (first | exact .here | apply Repl.there rfl)) ?_
    | refine Ops.gand rfl rfl rfl rfl rfl rfl rfl (by first | exact .b | exact .w) rfl rfl rfl (by simp) (by intro hc; first | exact hc | exact hc.1) (by intro hc; exact ⟨fun h => h.2, fun h => ⟨hc, h⟩⟩) ?_
    | refine Ops.gor rfl rfl rfl rfl rfl rfl rfl (by first | exact .b | exact .w) rfl rfl rfl (by simp) (by intro hc; first | exact hc | exact hc.1) (by intro hc; exact ⟨fun h => h.2, fun h => ⟨hc, h⟩⟩) ?_
    | refine WP.drwL tbl_ok mixed_no (by kernel_rfl) (by first | rfl | (simp only [freeB, noRefH, OB.cells, refsL_fv, refsL_app]; rfl)) rfl ?_
    | fail)
  · refine .f1 (.inl rfl) rfl ?_
    rw [acFault, if_pos (by simpa [or_assoc] using hcond)]
  have h1 : ¬ (inR a.prio 0 1000 = false ∨ inR a.src 0 65535 = false ∨ inR a.dst 0 65535 = false ∨ inR a.srcBits 0 16 = false ∨ inR a.dstBits 0 16 = false ∨ inR a.port (-1) 65535 = false) := by simpa [and_assoc] using hcond
  have g1 := inR_iff.1 (show inR a.src 0 65535 = true by simp_all)
  have g2 := inR_iff.1 (show inR a.dst 0 65535 = true by simp_all)
  have g3 := inR_iff.1 (show inR a.srcBits 0 16 = true by simp_all)
  have g4 := inR_iff.1 (show inR a.dstBits 0 16 = true by simp_all)
  obtain ⟨sb, hsb⟩ := Int.eq_ofNat_of_zero_le g3.1
  obtain ⟨db, hdb⟩ := Int.eq_ofNat_of_zero_le g4.1
  have m1 := unit_T sb (by omega)
  have m2 := unit_T db (by omega)
  rw [← hsb] at m1
  rw [← hdb] at m2
  have p1 : 0 < unitOf a.srcBits := by unfold unitOf; exact Int.pow_pos (by omega)
  have p2 : 0 < unitOf a.dstBits := by unfold unitOf; exact Int.pow_pos (by omega)
  have hsec : (a.src % unitOf a.srcBits != 0 || a.dst % unitOf a.dstBits != 0) = true ↔ (a.src % unitOf a.srcBits ≠ 0 ∨ a.dst % unitOf a.dstBits ≠ 0) := by
    rw [Bool.or_eq_true, bne_iff_ne, bne_iff_ne]
  clear hcond
  repeat' (first
    | (apply Ops.loc; (· rfl); (· rfl); (· rfl); (· first | exact .eff (.mv rfl) | exact .eff (.asg rfl) | exact .eff (.loadO rfl rfl rfl) | exact .eff (.loadF rfl rfl) | exact .eff (.fldO rfl rfl rfl) | exact .eff (.fldF rfl rfl rfl) | (refine .eff (.add64 rfl rfl ?_ ?_) <;> omega) | (refine .eff (.sub64 rfl rfl ?_ ?_) <;> omega) | exact .eff (.lenF rfl rfl) | exact .eff (.lenO rfl rfl rfl) | exact .eff (.lenN rfl rfl) | exact .eff (.lenS rfl rfl) | exact .eff (.or rfl rfl rfl) | exact .eff (.and rfl rfl rfl) | exact .eff (.not rfl) | exact .eff (.extract rfl rfl) | (refine .eff (.mul64 rfl rfl ?_ ?_) <;> omega) | exact .eff (.bin rfl rfl rfl) | (refine .eff (.quo64 rfl rfl ?_ ?_ ?_) <;> omega) | (refine .eff (.rem64 rfl rfl ?_ ?_) <;> omega) | exact .eff (.idxPO rfl rfl rfl (by omega) (by omega)) | exact .eff (.idxPF rfl rfl rfl (by omega) (by omega)) | exact .eff (.idxO rfl rfl rfl rfl (by omega) (by omega)) | exact .eff (.build rfl rfl rfl rfl) | exact .eff (.eqA rfl rfl rfl rfl rfl) | exact .eff (.neA rfl rfl rfl rfl rfl) | exact .eff (.quo rfl rfl (by decide)) | exact .eff (.rem rfl rfl (by decide)) | exact .eff (.shr rfl rfl (by decide) (by decide)) | exact .eff (.shl rfl rfl (by decide) (by decide)) | exact .eff (.conv rfl rfl rfl) | exact .eff (.strEq rfl rfl) | exact .eff (.strNe rfl rfl) | exact .eff (.mkFn) | exact .eff (.nilO rfl) | exact .eff (.nilF rfl) | exact .eff (.neg rfl) | exact .eff (.max rfl rfl) | exact .eff (.min rfl rfl) | exact .callL rfl rfl rfl (by first | exact m1 | exact m2 | exact switchOf_T c _ hl) rfl | (apply LEff.callBL rfl rfl (by first | exact m1 | exact m2 | exact switchOf_T c _ hl) (by repeat' (first | exact .nil | refine .cons ?_ ?_ | exact .le (.refl _) | exact .row rfl | exact .box rfl | exact .le .nil | refine .agg ?_ | refine .fn ?_ | fail)) rfl)))
    | with_reducible refine WP.seq ?_
    | with_reducible refine WP.reg tbl_ok rfl ?_
    | with_reducible refine Ops.nil ?_
    | with_reducible refine thenQ.nor ?_
    | with_reducible refine thenQ.ex ?_
    | with_reducible refine thenQ.ret ?_
    | with_reducible refine blockQ.nor ?_
    | with_reducible refine blockQ.ret ?_
    | with_reducible refine blockQ.hit rfl ?_
    | with_reducible refine blockQ.out rfl ?_
    | with_reducible refine WP.block ?_
    | with_reducible refine WP.skip ?_
    | with_reducible refine WP.exit ?_
    | with_reducible refine WP.ret ?_
    | refine WP.condT rfl ?_
    | refine WP.condF rfl ?_
    | (refine WP.cond rfl ?_ ?_ <;> intro hcond)
    | (apply Ops.gst; (· rfl); (· rfl); (· rfl); (· rfl); (· rfl); (· rfl); (· rfl); (· first | exact .b | exact .w); (· intro hc; repeat' (first | exact trivial | exact fun _ => hc | exact fun _ => hc.1 | exact fun _ => ⟨hc.1.1, hc.1.2⟩ | refine And.intro ?_ ?_)); (· intro hc; first | exact .eff (.mvG rfl) | exact .eff (.asg rfl) | exact .eff (.loadO rfl rfl rfl) | exact .eff (.loadF rfl rfl) | exact .eff (.fldO rfl rfl rfl) | exact .eff (.fldF rfl rfl rfl) | (refine .eff (.add64 rfl rfl ?_ ?_) <;> omega) | (refine .eff (.sub64 rfl rfl ?_ ?_) <;> omega) | exact .eff (.lenF rfl rfl) | exact .eff (.lenO rfl rfl rfl) | exact .eff (.lenN rfl rfl) | exact .eff (.lenS rfl rfl) | exact .eff (.or rfl rfl rfl) | exact .eff (.and rfl rfl rfl) | exact .eff (.not rfl) | exact .eff (.extract rfl rfl) | (refine .eff (.mul64 rfl rfl ?_ ?_) <;> omega) | exact .eff (.bin rfl rfl rfl) | (refine .eff (.quo64 rfl rfl ?_ ?_ ?_) <;> omega) | (refine .eff (.rem64 rfl rfl ?_ ?_) <;> omega) | exact .eff (.idxPO rfl rfl rfl (by omega) (by omega)) | exact .eff (.idxPF rfl rfl rfl (by omega) (by omega)) | exact .eff (.idxO rfl rfl rfl rfl (by omega) (by omega)) | exact .eff (.build rfl rfl rfl rfl) | exact .eff (.eqA rfl rfl rfl rfl rfl) | exact .eff (.neA rfl rfl rfl rfl rfl) | exact .eff (.quo rfl rfl (by decide)) | exact .eff (.rem rfl rfl (by decide)) | exact .eff (.shr rfl rfl (by decide) (by decide)) | exact .eff (.shl rfl rfl (by decide) (by decide)) | exact .eff (.conv rfl rfl rfl) | exact .eff (.strEq rfl rfl) | exact .eff (.strNe rfl rfl) | exact .eff (.mkFn) | exact .eff (.nilO rfl) | exact .eff (.nilF rfl) | exact .eff (.neg rfl) | exact .eff (.max rfl rfl) | exact .eff (.min rfl rfl) | exact .callG rfl rfl rfl (by first | exact m1 | exact m2 | exact switchOf_T c _ hl) rfl | (apply LEff.callBG rfl rfl (by first | exact m1 | exact m2 | exact switchOf_T c _ hl) (by repeat' (first | exact .nil | refine .cons ?_ ?_ | exact .le (.refl _) | exact .row rfl | exact .box rfl | exact .le .nil | refine .agg ?_ | refine .fn ?_ | fail)) rfl)); (· rfl); (· rfl))
    | (apply Ops.new; (· rfl); (· rfl); (· rfl); (· first | exact .eff (.box rfl) | exact .eff (.alloc rfl) | exact .eff (.bslice rfl rfl rfl rfl rfl)); (· first | rfl | (simp only [freshB, noRefH, OB.cells, refsL_fv, refsL_app]; rfl)))
    | refine Ops.app rfl rfl rfl rfl rfl rfl rfl (by first | exact .nil | exact .own rfl (rmv_p _ _)) (by first | exact .nil | exact .own rfl (by first | rfl | exact onesB_map _) | exact .fz (by first | rfl | simp)) rfl ?_ (by first | rfl | (simp only [freshB, noRefH, OB.cells, refsL_fv, refsL_app]; rfl)) ?_
    | (show (_ : Nat) ≤ 140737488355328; omega)
    | refine Ops.stoW rfl rfl rfl rfl rfl rfl (by first | rfl | exact onesB_map _) rfl rfl (by repeat' (first | exact .here | apply Repl.there rfl)) ?_
    | refine Ops.stoB rfl rfl rfl rfl rfl rfl (by first | rfl | exact onesB_map _) rfl rfl (by repeat' (first | exact .here | apply Repl.there rfl)) ?_
    | refine Ops.stoR rfl rfl rfl rfl rfl rfl (by first | rfl | exact onesB_map _) rfl rfl (by repeat' (first | exact .here | apply Repl.there rfl)) ?_
    | refine Ops.gand rfl rfl rfl rfl rfl rfl rfl (by first | exact .b | exact .w) rfl rfl rfl (by simp) (by intro hc; first | exact hc | exact hc.1) (by intro hc; exact ⟨fun h => h.2, fun h => ⟨hc, h⟩⟩) ?_
    | refine Ops.gor rfl rfl rfl rfl rfl rfl rfl (by first | exact .b | exact .w) rfl rfl rfl (by simp) (by intro hc; first | exact hc | exact hc.1) (by intro hc; exact ⟨fun h => h.2, fun h => ⟨hc, h⟩⟩) ?_
    | refine WP.drwL tbl_ok mixed_no (by kernel_rfl) (by first | rfl | (simp only [freeB, noRefH, OB.cells, refsL_fv, refsL_app]; rfl)) rfl ?_
    | fail)
  · refine .f1 (.inl rfl) rfl ?_
    rw [acFault, if_neg h1, if_pos (hsec.1 hcond)]
  · refine .f1 (.inl rfl) rfl ?_
    rename_i h2
    rw [acFault, if_neg h1, if_neg (fun h => by rw [hsec.2 h] at h2; cases h2), if_pos (by simpa only [Bool.not_eq_true'] using hcond)]
  · refine .f1 (.inl rfl) rfl ?_
    rename_i h2 h3
    rw [acFault, if_neg h1, if_neg (fun h => by rw [hsec.2 h] at h2; cases h2), if_neg (by simpa only [Bool.not_eq_false', Bool.not_eq_false] using h3), if_pos (by simp at hcond; omega)]
  · refine .f1 (.inl rfl) rfl ?_
    rename_i h2 h3
    rw [acFault, if_neg h1, if_neg (fun h => by rw [hsec.2 h] at h2; cases h2), if_neg (by simpa only [Bool.not_eq_false', Bool.not_eq_false] using h3), if_neg (by simp at hcond; omega)]
end Go.Proofs.Ytfgiehfiieecoaa
