/- The law ConfChecks. -/
import Derived.Test.YtfgiehfiieecoaaG7
import Derived.Test.YtfgiehfiieecoaaR3
namespace Go.Proofs.Ytfgiehfiieecoaa
open Go.ChangeShapes Go.WideShapes Go.ChangeAt Go.RowKit
set_option maxRecDepth 100000

theorem confChecks_T (c : Cf) (hl : c.Small) : Fun Try.prog 15 [.agg ((encCf c).map .fv)] (.fv (.bool true)) := by
  have h1 := confCheck_T c hl
  have h2 := confMay_T c hl
  refine Fun.body tbl_ok Try.func15 rfl (by kernel_rfl) rfl rfl rfl ?_
  cases h : cfMay c <;> rw [h] at h1 h2
  · skip
    repeat' (first
      | (apply Ops.loc; (· rfl); (· rfl); (· rfl); (· first | exact .eff (.mv rfl) | exact .eff (.asg rfl) | exact .eff (.loadO rfl rfl rfl) | exact .eff (.loadF rfl rfl) | exact .eff (.fldO rfl rfl rfl) | exact .eff (.fldF rfl rfl rfl) | (refine .eff (.add64 rfl rfl ?_ ?_) <;> omega) | (refine .eff (.sub64 rfl rfl ?_ ?_) <;> omega) | exact .eff (.lenF rfl rfl) | exact .eff (.lenO rfl rfl rfl) | exact .eff (.lenN rfl rfl) | exact .eff (.lenS rfl rfl) | exact .eff (.or rfl rfl rfl) | exact .eff (.and rfl rfl rfl) | exact .eff (.not rfl) | exact .eff (.extract rfl rfl) | (refine .eff (.mul64 rfl rfl ?_ ?_) <;> omega) | exact .eff (.bin rfl rfl rfl) | (refine .eff (.quo64 rfl rfl ?_ ?_ ?_) <;> omega) | (refine .eff (.rem64 rfl rfl ?_ ?_) <;> omega) | exact .eff (.idxPO rfl rfl rfl (by omega) (by omega)) | exact .eff (.idxPF rfl rfl rfl (by omega) (by omega)) | exact .eff (.idxO rfl rfl rfl rfl (by omega) (by omega)) | exact .eff (.build rfl rfl rfl rfl) | exact .eff (.eqA rfl rfl rfl rfl rfl) | exact .eff (.neA rfl rfl rfl rfl rfl) | exact .eff (.quo rfl rfl (by decide)) | exact .eff (.rem rfl rfl (by decide)) | exact .eff (.shr rfl rfl (by decide) (by decide)) | exact .eff (.shl rfl rfl (by decide) (by decide)) | exact .eff (.conv rfl rfl rfl) | exact .eff (.strEq rfl rfl) | exact .eff (.strNe rfl rfl) | exact .eff (.mkFn) | exact .eff (.nilO rfl) | exact .eff (.nilF rfl) | exact .eff (.neg rfl) | exact .eff (.max rfl rfl) | exact .eff (.min rfl rfl) | exact .callL rfl rfl rfl (by first | exact h1 | exact h2) rfl | (apply LEff.callBL rfl rfl (by first | exact h1 | exact h2) (by repeat' (first | exact .nil | refine .cons ?_ ?_ | exact .le (.refl _) | exact .row rfl | exact .box rfl | exact .le .nil | refine .agg ?_ | refine .fn ?_ | fail)) rfl)))
      | with_reducible refine WP.seq ?_
      | with_reducible refine WP.reg tbl_ok rfl ?_
      | with_reducible refine Ops.nil ?_
      | with_reducible refine thenQ.nor ?_
      | with_reducible refine thenQ.ex ?_
      | with_reducible refine thenQ.ret ?_
      | with_reducible refine blockQ.nor ?_
      | with_reducible refine blockQ.ret ?_
      | with_reducible refine blockQ.hit rfl ?_
      | with_reducible refine blockQ.out rfl ?_
      | with_reducible refine WP.block ?_
      | with_reducible refine WP.skip ?_
      | with_reducible refine WP.exit ?_
      | with_reducible refine WP.ret ?_
      | refine WP.condT rfl ?_
      | refine WP.condF rfl ?_
      | (refine WP.cond rfl ?_ ?_ <;> intro hcond)
      | (apply Ops.gst; (· rfl); (· rfl); (· rfl); (· rfl); (· rfl); (· rfl); (· rfl); (· first | exact .b | exact .w); (· intro hc; repeat' (first | exact trivial | exact fun _ => hc | exact fun _ => hc.1 | exact fun _ => ⟨hc.1.1, hc.1.2⟩ | refine And.intro ?_ ?_)); (· intro hc; first | exact .eff (.mvG rfl) | exact .eff (.asg rfl) | exact .eff (.loadO rfl rfl rfl) | exact .eff (.loadF rfl rfl) | exact .eff (.fldO rfl rfl rfl) | exact .eff (.fldF rfl rfl rfl) | (refine .eff (.add64 rfl rfl ?_ ?_) <;> omega) | (refine .eff (.sub64 rfl rfl ?_ ?_) <;> omega) | exact .eff (.lenF rfl rfl) | exact .eff (.lenO rfl rfl rfl) | exact .eff (.lenN rfl rfl) | exact .eff (.lenS rfl rfl) | exact .eff (.or rfl rfl rfl) | exact .eff (.and rfl rfl rfl) | exact .eff (.not rfl) | exact .eff (.extract rfl rfl) | (refine .eff (.mul64 rfl rfl ?_ ?_) <;> omega) | exact .eff (.bin rfl rfl rfl) | (refine .eff (.quo64 rfl rfl ?_ ?_ ?_) <;> omega) | (refine .eff (.rem64 rfl rfl ?_ ?_) <;> omega) | exact .eff (.idxPO rfl rfl rfl (by omega) (by omega)) | exact .eff (.idxPF rfl rfl rfl (by omega) (by omega)) | exact .eff (.idxO rfl rfl rfl rfl (by omega) (by omega)) | exact .eff (.build rfl rfl rfl rfl) | exact .eff (.eqA rfl rfl rfl rfl rfl) | exact .eff (.neA rfl rfl rfl rfl rfl) | exact .eff (.quo rfl rfl (by decide)) | exact .eff (.rem rfl rfl (by decide)) | exact .eff (.shr rfl rfl (by decide) (by decide)) | exact .eff (.shl rfl rfl (by decide) (by decide)) | exact .eff (.conv rfl rfl rfl) | exact .eff (.strEq rfl rfl) | exact .eff (.strNe rfl rfl) | exact .eff (.mkFn) | exact .eff (.nilO rfl) | exact .eff (.nilF rfl) | exact .eff (.neg rfl) | exact .eff (.max rfl rfl) | exact .eff (.min rfl rfl) | exact .callG rfl rfl rfl (by first | exact h1 | exact h2) rfl | (apply LEff.callBG rfl rfl (by first | exact h1 | exact h2) (by repeat' (first | exact .nil | refine .cons ?_ ?_ | exact .le (.refl _) | exact .row rfl | exact .box rfl | exact .le .nil | refine .agg ?_ | refine .fn ?_ | fail)) rfl)); (· rfl); (· rfl))
      | (apply Ops.new; (· rfl); (· rfl); (· rfl); (· first | exact .eff (.box rfl) | exact .eff (.alloc rfl) | exact .eff (.bslice rfl rfl rfl rfl rfl)); (· first | rfl | (simp only [freshB, noRefH, OB.cells, refsL_fv, refsL_app]; rfl)))
      | refine Ops.app rfl rfl rfl rfl rfl rfl rfl (by first | exact .nil | exact .own rfl (rmv_p _ _)) (by first | exact .nil | exact .own rfl (by first | rfl | exact onesB_map _) | exact .fz (by first | rfl | simp)) rfl ?_ (by first | rfl | (simp only [freshB, noRefH, OB.cells, refsL_fv, refsL_app]; rfl)) ?_
      | (show (_ : Nat) ≤ 140737488355328; omega)
      | refine Ops.stoW rfl rfl rfl rfl rfl rfl (by first | rfl | exact onesB_map _) rfl rfl (by repeat' (first | exact .here | apply Repl.there rfl)) ?_
      | refine Ops.stoB rfl rfl rfl rfl rfl rfl (by first | rfl | exact onesB_map _) rfl rfl (by repeat' (first | exact .here | apply Repl.there rfl)) ?_
      | refine Ops.stoR rfl rfl rfl rfl rfl rfl (by first | rfl | exact onesB_map _) rfl rfl (by repeat' (first | exact .here | apply Repl.there rfl)) ?_
      | refine Ops.gand rfl rfl rfl rfl rfl rfl rfl (by first | exact .b | exact .w) rfl rfl rfl (by simp) (by intro hc; first | exact hc | exact hc.1) (by intro hc; exact ⟨fun h => h.2, fun h => ⟨hc, h⟩⟩) ?_
      | refine Ops.gor rfl rfl rfl rfl rfl rfl rfl (by first | exact .b | exact .w) rfl rfl rfl (by simp) (by intro hc; first | exact hc | exact hc.1) (by intro hc; exact ⟨fun h => h.2, fun h => ⟨hc, h⟩⟩) ?_
      | refine WP.drwL tbl_ok mixed_no (by kernel_rfl) (by first | rfl | (simp only [freeB, noRefH, OB.cells, refsL_fv, refsL_app]; rfl)) rfl ?_
      | fail)
    exact .f1 (.inl rfl) rfl rfl
  · skip
    repeat' (first
      | (apply Ops.loc; (· rfl); (· rfl); (· rfl); (· first | exact .eff (.mv rfl) | exact .eff (.asg rfl) | exact .eff (.loadO rfl rfl rfl) | exact .eff (.loadF rfl rfl) | exact .eff (.fldO rfl rfl rfl) | exact .eff (.fldF rfl rfl rfl) | (refine .eff (.add64 rfl rfl ?_ ?_) <;> omega) | (refine .eff (.sub64 rfl rfl ?_ ?_) <;> omega) | exact .eff (.lenF rfl rfl) | exact .eff (.lenO rfl rfl rfl) | exact .eff (.lenN rfl rfl) | exact .eff (.lenS rfl rfl) | exact .eff (.or rfl rfl rfl) | exact .eff (.and rfl rfl rfl) | exact .eff (.not rfl) | exact .eff (.extract rfl rfl) | (refine .eff (.mul64 rfl rfl ?_ ?_) <;> omega) | exact .eff (.bin rfl rfl rfl) | (refine .eff (.quo64 rfl rfl ?_ ?_ ?_) <;> omega) | (refine .eff (.rem64 rfl rfl ?_ ?_) <;> omega) | exact .eff (.idxPO rfl rfl rfl (by omega) (by omega)) | exact .eff (.idxPF rfl rfl rfl (by omega) (by omega)) | exact .eff (.idxO rfl rfl rfl rfl (by omega) (by omega)) | exact .eff (.build rfl rfl rfl rfl) | exact .eff (.eqA rfl rfl rfl rfl rfl) | exact .eff (.neA rfl rfl rfl rfl rfl) | exact .eff (.quo rfl rfl (by decide)) | exact .eff (.rem rfl rfl (by decide)) | exact .eff (.shr rfl rfl (by decide) (by decide)) | exact .eff (.shl rfl rfl (by decide) (by decide)) | exact .eff (.conv rfl rfl rfl) | exact .eff (.strEq rfl rfl) | exact .eff (.strNe rfl rfl) | exact .eff (.mkFn) | exact .eff (.nilO rfl) | exact .eff (.nilF rfl) | exact .eff (.neg rfl) | exact .eff (.max rfl rfl) | exact .eff (.min rfl rfl) | exact .callL rfl rfl rfl (by first | exact h1 | exact h2) rfl | (apply LEff.callBL rfl rfl (by first | exact h1 | exact h2) (by repeat' (first | exact .nil | refine .cons ?_ ?_ | exact .le (.refl _) | exact .row rfl | exact .box rfl | exact .le .nil | refine .agg ?_ | refine .fn ?_ | fail)) rfl)))
      | with_reducible refine WP.seq ?_
      | with_reducible refine WP.reg tbl_ok rfl ?_
      | with_reducible refine Ops.nil ?_
      | with_reducible refine thenQ.nor ?_
      | with_reducible refine thenQ.ex ?_
      | with_reducible refine thenQ.ret ?_
      | with_reducible refine blockQ.nor ?_
      | with_reducible refine blockQ.ret ?_
      | with_reducible refine blockQ.hit rfl ?_
      | with_reducible refine blockQ.out rfl ?_
      | with_reducible refine WP.block ?_
      | with_reducible refine WP.skip ?_
      | with_reducible refine WP.exit ?_
      | with_reducible refine WP.ret ?_
      | refine WP.condT rfl ?_
      | refine WP.condF rfl ?_
      | (refine WP.cond rfl ?_ ?_ <;> intro hcond)
      | (apply Ops.gst; (· rfl); (· rfl); (· rfl); (· rfl); (· rfl); (· rfl); (· rfl); (· first | exact .b | exact .w); (· intro hc; repeat' (first | exact trivial | exact fun _ => hc | exact fun _ => hc.1 | exact fun _ => ⟨hc.1.1, hc.1.2⟩ | refine And.intro ?_ ?_)); (· intro hc; first | exact .eff (.mvG rfl) | exact .eff (.asg rfl) | exact .eff (.loadO rfl rfl rfl) | exact .eff (.loadF rfl rfl) | exact .eff (.fldO rfl rfl rfl) | exact .eff (.fldF rfl rfl rfl) | (refine .eff (.add64 rfl rfl ?_ ?_) <;> omega) | (refine .eff (.sub64 rfl rfl ?_ ?_) <;> omega) | exact .eff (.lenF rfl rfl) | exact .eff (.lenO rfl rfl rfl) | exact .eff (.lenN rfl rfl) | exact .eff (.lenS rfl rfl) | exact .eff (.or rfl rfl rfl) | exact .eff (.and rfl rfl rfl) | exact .eff (.not rfl) | exact .eff (.extract rfl rfl) | (refine .eff (.mul64 rfl rfl ?_ ?_) <;> omega) | exact .eff (.bin rfl rfl rfl) | (refine .eff (.quo64 rfl rfl ?_ ?_ ?_) <;> omega) | (refine .eff (.rem64 rfl rfl ?_ ?_) <;> omega) | exact .eff (.idxPO rfl rfl rfl (by omega) (by omega)) | exact .eff (.idxPF rfl rfl rfl (by omega) (by omega)) | exact .eff (.idxO rfl rfl rfl rfl (by omega) (by omega)) | exact .eff (.build rfl rfl rfl rfl) | exact .eff (.eqA rfl rfl rfl rfl rfl) | exact .eff (.neA rfl rfl rfl rfl rfl) | exact .eff (.quo rfl rfl (by decide)) | exact .eff (.rem rfl rfl (by decide)) | exact .eff (.shr rfl rfl (by decide) (by decide)) | exact .eff (.shl rfl rfl (by decide) (by decide)) | exact .eff (.conv rfl rfl rfl) | exact .eff (.strEq rfl rfl) | exact .eff (.strNe rfl rfl) | exact .eff (.mkFn) | exact .eff (.nilO rfl) | exact .eff (.nilF rfl) | exact .eff (.neg rfl) | exact .eff (.max rfl rfl) | exact .eff (.min rfl rfl) | exact .callG rfl rfl rfl (by first | exact h1 | exact h2) rfl | (apply LEff.callBG rfl rfl (by first | exact h1 | exact h2) (by repeat' (first | exact .nil | refine .cons ?_ ?_ | exact .le (.refl _) | exact .row rfl | exact .box rfl | exact .le .nil | refine .agg ?_ | refine .fn ?_ | fail)) rfl)); (· rfl); (· rfl))
      | (apply Ops.new; (· rfl); (· rfl); (· rfl); (· first | exact .eff (.box rfl) | exact .eff (.alloc rfl) | exact .eff (.bslice rfl rfl rfl rfl rfl)); (· first | rfl | (simp only [freshB, noRefH, OB.cells, refsL_fv, refsL_app]; rfl)))
      | refine Ops.app rfl rfl rfl rfl rfl rfl rfl (by first | exact .nil | exact .own rfl (rmv_p _ _)) (by first | exact .nil | exact .own rfl (by first | rfl | exact onesB_map _) | exact .fz (by first | rfl | simp)) rfl ?_ (by first | rfl | (simp only [freshB, noRefH, OB.cells, refsL_fv, refsL_app]; rfl)) ?_
      | (show (_ : Nat) ≤ 140737488355328; omega)
      | refine Ops.stoW rfl rfl rfl rfl rfl rfl (by first | rfl | exact onesB_map _) rfl rfl (by repeat' (first | exact .here | apply Repl.there rfl)) ?_
      | refine Ops.stoB rfl rfl rfl rfl rfl rfl (by first | rfl | exact onesB_map _) rfl rfl (by repeat' (first | exact .here | apply Repl.there rfl)) ?_
      | refine Ops.stoR rfl rfl rfl rfl rfl rfl (by first | rfl | exact onesB_map _) rfl rfl (by repeat' (first | exact .here | apply Repl.there rfl)) ?_
      | refine Ops.gand rfl rfl rfl rfl rfl rfl rfl (by first | exact .b | exact .w) rfl rfl rfl (by simp) (by intro hc; first | exact hc | exact hc.1) (by intro hc; exact ⟨fun h => h.2, fun h => ⟨hc, h⟩⟩) ?_
      | refine Ops.gor rfl rfl rfl rfl rfl rfl rfl (by first | exact .b | exact .w) rfl rfl rfl (by simp) (by intro hc; first | exact hc | exact hc.1) (by intro hc; exact ⟨fun h => h.2, fun h => ⟨hc, h⟩⟩) ?_
      | refine WP.drwL tbl_ok mixed_no (by kernel_rfl) (by first | rfl | (simp only [freeB, noRefH, OB.cells, refsL_fv, refsL_app]; rfl)) rfl ?_
      | fail)
    exact .f1 (.inl rfl) rfl rfl
theorem confChecks_open {H : Type} {enc : TypeId × Value → H} (W : World) (base : Nat) {v0 : Value} {d0 : DataW H} {p0 : List MemPlace} (hv0 : Value.okWide Try.prog W .any base 35 v0)
    (h0 : DataW.Trod enc Try.prog W 0 (fun _ => true) true 35 v0 d0 p0) (hs0 : SizedCl Try.prog 35 d0) : Calls Try.prog 15 #[v0] W fun e W' => e = .returned (.bool true) ∧ Below W.heap.size W W' := by
  obtain ⟨c, _, hl, _, _, _, cs, rfl, hr⟩ := open_cf hv0 h0 hs0
  exact (confChecks_T c hl).yes ⟨rep_agg hr, trivial⟩
end Go.Proofs.Ytfgiehfiieecoaa
