/- What is wanted: what the program says of a thing that comes. -/
import Derived.Test.YtfgiehfiieecoaaG2
namespace Go.Proofs.Ytfgiehfiieecoaa
open Go.RowKit
set_option maxRecDepth 100000

theorem addPort1_T (p q : Po) : Fun Try.prog 133 [.agg ((encPo q).map .fv), .fptr (encPo p)] (.fv (.bool (q.id == p.id || (q.sw == p.sw && q.mac == p.mac)))) := by
  refine Fun.body tbl_ok Try.func133 rfl (by kernel_rfl) rfl rfl rfl ?_
  repeat' (first
    | (apply Ops.loc; (· rfl); (· rfl); (· rfl); (· first | exact .eff (.mv rfl) | exact .eff (.asg rfl) | exact .eff (.loadO rfl rfl rfl) | exact .eff (.loadF rfl rfl) | exact .eff (.fldO rfl rfl rfl) | exact .eff (.fldF rfl rfl rfl) | (refine .eff (.add64 rfl rfl ?_ ?_) <;> omega) | (refine .eff (.sub64 rfl rfl ?_ ?_) <;> omega) | exact .eff (.lenF rfl rfl) | exact .eff (.lenO rfl rfl rfl) | exact .eff (.lenN rfl rfl) | exact .eff (.lenS rfl rfl) | exact .eff (.or rfl rfl rfl) | exact .eff (.and rfl rfl rfl) | exact .eff (.not rfl) | exact .eff (.extract rfl rfl) | (refine .eff (.mul64 rfl rfl ?_ ?_) <;> omega) | exact .eff (.bin rfl rfl rfl) | (refine .eff (.quo64 rfl rfl ?_ ?_ ?_) <;> omega) | (refine .eff (.rem64 rfl rfl ?_ ?_) <;> omega) | exact .eff (.idxPO rfl rfl rfl (by omega) (by omega)) | exact .eff (.idxPF rfl rfl rfl (by omega) (by omega)) | exact .eff (.idxO rfl rfl rfl rfl (by omega) (by omega)) | exact .eff (.build rfl rfl rfl rfl) | exact .eff (.eqA rfl rfl rfl rfl rfl) | exact .eff (.neA rfl rfl rfl rfl rfl) | exact .eff (.quo rfl rfl (by decide)) | exact .eff (.rem rfl rfl (by decide)) | exact .eff (.shr rfl rfl (by decide) (by decide)) | exact .eff (.shl rfl rfl (by decide) (by decide)) | exact .eff (.conv rfl rfl rfl) | exact .eff (.strEq rfl rfl) | exact .eff (.strNe rfl rfl) | exact .eff (.mkFn) | exact .eff (.nilO rfl) | exact .eff (.nilF rfl) | exact .eff (.neg rfl) | exact .eff (.max rfl rfl) | exact .eff (.min rfl rfl)))
    | with_reducible refine WP.seq ?_
    | with_reducible refine WP.reg tbl_ok rfl ?_
    | with_reducible refine Ops.nil ?_
    | with_reducible refine thenQ.nor ?_
    | with_reducible refine thenQ.ex ?_
    | with_reducible refine thenQ.ret ?_
    | with_reducible refine blockQ.nor ?_
    | with_reducible refine blockQ.ret ?_
    | with_reducible refine blockQ.hit rfl ?_
    | with_reducible refine blockQ.out rfl ?_
    | with_reducible refine WP.block ?_
    | with_reducible refine WP.skip ?_
    | with_reducible refine WP.exit ?_
    | with_reducible refine WP.ret ?_
    | refine WP.condT rfl ?_
    | refine WP.condF rfl ?_
    | (refine WP.cond rfl ?_ ?_ <;> intro hcond)
    | (apply Ops.gst; (· rfl); (· rfl); (· rfl); (· rfl); (· rfl); (· rfl); (· rfl); (· first | exact .b | exact .w); (· intro hc; repeat' (first | exact trivial | exact fun _ => hc | exact fun _ => hc.1 | exact fun _ => ⟨hc.1.1, hc.1.2⟩ | refine And.intro ?_ ?_)); (· intro hc; first | exact .eff (.mvG rfl) | exact .eff (.asg rfl) | exact .eff (.loadO rfl rfl rfl) | exact .eff (.loadF rfl rfl) | exact .eff (.fldO rfl rfl rfl) | exact .eff (.fldF rfl rfl rfl) | (refine .eff (.add64 rfl rfl ?_ ?_) <;> omega) | (refine .eff (.sub64 rfl rfl ?_ ?_) <;> omega) | exact .eff (.lenF rfl rfl) | exact .eff (.lenO rfl rfl rfl) | exact .eff (.lenN rfl rfl) | exact .eff (.lenS rfl rfl) | exact .eff (.or rfl rfl rfl) | exact .eff (.and rfl rfl rfl) | exact .eff (.not rfl) | exact .eff (.extract rfl rfl) | (refine .eff (.mul64 rfl rfl ?_ ?_) <;> omega) | exact .eff (.bin rfl rfl rfl) | (refine .eff (.quo64 rfl rfl ?_ ?_ ?_) <;> omega) | (refine .eff (.rem64 rfl rfl ?_ ?_) <;> omega) | exact .eff (.idxPO rfl rfl rfl (by omega) (by omega)) | exact .eff (.idxPF rfl rfl rfl (by omega) (by omega)) | exact .eff (.idxO rfl rfl rfl rfl (by omega) (by omega)) | exact .eff (.build rfl rfl rfl rfl) | exact .eff (.eqA rfl rfl rfl rfl rfl) | exact .eff (.neA rfl rfl rfl rfl rfl) | exact .eff (.quo rfl rfl (by decide)) | exact .eff (.rem rfl rfl (by decide)) | exact .eff (.shr rfl rfl (by decide) (by decide)) | exact .eff (.shl rfl rfl (by decide) (by decide)) | exact .eff (.conv rfl rfl rfl) | exact .eff (.strEq rfl rfl) | exact .eff (.strNe rfl rfl) | exact .eff (.mkFn) | exact .eff (.nilO rfl) | exact .eff (.nilF rfl) | exact .eff (.neg rfl) | exact .eff (.max rfl rfl) | exact .eff (.min rfl rfl)); (· rfl); (· rfl))
    | (apply Ops.new; (· rfl); (· rfl); (· rfl); (· first | exact .eff (.box rfl) | exact .eff (.alloc rfl) | exact .eff (.bslice rfl rfl rfl rfl rfl)); (· first | rfl | (simp only [freshB, noRefH, OB.cells, refsL_fv, refsL_app]; rfl)))
    | refine Ops.app rfl rfl rfl rfl rfl rfl rfl (by first | exact .nil | exact .own rfl (rmv_p _ _)) (by first | exact .nil | exact .own rfl (by first | rfl | exact onesB_map _) | exact .fz (by first | rfl | simp)) rfl ?_ (by first | rfl | (simp only [freshB, noRefH, OB.cells, refsL_fv, refsL_app]; rfl)) ?_
    | (show (_ : Nat) ≤ 140737488355328; omega)
    | refine Ops.stoW rfl rfl rfl rfl rfl rfl (by first | rfl | exact onesB_map _) rfl rfl (by repeat' (first | exact .here | apply Repl.there rfl)) ?_
    | refine Ops.stoB rfl rfl rfl rfl rfl rfl (by first | rfl | exact onesB_map _) rfl rfl (by repeat' (first | exact .here | apply Repl.there rfl)) ?_
    | refine Ops.stoR rfl rfl rfl rfl rfl rfl (by first | rfl | exact onesB_map _) rfl rfl (by repeat' (first | exact .here | apply Repl.there rfl)) ?_
    | refine Ops.gand rfl rfl rfl rfl rfl rfl rfl (by first | exact .b | exact .w) rfl rfl rfl (by simp) (by intro hc; first | exact hc | exact hc.1) (by intro hc; exact ⟨fun h => h.2, fun h => ⟨hc, h⟩⟩) ?_
    | refine Ops.gor rfl rfl rfl rfl rfl rfl rfl (by first | exact .b | exact .w) rfl rfl rfl (by simp) (by intro hc; first | exact hc | exact hc.1) (by intro hc; exact ⟨fun h => h.2, fun h => ⟨hc, h⟩⟩) ?_
    | refine WP.drwL tbl_ok mixed_no (by kernel_rfl) (by first | rfl | (simp only [freeB, noRefH, OB.cells, refsL_fv, refsL_app]; rfl)) rfl ?_
    | fail)
  exact .f1 (.inl rfl) rfl rfl
set_option maxHeartbeats 2000000 in
theorem addSwitch_T (c : Cf) (s : Sw) (hl : c.Small) (hw : c.Wf) (hn : c.ss.length ≤ 12) : Fun Try.prog 97 [.agg ((encCf c).map .fv), .agg ((encSw s).map .fv)] (.fv (.int .i64 (swFault c s))) := by
  have hl1 := hl.1
  have hix := idxB_any (fun x : Sw => x.id == s.id) c.ss
  have hsec : 0 ≤ s.gate → ((decide (idxB (fun x : Sw => x.id == s.id) c.ss ≥ 0) || (s.gate != 0 && takenB c s.tenant s.gate)) = true ↔ (c.ss.any (fun x => x.id == s.id) = true ∨ (0 < s.gate ∧ takenB c s.tenant s.gate = true))) := fun hg => by
    rw [Bool.or_eq_true, decide_eq_true_iff, Bool.and_eq_true, bne_iff_ne]
    refine or_congr ?_ (and_congr (by omega) Iff.rfl)
    rw [← Bool.not_eq_false, ← hix]
    omega
  refine Fun.body tbl_ok Try.func97 rfl (by kernel_rfl) rfl rfl rfl ?_
  repeat' (first
    | (apply Ops.loc; (· rfl); (· rfl); (· rfl); (· first | exact .eff (.mv rfl) | exact .eff (.asg rfl) | exact .eff (.loadO rfl rfl rfl) | exact .eff (.loadF rfl rfl) | exact .eff (.fldO rfl rfl rfl) | exact .eff (.fldF rfl rfl rfl) | (refine .eff (.add64 rfl rfl ?_ ?_) <;> omega) | (refine .eff (.sub64 rfl rfl ?_ ?_) <;> omega) | exact .eff (.lenF rfl rfl) | exact .eff (.lenO rfl rfl rfl) | exact .eff (.lenN rfl rfl) | exact .eff (.lenS rfl rfl) | exact .eff (.or rfl rfl rfl) | exact .eff (.and rfl rfl rfl) | exact .eff (.not rfl) | exact .eff (.extract rfl rfl) | (refine .eff (.mul64 rfl rfl ?_ ?_) <;> omega) | exact .eff (.bin rfl rfl rfl) | (refine .eff (.quo64 rfl rfl ?_ ?_ ?_) <;> omega) | (refine .eff (.rem64 rfl rfl ?_ ?_) <;> omega) | exact .eff (.idxPO rfl rfl rfl (by omega) (by omega)) | exact .eff (.idxPF rfl rfl rfl (by omega) (by omega)) | exact .eff (.idxO rfl rfl rfl rfl (by omega) (by omega)) | exact .eff (.build rfl rfl rfl rfl) | exact .eff (.eqA rfl rfl rfl rfl rfl) | exact .eff (.neA rfl rfl rfl rfl rfl) | exact .eff (.quo rfl rfl (by decide)) | exact .eff (.rem rfl rfl (by decide)) | exact .eff (.shr rfl rfl (by decide) (by decide)) | exact .eff (.shl rfl rfl (by decide) (by decide)) | exact .eff (.conv rfl rfl rfl) | exact .eff (.strEq rfl rfl) | exact .eff (.strNe rfl rfl) | exact .eff (.mkFn) | exact .eff (.nilO rfl) | exact .eff (.nilF rfl) | exact .eff (.neg rfl) | exact .eff (.max rfl rfl) | exact .eff (.min rfl rfl) | exact .callL rfl rfl rfl (by first | exact within_T _ _ _ | exact place_T c _ hl1 | exact taken_T c _ _ hl hw) rfl | (apply LEff.callBL rfl rfl (by first | exact within_T _ _ _ | exact place_T c _ hl1 | exact taken_T c _ _ hl hw) (by repeat' (first | exact .nil | refine .cons ?_ ?_ | exact .le (.refl _) | exact .row rfl | exact .box rfl | exact .le .nil | refine .agg ?_ | refine .fn ?_ | fail)) rfl)))
    | with_reducible refine WP.seq ?_
    | with_reducible refine WP.reg tbl_ok rfl ?_
    | with_reducible refine Ops.nil ?_
    | with_reducible refine thenQ.nor ?_
    | with_reducible refine thenQ.ex ?_
    | with_reducible refine thenQ.ret ?_
    | with_reducible refine blockQ.nor ?_
    | with_reducible refine blockQ.ret ?_
    | with_reducible refine blockQ.hit rfl ?_
    | with_reducible refine blockQ.out rfl ?_
    | with_reducible refine WP.block ?_
    | with_reducible refine WP.skip ?_
    | with_reducible refine WP.exit ?_
    | with_reducible refine WP.ret ?_
    | refine WP.condT rfl ?_
    | refine WP.condF rfl ?_
    | (refine WP.cond rfl ?_ ?_ <;> intro hcond)
    | (apply Ops.gst; (· rfl); (· rfl); (· rfl); (· rfl); (· rfl); (· rfl); (· rfl); (· first | exact .b | exact .w); (· intro hc; repeat' (first | exact trivial | exact fun _ => hc | exact fun _ => hc.1 | exact fun _ => ⟨hc.1.1, hc.1.2⟩ | refine And.intro ?_ ?_)); (· intro hc; first | exact .eff (.mvG rfl) | exact .eff (.asg rfl) | exact .eff (.loadO rfl rfl rfl) | exact .eff (.loadF rfl rfl) | exact .eff (.fldO rfl rfl rfl) | exact .eff (.fldF rfl rfl rfl) | (refine .eff (.add64 rfl rfl ?_ ?_) <;> omega) | (refine .eff (.sub64 rfl rfl ?_ ?_) <;> omega) | exact .eff (.lenF rfl rfl) | exact .eff (.lenO rfl rfl rfl) | exact .eff (.lenN rfl rfl) | exact .eff (.lenS rfl rfl) | exact .eff (.or rfl rfl rfl) | exact .eff (.and rfl rfl rfl) | exact .eff (.not rfl) | exact .eff (.extract rfl rfl) | (refine .eff (.mul64 rfl rfl ?_ ?_) <;> omega) | exact .eff (.bin rfl rfl rfl) | (refine .eff (.quo64 rfl rfl ?_ ?_ ?_) <;> omega) | (refine .eff (.rem64 rfl rfl ?_ ?_) <;> omega) | exact .eff (.idxPO rfl rfl rfl (by omega) (by omega)) | exact .eff (.idxPF rfl rfl rfl (by omega) (by omega)) | exact .eff (.idxO rfl rfl rfl rfl (by omega) (by omega)) | exact .eff (.build rfl rfl rfl rfl) | exact .eff (.eqA rfl rfl rfl rfl rfl) | exact .eff (.neA rfl rfl rfl rfl rfl) | exact .eff (.quo rfl rfl (by decide)) | exact .eff (.rem rfl rfl (by decide)) | exact .eff (.shr rfl rfl (by decide) (by decide)) | exact .eff (.shl rfl rfl (by decide) (by decide)) | exact .eff (.conv rfl rfl rfl) | exact .eff (.strEq rfl rfl) | exact .eff (.strNe rfl rfl) | exact .eff (.mkFn) | exact .eff (.nilO rfl) | exact .eff (.nilF rfl) | exact .eff (.neg rfl) | exact .eff (.max rfl rfl) | exact .eff (.min rfl rfl) | exact .callG rfl rfl rfl (by first | exact within_T _ _ _ | exact place_T c _ hl1 | exact taken_T c _ _ hl hw) rfl | (apply LEff.callBG rfl rfl (by first | exact within_T _ _ _ | exact place_T c _ hl1 | exact taken_T c _ _ hl hw) (by repeat' (first | exact .nil | refine .cons ?_ ?_ | exact .le (.refl _) | exact .row rfl | exact .box rfl | exact .le .nil | refine .agg ?_ | refine .fn ?_ | fail)) rfl)); (· rfl); (· rfl))
    | (apply Ops.new; (· rfl); (· rfl); (· rfl); (· first | exact .eff (.box rfl) | exact .eff (.alloc rfl) | exact .eff (.bslice rfl rfl rfl rfl rfl)); (· first | rfl | (simp only [freshB, noRefH, OB.cells, refsL_fv, refsL_app]; rfl)))
    | refine Ops.app rfl rfl rfl rfl rfl rfl rfl (by first | exact .nil | exact .own rfl (rmv_p _ _)) (by first | exact .nil | exact .own rfl (by first | rfl | exact onesB_map _) | exact .fz (by first | rfl | simp)) rfl ?_ (by first | rfl | (simp only [freshB, noRefH, OB.cells, refsL_fv, refsL_app]; rfl)) ?_
    | (show (_ : Nat) ≤ 140737488355328; omega)
    | refine Ops.stoW rfl rfl rfl rfl rfl rfl (by first | rfl | exact onesB_map _) rfl rfl (by repeat' (first | exact .here | apply Repl.there rfl)) ?_
    | refine Ops.stoB rfl rfl rfl rfl rfl rfl (by first | rfl | exact onesB_map _) rfl rfl (by repeat' (first | exact .here | apply Repl.there rfl)) ?_
    | refine Ops.stoR rfl rfl rfl rfl rfl rfl (by first | rfl | exact onesB_map _) rfl rfl (by repeat' (first | exact .here | apply Repl.there rfl)) ?_
    | refine Ops.gand rfl rfl rfl rfl rfl rfl rfl (by first | exact .b | exact .w) rfl rfl rfl (by simp) (by intro hc; first | exact hc | exact hc.1) (by intro hc; exact ⟨fun h => h.2, fun h => ⟨hc, h⟩⟩) ?_
    | refine Ops.gor rfl rfl rfl rfl rfl rfl rfl (by first | exact .b | exact .w) rfl rfl rfl (by simp) (by intro hc; first | exact hc | exact hc.1) (by intro hc; exact ⟨fun h => h.2, fun h => ⟨hc, h⟩⟩) ?_
    | refine WP.drwL tbl_ok mixed_no (by kernel_rfl) (by first | rfl | (simp only [freeB, noRefH, OB.cells, refsL_fv, refsL_app]; rfl)) rfl ?_
    | fail)
  · refine .f1 (.inl rfl) rfl ?_
    rw [swFault, if_pos (by simpa [or_assoc] using hcond)]
  · refine .f1 (.inl rfl) rfl ?_
    rename_i h1
    have h1 : ¬ (inR s.id 1 500 = false ∨ inR s.tenant 1 9 = false ∨ inR s.gate 0 65535 = false) := by simpa [and_assoc] using h1
    have hg : 0 ≤ s.gate := (inR_iff.1 (show inR s.gate 0 65535 = true by simp at h1; exact h1.2.2)).1
    rw [swFault, if_neg h1, if_pos ((hsec hg).1 hcond)]
  · refine .f1 (.inl rfl) rfl ?_
    rename_i h1 h2
    have h1 : ¬ (inR s.id 1 500 = false ∨ inR s.tenant 1 9 = false ∨ inR s.gate 0 65535 = false) := by simpa [and_assoc] using h1
    have hg : 0 ≤ s.gate := (inR_iff.1 (show inR s.gate 0 65535 = true by simp at h1; exact h1.2.2)).1
    rw [swFault, if_neg h1, if_neg (fun h => by rw [(hsec hg).2 h] at h2; cases h2), if_pos (by simp at hcond; omega)]
  · refine .f1 (.inl rfl) rfl ?_
    rename_i h1 h2
    have h1 : ¬ (inR s.id 1 500 = false ∨ inR s.tenant 1 9 = false ∨ inR s.gate 0 65535 = false) := by simpa [and_assoc] using h1
    have hg : 0 ≤ s.gate := (inR_iff.1 (show inR s.gate 0 65535 = true by simp at h1; exact h1.2.2)).1
    rw [swFault, if_neg h1, if_neg (fun h => by rw [(hsec hg).2 h] at h2; cases h2), if_neg (by simp at hcond; omega)]
set_option maxHeartbeats 2000000 in
theorem addPort_T (c : Cf) (p : Po) (hl : c.Small) (hw : c.Wf) (hn : c.ps.length ≤ 40) : Fun Try.prog 98 [.agg ((encCf c).map .fv), .agg ((encPo p).map .fv)] (.fv (.int .i64 (poFault c p))) := by
  have hl1 := hl.1
  have hix := idxB_any (fun x : Sw => x.id == p.sw) c.ss
  have hpl := place_T c p.sw hl1
  have hr : ∀ {b : Bool}, (!inR p.id 1 999 || !inR p.mac 1 59999 || !inR p.ip 1 65535 || !inR p.ch (-1) 5) = false → ¬ (inR p.id 1 999 = false ∨ inR p.mac 1 59999 = false ∨ inR p.ip 1 65535 = false ∨ inR p.ch (-1) 5 = false) := fun {_} h => by simpa [and_assoc] using h
  refine Fun.body tbl_ok Try.func98 rfl (by kernel_rfl) rfl rfl rfl ?_
  cases hany : c.ss.any (fun x => x.id == p.sw) with
  | false =>
    have : idxB (fun x : Sw => x.id == p.sw) c.ss = -1 := by
      have := idxB_ge (fun x : Sw => x.id == p.sw) c.ss
      have := hix.2 hany
      omega
    rw [this] at hpl
    repeat' (first
      | (apply Ops.loc; (· rfl); (· rfl); (· rfl); (· first | exact .eff (.mv rfl) | exact .eff (.asg rfl) | exact .eff (.loadO rfl rfl rfl) | exact .eff (.loadF rfl rfl) | exact .eff (.fldO rfl rfl rfl) | exact .eff (.fldF rfl rfl rfl) | (refine .eff (.add64 rfl rfl ?_ ?_) <;> omega) | (refine .eff (.sub64 rfl rfl ?_ ?_) <;> omega) | exact .eff (.lenF rfl rfl) | exact .eff (.lenO rfl rfl rfl) | exact .eff (.lenN rfl rfl) | exact .eff (.lenS rfl rfl) | exact .eff (.or rfl rfl rfl) | exact .eff (.and rfl rfl rfl) | exact .eff (.not rfl) | exact .eff (.extract rfl rfl) | (refine .eff (.mul64 rfl rfl ?_ ?_) <;> omega) | exact .eff (.bin rfl rfl rfl) | (refine .eff (.quo64 rfl rfl ?_ ?_ ?_) <;> omega) | (refine .eff (.rem64 rfl rfl ?_ ?_) <;> omega) | exact .eff (.idxPO rfl rfl rfl (by omega) (by omega)) | exact .eff (.idxPF rfl rfl rfl (by omega) (by omega)) | exact .eff (.idxO rfl rfl rfl rfl (by omega) (by omega)) | exact .eff (.build rfl rfl rfl rfl) | exact .eff (.eqA rfl rfl rfl rfl rfl) | exact .eff (.neA rfl rfl rfl rfl rfl) | exact .eff (.quo rfl rfl (by decide)) | exact .eff (.rem rfl rfl (by decide)) | exact .eff (.shr rfl rfl (by decide) (by decide)) | exact .eff (.shl rfl rfl (by decide) (by decide)) | exact .eff (.conv rfl rfl rfl) | exact .eff (.strEq rfl rfl) | exact .eff (.strNe rfl rfl) | exact .eff (.mkFn) | exact .eff (.nilO rfl) | exact .eff (.nilF rfl) | exact .eff (.neg rfl) | exact .eff (.max rfl rfl) | exact .eff (.min rfl rfl) | exact .callL rfl rfl rfl (by first | exact within_T _ _ _ | exact hpl) rfl | (apply LEff.callBL rfl rfl (by first | exact within_T _ _ _ | exact hpl) (by repeat' (first | exact .nil | refine .cons ?_ ?_ | exact .le (.refl _) | exact .row rfl | exact .box rfl | exact .le .nil | refine .agg ?_ | refine .fn ?_ | fail)) rfl)))
      | with_reducible refine WP.seq ?_
      | with_reducible refine WP.reg tbl_ok rfl ?_
      | with_reducible refine Ops.nil ?_
      | with_reducible refine thenQ.nor ?_
      | with_reducible refine thenQ.ex ?_
      | with_reducible refine thenQ.ret ?_
      | with_reducible refine blockQ.nor ?_
      | with_reducible refine blockQ.ret ?_
      | with_reducible refine blockQ.hit rfl ?_
      | with_reducible refine blockQ.out rfl ?_
      | with_reducible refine WP.block ?_
      | with_reducible refine WP.skip ?_
      | with_reducible refine WP.exit ?_
      | with_reducible refine WP.ret ?_
      | refine WP.condT rfl ?_
      | refine WP.condF rfl ?_
      | (refine WP.cond rfl ?_ ?_ <;> intro hcond)
      | (apply Ops.gst; (· rfl); (· rfl); (· rfl); (· rfl); (· rfl); (· rfl); (· rfl); (· first | exact .b | exact .w); (· intro hc; repeat' (first | exact trivial | exact fun _ => hc | exact fun _ => hc.1 | exact fun _ => ⟨hc.1.1, hc.1.2⟩ | refine And.intro ?_ ?_)); (· intro hc; first | exact .eff (.mvG rfl) | exact .eff (.asg rfl) | exact .eff (.loadO rfl rfl rfl) | exact .eff (.loadF rfl rfl) | exact .eff (.fldO rfl rfl rfl) | exact .eff (.fldF rfl rfl rfl) | (refine .eff (.add64 rfl rfl ?_ ?_) <;> omega) | (refine .eff (.sub64 rfl rfl ?_ ?_) <;> omega) | exact .eff (.lenF rfl rfl) | exact .eff (.lenO rfl rfl rfl) | exact .eff (.lenN rfl rfl) | exact .eff (.lenS rfl rfl) | exact .eff (.or rfl rfl rfl) | exact .eff (.and rfl rfl rfl) | exact .eff (.not rfl) | exact .eff (.extract rfl rfl) | (refine .eff (.mul64 rfl rfl ?_ ?_) <;> omega) | exact .eff (.bin rfl rfl rfl) | (refine .eff (.quo64 rfl rfl ?_ ?_ ?_) <;> omega) | (refine .eff (.rem64 rfl rfl ?_ ?_) <;> omega) | exact .eff (.idxPO rfl rfl rfl (by omega) (by omega)) | exact .eff (.idxPF rfl rfl rfl (by omega) (by omega)) | exact .eff (.idxO rfl rfl rfl rfl (by omega) (by omega)) | exact .eff (.build rfl rfl rfl rfl) | exact .eff (.eqA rfl rfl rfl rfl rfl) | exact .eff (.neA rfl rfl rfl rfl rfl) | exact .eff (.quo rfl rfl (by decide)) | exact .eff (.rem rfl rfl (by decide)) | exact .eff (.shr rfl rfl (by decide) (by decide)) | exact .eff (.shl rfl rfl (by decide) (by decide)) | exact .eff (.conv rfl rfl rfl) | exact .eff (.strEq rfl rfl) | exact .eff (.strNe rfl rfl) | exact .eff (.mkFn) | exact .eff (.nilO rfl) | exact .eff (.nilF rfl) | exact .eff (.neg rfl) | exact .eff (.max rfl rfl) | exact .eff (.min rfl rfl) | exact .callG rfl rfl rfl (by first | exact within_T _ _ _ | exact hpl) rfl | (apply LEff.callBG rfl rfl (by first | exact within_T _ _ _ | exact hpl) (by repeat' (first | exact .nil | refine .cons ?_ ?_ | exact .le (.refl _) | exact .row rfl | exact .box rfl | exact .le .nil | refine .agg ?_ | refine .fn ?_ | fail)) rfl)); (· rfl); (· rfl))
      | (apply Ops.new; (· rfl); (· rfl); (· rfl); (· first | exact .eff (.box rfl) | exact .eff (.alloc rfl) | exact .eff (.bslice rfl rfl rfl rfl rfl)); (· first | rfl | (simp only [freshB, noRefH, OB.cells, refsL_fv, refsL_app]; rfl)))
      | refine Ops.app rfl rfl rfl rfl rfl rfl rfl (by first | exact .nil | exact .own rfl (rmv_p _ _)) (by first | exact .nil | exact .own rfl (by first | rfl | exact onesB_map _) | exact .fz (by first | rfl | simp)) rfl ?_ (by first | rfl | (simp only [freshB, noRefH, OB.cells, refsL_fv, refsL_app]; rfl)) ?_
      | (show (_ : Nat) ≤ 140737488355328; omega)
      | refine Ops.stoW rfl rfl rfl rfl rfl rfl (by first | rfl | exact onesB_map _) rfl rfl (by repeat' (first | exact .here | apply Repl.there rfl)) ?_
      | refine Ops.stoB rfl rfl rfl rfl rfl rfl (by first | rfl | exact onesB_map _) rfl rfl (by repeat' (first | exact .here | apply Repl.there rfl)) ?_
      | refine Ops.stoR rfl rfl rfl rfl rfl rfl (by first | rfl | exact onesB_map _) rfl rfl (by repeat' (first | exact .here | apply Repl.there rfl)) ?_
      | refine Ops.gand rfl rfl rfl rfl rfl rfl rfl (by first | exact .b | exact .w) rfl rfl rfl (by simp) (by intro hc; first | exact hc | exact hc.1) (by intro hc; exact ⟨fun h => h.2, fun h => ⟨hc, h⟩⟩) ?_
      | refine Ops.gor rfl rfl rfl rfl rfl rfl rfl (by first | exact .b | exact .w) rfl rfl rfl (by simp) (by intro hc; first | exact hc | exact hc.1) (by intro hc; exact ⟨fun h => h.2, fun h => ⟨hc, h⟩⟩) ?_
      | refine WP.drwL tbl_ok mixed_no (by kernel_rfl) (by first | rfl | (simp only [freeB, noRefH, OB.cells, refsL_fv, refsL_app]; rfl)) rfl ?_
      | fail)
    · refine .f1 (.inl rfl) rfl ?_
      rw [poFault, if_pos (by simpa [or_assoc] using hcond)]
    · refine .f1 (.inl rfl) rfl ?_
      rw [poFault, if_neg (hr (b := true) (by assumption)), if_pos hany]
  | true =>
    obtain ⟨k, hk⟩ := idxB_some hany
    obtain ⟨x, hx, ht⟩ := tenantAt_at hk
    rw [hk] at hpl
    have hnf : ¬ (c.ss.any (fun x => x.id == p.sw) = false) := by rw [hany]; simp
    repeat' (first
      | (apply Ops.loc; (· rfl); (· rfl); (· rfl); (· first | (exact .eff (.idxS rfl rfl rfl encSw_len hx)) | exact .eff (.mv rfl) | exact .eff (.asg rfl) | exact .eff (.loadO rfl rfl rfl) | exact .eff (.loadF rfl rfl) | exact .eff (.fldO rfl rfl rfl) | exact .eff (.fldF rfl rfl rfl) | (refine .eff (.add64 rfl rfl ?_ ?_) <;> omega) | (refine .eff (.sub64 rfl rfl ?_ ?_) <;> omega) | exact .eff (.lenF rfl rfl) | exact .eff (.lenO rfl rfl rfl) | exact .eff (.lenN rfl rfl) | exact .eff (.lenS rfl rfl) | exact .eff (.or rfl rfl rfl) | exact .eff (.and rfl rfl rfl) | exact .eff (.not rfl) | exact .eff (.extract rfl rfl) | (refine .eff (.mul64 rfl rfl ?_ ?_) <;> omega) | exact .eff (.bin rfl rfl rfl) | (refine .eff (.quo64 rfl rfl ?_ ?_ ?_) <;> omega) | (refine .eff (.rem64 rfl rfl ?_ ?_) <;> omega) | exact .eff (.idxPO rfl rfl rfl (by omega) (by omega)) | exact .eff (.idxPF rfl rfl rfl (by omega) (by omega)) | exact .eff (.idxO rfl rfl rfl rfl (by omega) (by omega)) | exact .eff (.build rfl rfl rfl rfl) | exact .eff (.eqA rfl rfl rfl rfl rfl) | exact .eff (.neA rfl rfl rfl rfl rfl) | exact .eff (.quo rfl rfl (by decide)) | exact .eff (.rem rfl rfl (by decide)) | exact .eff (.shr rfl rfl (by decide) (by decide)) | exact .eff (.shl rfl rfl (by decide) (by decide)) | exact .eff (.conv rfl rfl rfl) | exact .eff (.strEq rfl rfl) | exact .eff (.strNe rfl rfl) | exact .eff (.mkFn) | exact .eff (.nilO rfl) | exact .eff (.nilF rfl) | exact .eff (.neg rfl) | exact .eff (.max rfl rfl) | exact .eff (.min rfl rfl) | exact .callL rfl rfl rfl (by first | exact within_T _ _ _ | exact hpl | exact containsPo_T c.ps _ [.fptr (encPo p)] (fun q => q.id == p.id || (q.sw == p.sw && q.mac == p.mac)) hl.2.1 (fun q _ => addPort1_T p q) | exact taken_T c _ _ hl hw) rfl | (apply LEff.callBL rfl rfl (by first | exact within_T _ _ _ | exact hpl | exact containsPo_T c.ps _ [.fptr (encPo p)] (fun q => q.id == p.id || (q.sw == p.sw && q.mac == p.mac)) hl.2.1 (fun q _ => addPort1_T p q) | exact taken_T c _ _ hl hw) (by repeat' (first | exact .nil | refine .cons ?_ ?_ | exact .le (.refl _) | exact .row rfl | exact .box rfl | exact .le .nil | refine .agg ?_ | refine .fn ?_ | fail)) rfl)))
      | with_reducible refine WP.seq ?_
      | with_reducible refine WP.reg tbl_ok rfl ?_
      | with_reducible refine Ops.nil ?_
      | with_reducible refine thenQ.nor ?_
      | with_reducible refine thenQ.ex ?_
      | with_reducible refine thenQ.ret ?_
      | with_reducible refine blockQ.nor ?_
      | with_reducible refine blockQ.ret ?_
      | with_reducible refine blockQ.hit rfl ?_
      | with_reducible refine blockQ.out rfl ?_
      | with_reducible refine WP.block ?_
      | with_reducible refine WP.skip ?_
      | with_reducible refine WP.exit ?_
      | with_reducible refine WP.ret ?_
      | refine WP.condT rfl ?_
      | refine WP.condF rfl ?_
      | (refine WP.cond rfl ?_ ?_ <;> intro hcond)
      | (apply Ops.gst; (· rfl); (· rfl); (· rfl); (· rfl); (· rfl); (· rfl); (· rfl); (· first | exact .b | exact .w); (· intro hc; repeat' (first | exact trivial | exact fun _ => hc | exact fun _ => hc.1 | exact fun _ => ⟨hc.1.1, hc.1.2⟩ | refine And.intro ?_ ?_)); (· intro hc; first | (exact .eff (.idxS rfl rfl rfl encSw_len hx)) | exact .eff (.mvG rfl) | exact .eff (.asg rfl) | exact .eff (.loadO rfl rfl rfl) | exact .eff (.loadF rfl rfl) | exact .eff (.fldO rfl rfl rfl) | exact .eff (.fldF rfl rfl rfl) | (refine .eff (.add64 rfl rfl ?_ ?_) <;> omega) | (refine .eff (.sub64 rfl rfl ?_ ?_) <;> omega) | exact .eff (.lenF rfl rfl) | exact .eff (.lenO rfl rfl rfl) | exact .eff (.lenN rfl rfl) | exact .eff (.lenS rfl rfl) | exact .eff (.or rfl rfl rfl) | exact .eff (.and rfl rfl rfl) | exact .eff (.not rfl) | exact .eff (.extract rfl rfl) | (refine .eff (.mul64 rfl rfl ?_ ?_) <;> omega) | exact .eff (.bin rfl rfl rfl) | (refine .eff (.quo64 rfl rfl ?_ ?_ ?_) <;> omega) | (refine .eff (.rem64 rfl rfl ?_ ?_) <;> omega) | exact .eff (.idxPO rfl rfl rfl (by omega) (by omega)) | exact .eff (.idxPF rfl rfl rfl (by omega) (by omega)) | exact .eff (.idxO rfl rfl rfl rfl (by omega) (by omega)) | exact .eff (.build rfl rfl rfl rfl) | exact .eff (.eqA rfl rfl rfl rfl rfl) | exact .eff (.neA rfl rfl rfl rfl rfl) | exact .eff (.quo rfl rfl (by decide)) | exact .eff (.rem rfl rfl (by decide)) | exact .eff (.shr rfl rfl (by decide) (by decide)) | exact .eff (.shl rfl rfl (by decide) (by decide)) | exact .eff (.conv rfl rfl rfl) | exact .eff (.strEq rfl rfl) | exact .eff (.strNe rfl rfl) | exact .eff (.mkFn) | exact .eff (.nilO rfl) | exact .eff (.nilF rfl) | exact .eff (.neg rfl) | exact .eff (.max rfl rfl) | exact .eff (.min rfl rfl) | exact .callG rfl rfl rfl (by first | exact within_T _ _ _ | exact hpl | exact containsPo_T c.ps _ [.fptr (encPo p)] (fun q => q.id == p.id || (q.sw == p.sw && q.mac == p.mac)) hl.2.1 (fun q _ => addPort1_T p q) | exact taken_T c _ _ hl hw) rfl | (apply LEff.callBG rfl rfl (by first | exact within_T _ _ _ | exact hpl | exact containsPo_T c.ps _ [.fptr (encPo p)] (fun q => q.id == p.id || (q.sw == p.sw && q.mac == p.mac)) hl.2.1 (fun q _ => addPort1_T p q) | exact taken_T c _ _ hl hw) (by repeat' (first | exact .nil | refine .cons ?_ ?_ | exact .le (.refl _) | exact .row rfl | exact .box rfl | exact .le .nil | refine .agg ?_ | refine .fn ?_ | fail)) rfl)); (· rfl); (· rfl))
      | (apply Ops.new; (· rfl); (· rfl); (· rfl); (· first | exact .eff (.box rfl) | exact .eff (.alloc rfl) | exact .eff (.bslice rfl rfl rfl rfl rfl)); (· first | rfl | (simp only [freshB, noRefH, OB.cells, refsL_fv, refsL_app]; rfl)))
      | refine Ops.app rfl rfl rfl rfl rfl rfl rfl (by first | exact .nil | exact .own rfl (rmv_p _ _)) (by first | exact .nil | exact .own rfl (by first | rfl | exact onesB_map _) | exact .fz (by first | rfl | simp)) rfl ?_ (by first | rfl | (simp only [freshB, noRefH, OB.cells, refsL_fv, refsL_app]; rfl)) ?_
      | (show (_ : Nat) ≤ 140737488355328; omega)
      | refine Ops.stoW rfl rfl rfl rfl rfl rfl (by first | rfl | exact onesB_map _) rfl rfl (by repeat' (first | exact .here | apply Repl.there rfl)) ?_
      | refine Ops.stoB rfl rfl rfl rfl rfl rfl (by first | rfl | exact onesB_map _) rfl rfl (by repeat' (first | exact .here | apply Repl.there rfl)) ?_
      | refine Ops.stoR rfl rfl rfl rfl rfl rfl (by first | rfl | exact onesB_map _) rfl rfl (by repeat' (first | exact .here | apply Repl.there rfl)) ?_
      | refine Ops.gand rfl rfl rfl rfl rfl rfl rfl (by first | exact .b | exact .w) rfl rfl rfl (by simp) (by intro hc; first | exact hc | exact hc.1) (by intro hc; exact ⟨fun h => h.2, fun h => ⟨hc, h⟩⟩) ?_
      | refine Ops.gor rfl rfl rfl rfl rfl rfl rfl (by first | exact .b | exact .w) rfl rfl rfl (by simp) (by intro hc; first | exact hc | exact hc.1) (by intro hc; exact ⟨fun h => h.2, fun h => ⟨hc, h⟩⟩) ?_
      | refine WP.drwL tbl_ok mixed_no (by kernel_rfl) (by first | rfl | (simp only [freeB, noRefH, OB.cells, refsL_fv, refsL_app]; rfl)) rfl ?_
      | fail)
    · refine .f1 (.inl rfl) rfl ?_
      rw [poFault, if_pos (by simpa [or_assoc] using hcond)]
    · refine .f1 (.inl rfl) rfl ?_
      rw [poFault, if_neg (hr (b := true) (by assumption)), if_neg hnf, if_pos hcond]
    · refine .f1 (.inl rfl) rfl ?_
      rename_i h2
      rw [poFault, if_neg (hr (b := true) (by assumption)), if_neg hnf, if_neg (fun h => by rw [h] at h2; cases h2), ht, if_pos hcond]
    · refine .f1 (.inl rfl) rfl ?_
      rename_i h2 h3
      rw [poFault, if_neg (hr (b := true) (by assumption)), if_neg hnf, if_neg (fun h => by rw [h] at h2; cases h2), ht, if_neg (fun h => by rw [h] at h3; cases h3), if_pos (by simp at hcond; omega)]
    · refine .f1 (.inl rfl) rfl ?_
      rename_i h2 h3
      rw [poFault, if_neg (hr (b := true) (by assumption)), if_neg hnf, if_neg (fun h => by rw [h] at h2; cases h2), ht, if_neg (fun h => by rw [h] at h3; cases h3), if_neg (by simp at hcond; omega)]
theorem unitOf_nat (b : Nat) : unitOf (b : Int) = ((2 ^ (16 - b) : Nat) : Int) := by
  unfold unitOf
  rw [Int.toNat_natCast]
  simp
set_option maxHeartbeats 4000000 in
theorem addAcl_T (c : Cf) (a : Ac) (hl : c.Small) (hn : c.acs.length ≤ 40) : Fun Try.prog 99 [.agg ((encCf c).map .fv), .agg ((encAc a).map .fv)] (.fv (.int .i64 (acFault c a))) := by
  have hl1 := hl.1
  have hix := idxB_any (fun x : Sw => x.id == a.sw) c.ss
  have hpl := place_T c a.sw hl1
  refine Fun.body tbl_ok Try.func99 rfl (by kernel_rfl) rfl rfl rfl ?_
  repeat' (first
    | (apply Ops.loc; (· rfl); (· rfl); (· rfl); (· first | exact .eff (.mv rfl) | exact .eff (.asg rfl) | exact .eff (.loadO rfl rfl rfl) | exact .eff (.loadF rfl rfl) | exact .eff (.fldO rfl rfl rfl) | exact .eff (.fldF rfl rfl rfl) | (refine .eff (.add64 rfl rfl ?_ ?_) <;> omega) | (refine .eff (.sub64 rfl rfl ?_ ?_) <;> omega) | exact .eff (.lenF rfl rfl) | exact .eff (.lenO rfl rfl rfl) | exact .eff (.lenN rfl rfl) | exact .eff (.lenS rfl rfl) | exact .eff (.or rfl rfl rfl) | exact .eff (.and rfl rfl rfl) | exact .eff (.not rfl) | exact .eff (.extract rfl rfl) | (refine .eff (.mul64 rfl rfl ?_ ?_) <;> omega) | exact .eff (.bin rfl rfl rfl) | (refine .eff (.quo64 rfl rfl ?_ ?_ ?_) <;> omega) | (refine .eff (.rem64 rfl rfl ?_ ?_) <;> omega) | exact .eff (.idxPO rfl rfl rfl (by omega) (by omega)) | exact .eff (.idxPF rfl rfl rfl (by omega) (by omega)) | exact .eff (.idxO rfl rfl rfl rfl (by omega) (by omega)) | exact .eff (.build rfl rfl rfl rfl) | exact .eff (.eqA rfl rfl rfl rfl rfl) | exact .eff (.neA rfl rfl rfl rfl rfl) | exact .eff (.quo rfl rfl (by decide)) | exact .eff (.rem rfl rfl (by decide)) | exact .eff (.shr rfl rfl (by decide) (by decide)) | exact .eff (.shl rfl rfl (by decide) (by decide)) | exact .eff (.conv rfl rfl rfl) | exact .eff (.strEq rfl rfl) | exact .eff (.strNe rfl rfl) | exact .eff (.mkFn) | exact .eff (.nilO rfl) | exact .eff (.nilF rfl) | exact .eff (.neg rfl) | exact .eff (.max rfl rfl) | exact .eff (.min rfl rfl) | exact .callL rfl rfl rfl (by first | exact within_T _ _ _) rfl | (apply LEff.callBL rfl rfl (by first | exact within_T _ _ _) (by repeat' (first | exact .nil | refine .cons ?_ ?_ | exact .le (.refl _) | exact .row rfl | exact .box rfl | exact .le .nil | refine .agg ?_ | refine .fn ?_ | fail)) rfl)))
    | with_reducible refine WP.seq ?_
    | with_reducible refine WP.reg tbl_ok rfl ?_
    | with_reducible refine Ops.nil ?_
    | with_reducible refine thenQ.nor ?_
    | with_reducible refine thenQ.ex ?_
    | with_reducible refine thenQ.ret ?_
    | with_reducible refine blockQ.nor ?_
    | with_reducible refine blockQ.ret ?_
    | with_reducible refine blockQ.hit rfl ?_
    | with_reducible refine blockQ.out rfl ?_
    | with_reducible refine WP.block ?_
    | with_reducible refine WP.skip ?_
    | with_reducible refine WP.exit ?_
    | with_reducible refine WP.ret ?_
    | refine WP.condT rfl ?_
    | refine WP.condF rfl ?_
    | (refine WP.cond rfl ?_ ?_ <;> intro hcond)
    | (apply Ops.gst; (· rfl); (· rfl); (· rfl); (· rfl); (· rfl); (· rfl); (· rfl); (· first | exact .b | exact .w); (· intro hc; repeat' (first | exact trivial | exact fun _ => hc | exact fun _ => hc.1 | exact fun _ => ⟨hc.1.1, hc.1.2⟩ | refine And.intro ?_ ?_)); (· intro hc; first | exact .eff (.mvG rfl) | exact .eff (.asg rfl) | exact .eff (.loadO rfl rfl rfl) | exact .eff (.loadF rfl rfl) | exact .eff (.fldO rfl rfl rfl) | exact .eff (.fldF rfl rfl rfl) | (refine .eff (.add64 rfl rfl ?_ ?_) <;> omega) | (refine .eff (.sub64 rfl rfl ?_ ?_) <;> omega) | exact .eff (.lenF rfl rfl) | exact .eff (.lenO rfl rfl rfl) | exact .eff (.lenN rfl rfl) | exact .eff (.lenS rfl rfl) | exact .eff (.or rfl rfl rfl) | exact .eff (.and rfl rfl rfl) | exact .eff (.not rfl) | exact .eff (.extract rfl rfl) | (refine .eff (.mul64 rfl rfl ?_ ?_) <;> omega) | exact .eff (.bin rfl rfl rfl) | (refine .eff (.quo64 rfl rfl ?_ ?_ ?_) <;> omega) | (refine .eff (.rem64 rfl rfl ?_ ?_) <;> omega) | exact .eff (.idxPO rfl rfl rfl (by omega) (by omega)) | exact .eff (.idxPF rfl rfl rfl (by omega) (by omega)) | exact .eff (.idxO rfl rfl rfl rfl (by omega) (by omega)) | exact .eff (.build rfl rfl rfl rfl) | exact .eff (.eqA rfl rfl rfl rfl rfl) | exact .eff (.neA rfl rfl rfl rfl rfl) | exact .eff (.quo rfl rfl (by decide)) | exact .eff (.rem rfl rfl (by decide)) | exact .eff (.shr rfl rfl (by decide) (by decide)) | exact .eff (.shl rfl rfl (by decide) (by decide)) | exact .eff (.conv rfl rfl rfl) | exact .eff (.strEq rfl rfl) | exact .eff (.strNe rfl rfl) | exact .eff (.mkFn) | exact .eff (.nilO rfl) | exact .eff (.nilF rfl) | exact .eff (.neg rfl) | exact .eff (.max rfl rfl) | exact .eff (.min rfl rfl) | exact .callG rfl rfl rfl (by first | exact within_T _ _ _) rfl | (apply LEff.callBG rfl rfl (by first | exact within_T _ _ _) (by repeat' (first | exact .nil | refine .cons ?_ ?_ | exact .le (.refl _) | exact .row rfl | exact .box rfl | exact .le .nil | refine .agg ?_ | refine .fn ?_ | fail)) rfl)); (· rfl); (· rfl))
    | (apply Ops.new; (· rfl); (· rfl); (· rfl); (· first | exact .eff (.box rfl) | exact .eff (.alloc rfl) | exact .eff (.bslice rfl rfl rfl rfl rfl)); (· first | rfl | (simp only [freshB, noRefH, OB.cells, refsL_fv, refsL_app]; rfl)))
    | refine Ops.app rfl rfl rfl rfl rfl rfl rfl (by first | exact .nil | exact .own rfl (rmv_p _ _)) (by first | exact .nil | exact .own rfl (by first | rfl | exact onesB_map _) | exact .fz (by first | rfl | simp)) rfl ?_ (by first | rfl | (simp only [freshB, noRefH, OB.cells, refsL_fv, refsL_app]; rfl)) ?_
    | (show (_ : Nat) ≤ 140737488355328; omega)
    | refine Ops.stoW rfl rfl rfl rfl rfl rfl (by first | rfl | exact onesB_map _) rfl rfl (by repeat' (first | exact .here | apply Repl.there rfl)) ?_
    | refine Ops.stoB rfl rfl rfl rfl rfl rfl (by first | rfl | exact onesB_map _) rfl rfl (by repeat' (first | exact .here | apply Repl.there rfl)) ?_
    | refine Ops.stoR rfl rfl rfl rfl rfl rfl (by first | rfl | exact onesB_map _) rfl rfl (by repeat' (first | exact .here | apply Repl.there rfl)) ?_
    | refine Ops.gand rfl rfl rfl rfl rfl rfl rfl (by first | exact .b | exact .w) rfl rfl rfl (by simp) (by intro hc; first | exact hc | exact hc.1) (by intro hc; exact ⟨fun h => h.2, fun h => ⟨hc, h⟩⟩) ?_
    | refine Ops.gor rfl rfl rfl rfl rfl rfl rfl (by first | exact .b | exact .w) rfl rfl rfl (by simp) (by intro hc; first | exact hc | exact hc.1) (by intro hc; exact ⟨fun h => h.2, fun h => ⟨hc, h⟩⟩) ?_
    | refine WP.drwL tbl_ok mixed_no (by kernel_rfl) (by first | rfl | (simp only [freeB, noRefH, OB.cells, refsL_fv, refsL_app]; rfl)) rfl ?_
    | fail)
  · refine .f1 (.inl rfl) rfl ?_
    rw [acFault, if_pos (by simpa [or_assoc] using hcond)]
  have h1 : ¬ (inR a.prio 0 1000 = false ∨ inR a.src 0 65535 = false ∨ inR a.dst 0 65535 = false ∨ inR a.srcBits 0 16 = false ∨ inR a.dstBits 0 16 = false ∨ inR a.port (-1) 65535 = false) := by simpa [and_assoc] using hcond
  have g1 := inR_iff.1 (show inR a.src 0 65535 = true by simp_all)
  have g2 := inR_iff.1 (show inR a.dst 0 65535 = true by simp_all)
  have g3 := inR_iff.1 (show inR a.srcBits 0 16 = true by simp_all)
  have g4 := inR_iff.1 (show inR a.dstBits 0 16 = true by simp_all)
  obtain ⟨sb, hsb⟩ := Int.eq_ofNat_of_zero_le g3.1
  obtain ⟨db, hdb⟩ := Int.eq_ofNat_of_zero_le g4.1
  obtain ⟨sr, hsr⟩ := Int.eq_ofNat_of_zero_le g1.1
  obtain ⟨ds, hds⟩ := Int.eq_ofNat_of_zero_le g2.1
  have m1 := mask_T sb (by omega)
  have m2 := mask_T db (by omega)
  rw [← hsb] at m1
  rw [← hdb] at m2
  have n1 := andNot_mask sr sb (by omega) (by omega)
  have n2 := andNot_mask ds db (by omega) (by omega)
  rw [← hsr] at n1
  rw [← hds] at n2
  have hsec : (bits .andNot .i64 a.src ((65536 - 2 ^ (16 - sb) : Nat) : Int) != 0 || bits .andNot .i64 a.dst ((65536 - 2 ^ (16 - db) : Nat) : Int) != 0) = true ↔ (a.src % unitOf a.srcBits ≠ 0 ∨ a.dst % unitOf a.dstBits ≠ 0) := by
    rw [n1, n2, hsb, hdb, unitOf_nat, unitOf_nat, hsr, hds, Bool.or_eq_true, bne_iff_ne, bne_iff_ne, Int.natCast_emod, Int.natCast_emod]
  clear hcond
  repeat' (first
    | (apply Ops.loc; (· rfl); (· rfl); (· rfl); (· first | exact .eff (.mv rfl) | exact .eff (.asg rfl) | exact .eff (.loadO rfl rfl rfl) | exact .eff (.loadF rfl rfl) | exact .eff (.fldO rfl rfl rfl) | exact .eff (.fldF rfl rfl rfl) | (refine .eff (.add64 rfl rfl ?_ ?_) <;> omega) | (refine .eff (.sub64 rfl rfl ?_ ?_) <;> omega) | exact .eff (.lenF rfl rfl) | exact .eff (.lenO rfl rfl rfl) | exact .eff (.lenN rfl rfl) | exact .eff (.lenS rfl rfl) | exact .eff (.or rfl rfl rfl) | exact .eff (.and rfl rfl rfl) | exact .eff (.not rfl) | exact .eff (.extract rfl rfl) | (refine .eff (.mul64 rfl rfl ?_ ?_) <;> omega) | exact .eff (.bin rfl rfl rfl) | (refine .eff (.quo64 rfl rfl ?_ ?_ ?_) <;> omega) | (refine .eff (.rem64 rfl rfl ?_ ?_) <;> omega) | exact .eff (.idxPO rfl rfl rfl (by omega) (by omega)) | exact .eff (.idxPF rfl rfl rfl (by omega) (by omega)) | exact .eff (.idxO rfl rfl rfl rfl (by omega) (by omega)) | exact .eff (.build rfl rfl rfl rfl) | exact .eff (.eqA rfl rfl rfl rfl rfl) | exact .eff (.neA rfl rfl rfl rfl rfl) | exact .eff (.quo rfl rfl (by decide)) | exact .eff (.rem rfl rfl (by decide)) | exact .eff (.shr rfl rfl (by decide) (by decide)) | exact .eff (.shl rfl rfl (by decide) (by decide)) | exact .eff (.conv rfl rfl rfl) | exact .eff (.strEq rfl rfl) | exact .eff (.strNe rfl rfl) | exact .eff (.mkFn) | exact .eff (.nilO rfl) | exact .eff (.nilF rfl) | exact .eff (.neg rfl) | exact .eff (.max rfl rfl) | exact .eff (.min rfl rfl) | exact .callL rfl rfl rfl (by first | exact m1 | exact m2 | exact hpl) rfl | (apply LEff.callBL rfl rfl (by first | exact m1 | exact m2 | exact hpl) (by repeat' (first | exact .nil | refine .cons ?_ ?_ | exact .le (.refl _) | exact .row rfl | exact .box rfl | exact .le .nil | refine .agg ?_ | refine .fn ?_ | fail)) rfl)))
    | with_reducible refine WP.seq ?_
    | with_reducible refine WP.reg tbl_ok rfl ?_
    | with_reducible refine Ops.nil ?_
    | with_reducible refine thenQ.nor ?_
    | with_reducible refine thenQ.ex ?_
    | with_reducible refine thenQ.ret ?_
    | with_reducible refine blockQ.nor ?_
    | with_reducible refine blockQ.ret ?_
    | with_reducible refine blockQ.hit rfl ?_
    | with_reducible refine blockQ.out rfl ?_
    | with_reducible refine WP.block ?_
    | with_reducible refine WP.skip ?_
    | with_reducible refine WP.exit ?_
    | with_reducible refine WP.ret ?_
    | refine WP.condT rfl ?_
    | refine WP.condF rfl ?_
    | (refine WP.cond rfl ?_ ?_ <;> intro hcond)
    | (apply Ops.gst; (· rfl); (· rfl); (· rfl); (· rfl); (· rfl); (· rfl); (· rfl); (· first | exact .b | exact .w); (· intro hc; repeat' (first | exact trivial | exact fun _ => hc | exact fun _ => hc.1 | exact fun _ => ⟨hc.1.1, hc.1.2⟩ | refine And.intro ?_ ?_)); (· intro hc; first | exact .eff (.mvG rfl) | exact .eff (.asg rfl) | exact .eff (.loadO rfl rfl rfl) | exact .eff (.loadF rfl rfl) | exact .eff (.fldO rfl rfl rfl) | exact .eff (.fldF rfl rfl rfl) | (refine .eff (.add64 rfl rfl ?_ ?_) <;> omega) | (refine .eff (.sub64 rfl rfl ?_ ?_) <;> omega) | exact .eff (.lenF rfl rfl) | exact .eff (.lenO rfl rfl rfl) | exact .eff (.lenN rfl rfl) | exact .eff (.lenS rfl rfl) | exact .eff (.or rfl rfl rfl) | exact .eff (.and rfl rfl rfl) | exact .eff (.not rfl) | exact .eff (.extract rfl rfl) | (refine .eff (.mul64 rfl rfl ?_ ?_) <;> omega) | exact .eff (.bin rfl rfl rfl) | (refine .eff (.quo64 rfl rfl ?_ ?_ ?_) <;> omega) | (refine .eff (.rem64 rfl rfl ?_ ?_) <;> omega) | exact .eff (.idxPO rfl rfl rfl (by omega) (by omega)) | exact .eff (.idxPF rfl rfl rfl (by omega) (by omega)) | exact .eff (.idxO rfl rfl rfl rfl (by omega) (by omega)) | exact .eff (.build rfl rfl rfl rfl) | exact .eff (.eqA rfl rfl rfl rfl rfl) | exact .eff (.neA rfl rfl rfl rfl rfl) | exact .eff (.quo rfl rfl (by decide)) | exact .eff (.rem rfl rfl (by decide)) | exact .eff (.shr rfl rfl (by decide) (by decide)) | exact .eff (.shl rfl rfl (by decide) (by decide)) | exact .eff (.conv rfl rfl rfl) | exact .eff (.strEq rfl rfl) | exact .eff (.strNe rfl rfl) | exact .eff (.mkFn) | exact .eff (.nilO rfl) | exact .eff (.nilF rfl) | exact .eff (.neg rfl) | exact .eff (.max rfl rfl) | exact .eff (.min rfl rfl) | exact .callG rfl rfl rfl (by first | exact m1 | exact m2 | exact hpl) rfl | (apply LEff.callBG rfl rfl (by first | exact m1 | exact m2 | exact hpl) (by repeat' (first | exact .nil | refine .cons ?_ ?_ | exact .le (.refl _) | exact .row rfl | exact .box rfl | exact .le .nil | refine .agg ?_ | refine .fn ?_ | fail)) rfl)); (· rfl); (· rfl))
    | (apply Ops.new; (· rfl); (· rfl); (· rfl); (· first | exact .eff (.box rfl) | exact .eff (.alloc rfl) | exact .eff (.bslice rfl rfl rfl rfl rfl)); (· first | rfl | (simp only [freshB, noRefH, OB.cells, refsL_fv, refsL_app]; rfl)))
    | refine Ops.app rfl rfl rfl rfl rfl rfl rfl (by first | exact .nil | exact .own rfl (rmv_p _ _)) (by first | exact .nil | exact .own rfl (by first | rfl | exact onesB_map _) | exact .fz (by first | rfl | simp)) rfl ?_ (by first | rfl | (simp only [freshB, noRefH, OB.cells, refsL_fv, refsL_app]; rfl)) ?_
    | (show (_ : Nat) ≤ 140737488355328; omega)
    | refine Ops.stoW rfl rfl rfl rfl rfl rfl (by first | rfl | exact onesB_map _) rfl rfl (by repeat' (first | exact .here | apply Repl.there rfl)) ?_
    | refine Ops.stoB rfl rfl rfl rfl rfl rfl (by first | rfl | exact onesB_map _) rfl rfl (by repeat' (first | exact .here | apply Repl.there rfl)) ?_
    | refine Ops.stoR rfl rfl rfl rfl rfl rfl (by first | rfl | exact onesB_map _) rfl rfl (by repeat' (first | exact .here | apply Repl.there rfl)) ?_
    | refine Ops.gand rfl rfl rfl rfl rfl rfl rfl (by first | exact .b | exact .w) rfl rfl rfl (by simp) (by intro hc; first | exact hc | exact hc.1) (by intro hc; exact ⟨fun h => h.2, fun h => ⟨hc, h⟩⟩) ?_
    | refine Ops.gor rfl rfl rfl rfl rfl rfl rfl (by first | exact .b | exact .w) rfl rfl rfl (by simp) (by intro hc; first | exact hc | exact hc.1) (by intro hc; exact ⟨fun h => h.2, fun h => ⟨hc, h⟩⟩) ?_
    | refine WP.drwL tbl_ok mixed_no (by kernel_rfl) (by first | rfl | (simp only [freeB, noRefH, OB.cells, refsL_fv, refsL_app]; rfl)) rfl ?_
    | fail)
  · refine .f1 (.inl rfl) rfl ?_
    rw [acFault, if_neg h1, if_pos (hsec.1 hcond)]
  · refine .f1 (.inl rfl) rfl ?_
    rename_i h2
    rw [acFault, if_neg h1, if_neg (fun h => by rw [hsec.2 h] at h2; cases h2), if_pos (hix.1 (by simpa using hcond))]
  · refine .f1 (.inl rfl) rfl ?_
    rename_i h2 h3
    have h3 : ¬ (c.ss.any (fun x => x.id == a.sw) = false) := fun h => by simp at h3; have := hix.2 h; omega
    rw [acFault, if_neg h1, if_neg (fun h => by rw [hsec.2 h] at h2; cases h2), if_neg h3, if_pos (by simp at hcond; omega)]
  · refine .f1 (.inl rfl) rfl ?_
    rename_i h2 h3
    have h3 : ¬ (c.ss.any (fun x => x.id == a.sw) = false) := fun h => by simp at h3; have := hix.2 h; omega
    rw [acFault, if_neg h1, if_neg (fun h => by rw [hsec.2 h] at h2; cases h2), if_neg h3, if_neg (by simp at hcond; omega)]
end Go.Proofs.Ytfgiehfiieecoaa
