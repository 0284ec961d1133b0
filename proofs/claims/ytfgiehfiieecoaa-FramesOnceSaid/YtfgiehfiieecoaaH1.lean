/- Frames: what is wrong with one, by the logic of memory. -/
import Derived.Test.YtfgiehfiieecoaaF1
import Derived.Test.YtfgiehfiieecoaaD1
import Derived.Test.YtfgiehfiieecoaaG2
namespace Go.Proofs.Ytfgiehfiieecoaa
open Go.RowKit
set_option maxRecDepth 100000

theorem size_nil (s : ByteArray) : (!(s.toList == (⟨#[]⟩ : ByteArray).toList)) = decide (s.size ≠ 0) := by
  have h1 : (⟨#[]⟩ : ByteArray).toList = [] := by rw [ByteArray.toList_eq]
  have h2 := toList_isEmpty s
  rw [h1]
  cases h : s.toList with
  | nil => rw [h] at h2; simp at h2; simp [h2]
  | cons a l => rw [h] at h2; simp at h2; simp [h2]
theorem frameFault_b (f : Fr) : frameFault f = if (decide (f.kind < 1) || decide (f.kind > 3)) = true then 3
    else if (!word f.dst || !word f.src || !word f.ipSrc || !word f.ipDst || !word f.port || decide (f.ttl < 0) || decide (f.ttl > 255)) = true then 2
    else if decide ((f.body.size : Int) > 40) = true then 1
    else if (f.kind != 3 && (f.ttl != 0 || f.port != 0 || !f.body.toList == (⟨#[]⟩ : ByteArray).toList)) = true then 4 else 0 := by
  unfold frameFault
  rw [size_nil]
  have e1 : (f.kind < 1 ∨ 3 < f.kind) = ((decide (f.kind < 1) || decide (f.kind > 3)) = true) := by simp
  have e2 : (word f.dst = false ∨ word f.src = false ∨ word f.ipSrc = false ∨ word f.ipDst = false ∨ word f.port = false ∨ f.ttl < 0 ∨ 255 < f.ttl) = ((!word f.dst || !word f.src || !word f.ipSrc || !word f.ipDst || !word f.port || decide (f.ttl < 0) || decide (f.ttl > 255)) = true) := by simp [or_assoc]
  have e3 : (40 < f.body.size) = (decide ((f.body.size : Int) > 40) = true) := by simp; omega
  have e4 : (f.kind ≠ 3 ∧ (f.ttl ≠ 0 ∨ f.port ≠ 0 ∨ f.body.size ≠ 0)) = ((f.kind != 3 && (f.ttl != 0 || f.port != 0 || decide (f.body.size ≠ 0))) = true) := by simp [or_assoc]
  simp only [e1, e2, e3, e4]
set_option maxHeartbeats 2000000 in
theorem wireCheck_T (f : Fr) : Fun Try.prog 35 [.agg ((encFr f).map .fv)] (.fv (.int .i64 (frameFault f))) := by
  have hb := frameFault_b f
  refine Fun.body tbl_ok Try.func35 rfl (by kernel_rfl) rfl rfl rfl ?_
  repeat' (first
    | (apply Ops.loc; (· rfl); (· rfl); (· rfl); (· first | exact .eff (.mv rfl) | exact .eff (.asg rfl) | exact .eff (.loadO rfl rfl rfl) | exact .eff (.loadF rfl rfl) | exact .eff (.fldO rfl rfl rfl) | exact .eff (.fldF rfl rfl rfl) | (refine .eff (.add64 rfl rfl ?_ ?_) <;> omega) | (refine .eff (.sub64 rfl rfl ?_ ?_) <;> omega) | exact .eff (.lenF rfl rfl) | exact .eff (.lenO rfl rfl rfl) | exact .eff (.lenN rfl rfl) | exact .eff (.lenS rfl rfl) | exact .eff (.isNilF rfl (by omega) rfl (flatMap_len (fun _ => rfl) _)) | exact .eff (.isNilO rfl rfl (by omega) rfl) | exact .eff (.isNilZ rfl rfl rfl) | exact .eff (.lenB rfl rfl) | exact .eff (.idxB rfl rfl rfl (by omega) (by omega)) | exact .eff (.oLH rfl rfl rfl rfl rfl (by omega) (by omega)) | exact .eff (.oL rfl rfl rfl rfl (by omega)) | exact .eff (.oH rfl rfl rfl rfl (by omega)) | exact .eff (.bLH rfl rfl rfl rfl rfl (by omega) (by omega)) | exact .eff (.or rfl rfl rfl) | exact .eff (.and rfl rfl rfl) | exact .eff (.not rfl) | exact .eff (.extract rfl rfl) | (refine .eff (.mul64 rfl rfl ?_ ?_) <;> omega) | exact .eff (.bin rfl rfl rfl) | (refine .eff (.quo64 rfl rfl ?_ ?_ ?_) <;> omega) | (refine .eff (.rem64 rfl rfl ?_ ?_) <;> omega) | exact .eff (.idxPO rfl rfl rfl (by omega) (by omega)) | exact .eff (.idxPF rfl rfl rfl (by omega) (by omega)) | exact .eff (.idxO rfl rfl rfl rfl (by omega) (by omega)) | exact .eff (.buildS rfl rfl rfl rfl) | exact .eff (.eqA rfl rfl rfl rfl rfl) | exact .eff (.neA rfl rfl rfl rfl rfl) | exact .eff (.quo rfl rfl (by decide)) | exact .eff (.rem rfl rfl (by decide)) | exact .eff (.shr rfl rfl (by decide) (by decide)) | exact .eff (.shl rfl rfl (by decide) (by decide)) | exact .eff (.conv rfl rfl rfl) | exact .eff (.strEq rfl rfl) | exact .eff (.strNe rfl rfl) | exact .eff (.mkFn) | exact .eff (.nilO rfl) | exact .eff (.nilF rfl) | exact .eff (.neg rfl) | exact .eff (.max rfl rfl) | exact .eff (.min rfl rfl) | exact .callL rfl rfl rfl (by first | exact wword_T _) rfl | (apply LEff.callBL; (· rfl); (· rfl); (· exact wword_T _); (· skip; repeat' (first | exact .nil | refine .cons ?_ ?_ | exact .le (.refl _) | exact .row rfl | exact .box rfl | exact .cut rfl (by omega) | exact .le .nil | refine .agg ?_ | refine .fn ?_ | fail)); (· rfl))))
    | with_reducible refine WP.seq ?_
    | with_reducible apply WP.reg tbl_ok rfl
    | with_reducible refine Ops.nil ?_
    | with_reducible refine thenQ.nor ?_
    | with_reducible refine thenQ.ex ?_
    | with_reducible refine thenQ.ret ?_
    | with_reducible refine blockQ.nor ?_
    | with_reducible refine blockQ.ret ?_
    | with_reducible refine blockQ.hit rfl ?_
    | with_reducible refine blockQ.out rfl ?_
    | with_reducible refine WP.block ?_
    | with_reducible refine WP.skip ?_
    | with_reducible refine WP.exit ?_
    | with_reducible refine WP.ret ?_
    | refine WP.condT rfl ?_
    | refine WP.condF rfl ?_
    | refine WP.condBit rfl ?_ ?_
    | (refine WP.cond rfl ?_ ?_ <;> intro hcond)
    | (apply Ops.gst; (· rfl); (· rfl); (· rfl); (· rfl); (· rfl); (· rfl); (· rfl); (· first | exact .b | exact .w); (· intro hc; repeat' (first | exact trivial | exact fun _ => hc | exact fun _ => hc.1 | exact fun _ => ⟨hc.1.1, hc.1.2⟩ | refine And.intro ?_ ?_)); (· intro hc; first | exact .eff (.mvG rfl) | exact .eff (.asg rfl) | exact .eff (.loadO rfl rfl rfl) | exact .eff (.loadF rfl rfl) | exact .eff (.fldO rfl rfl rfl) | exact .eff (.fldF rfl rfl rfl) | (refine .eff (.add64 rfl rfl ?_ ?_) <;> omega) | (refine .eff (.sub64 rfl rfl ?_ ?_) <;> omega) | exact .eff (.lenF rfl rfl) | exact .eff (.lenO rfl rfl rfl) | exact .eff (.lenN rfl rfl) | exact .eff (.lenS rfl rfl) | exact .eff (.isNilF rfl (by omega) rfl (flatMap_len (fun _ => rfl) _)) | exact .eff (.isNilO rfl rfl (by omega) rfl) | exact .eff (.isNilZ rfl rfl rfl) | exact .eff (.lenB rfl rfl) | exact .eff (.idxB rfl rfl rfl (by omega) (by omega)) | exact .eff (.oLH rfl rfl rfl rfl rfl (by omega) (by omega)) | exact .eff (.oL rfl rfl rfl rfl (by omega)) | exact .eff (.oH rfl rfl rfl rfl (by omega)) | exact .eff (.bLH rfl rfl rfl rfl rfl (by omega) (by omega)) | exact .eff (.or rfl rfl rfl) | exact .eff (.and rfl rfl rfl) | exact .eff (.not rfl) | exact .eff (.extract rfl rfl) | (refine .eff (.mul64 rfl rfl ?_ ?_) <;> omega) | exact .eff (.bin rfl rfl rfl) | (refine .eff (.quo64 rfl rfl ?_ ?_ ?_) <;> omega) | (refine .eff (.rem64 rfl rfl ?_ ?_) <;> omega) | exact .eff (.idxPO rfl rfl rfl (by omega) (by omega)) | exact .eff (.idxPF rfl rfl rfl (by omega) (by omega)) | exact .eff (.idxO rfl rfl rfl rfl (by omega) (by omega)) | exact .eff (.buildS rfl rfl rfl rfl) | exact .eff (.eqA rfl rfl rfl rfl rfl) | exact .eff (.neA rfl rfl rfl rfl rfl) | exact .eff (.quo rfl rfl (by decide)) | exact .eff (.rem rfl rfl (by decide)) | exact .eff (.shr rfl rfl (by decide) (by decide)) | exact .eff (.shl rfl rfl (by decide) (by decide)) | exact .eff (.conv rfl rfl rfl) | exact .eff (.strEq rfl rfl) | exact .eff (.strNe rfl rfl) | exact .eff (.mkFn) | exact .eff (.nilO rfl) | exact .eff (.nilF rfl) | exact .eff (.neg rfl) | exact .eff (.max rfl rfl) | exact .eff (.min rfl rfl) | exact .callG rfl rfl rfl (by first | exact wword_T _) rfl | (apply LEff.callBG; (· rfl); (· rfl); (· exact wword_T _); (· skip; repeat' (first | exact .nil | refine .cons ?_ ?_ | exact .le (.refl _) | exact .row rfl | exact .box rfl | exact .cut rfl (by omega) | exact .le .nil | refine .agg ?_ | refine .fn ?_ | fail)); (· rfl))); (· rfl); (· rfl))
    | (apply Ops.new; (· rfl); (· rfl); (· rfl); (· first | exact .eff (.box rfl) | exact .eff (.alloc rfl) | exact .eff (.bsliceS rfl rfl rfl rfl rfl) | exact .eff (.mkS rfl rfl rfl rfl (by omega) (by omega)) | exact .eff (.zeroS rfl rfl (by intro l hl; first | cases hl | exact ⟨_, by injection hl with hl; subst hl; rfl⟩) rfl rfl rfl)); (· first | rfl | (simp only [freshB, noRefH, OB.cells, refsL_fv, refsL_app]; rfl)))
    | (apply Ops.app; (· rfl); (· rfl); (· rfl); (· rfl); (· rfl); (· rfl); (· rfl); (· exact (by first | exact .nil | exact .own rfl (rmv_q (by first | exact (rfl : _ = []) | exact (rfl : _ = [_]) | exact (rfl : _ = [_, _]) | exact (rfl : _ = [_, _, _]) | exact (rfl : _ = [_, _, _, _]) | exact (rfl : _ = [_, _, _, _, _]) | exact (rfl : _ = [_, _, _, _, _, _]) | exact (rfl : _ = [_, _, _, _, _, _, _]) | exact (rfl : _ = [_, _, _, _, _, _, _, _]) | exact (rfl : _ = [_, _, _, _, _, _, _, _, _]) | exact (rfl : _ = [_, _, _, _, _, _, _, _, _, _]) | exact (rfl : _ = [_, _, _, _, _, _, _, _, _, _, _]) | exact (rfl : _ = [_, _, _, _, _, _, _, _, _, _, _, _]))))); (· exact (by first | exact .nil | exact .own rfl (by first | rfl | exact onesB_map _) | exact .fz (by first | rfl | (simp; done) | exact (flatMap_len (s := 1) (fun _ => rfl) _).trans (by omega)))); (· rfl); (· show (_ : Nat) ≤ 140737488355328; omega); (· first | rfl | (simp only [freshB, noRefH, OB.cells, refsL_fv, refsL_app]; rfl)))
    | (apply Ops.appS; (· rfl); (· rfl); (· rfl); (· rfl); (· rfl); (· rfl); (· rfl); (· rfl); (· rfl); (· exact (by first | exact .nil | exact .own rfl (rmv_q (by first | exact (rfl : _ = []) | exact (rfl : _ = [_]) | exact (rfl : _ = [_, _]) | exact (rfl : _ = [_, _, _]) | exact (rfl : _ = [_, _, _, _]) | exact (rfl : _ = [_, _, _, _, _]) | exact (rfl : _ = [_, _, _, _, _, _]) | exact (rfl : _ = [_, _, _, _, _, _, _]) | exact (rfl : _ = [_, _, _, _, _, _, _, _]) | exact (rfl : _ = [_, _, _, _, _, _, _, _, _]) | exact (rfl : _ = [_, _, _, _, _, _, _, _, _, _]) | exact (rfl : _ = [_, _, _, _, _, _, _, _, _, _, _]) | exact (rfl : _ = [_, _, _, _, _, _, _, _, _, _, _, _]))))); (· show (_ : Nat) ≤ 140737488355328; omega); (· first | rfl | (simp only [freshB, noRefH, OB.cells, refsL_fv, refsL_app]; rfl)))
    | (apply Ops.stoW; (· rfl); (· rfl); (· rfl); (· rfl); (· rfl); (· rfl); (· first | rfl | exact onesB_map _); (· rfl); (· exact rfl); (· exact (by repeat' (first | exact .here | apply Repl.there rfl))))
    | (apply Ops.stoB; (· rfl); (· rfl); (· rfl); (· rfl); (· rfl); (· rfl); (· first | rfl | exact onesB_map _); (· rfl); (· exact rfl); (· exact (by repeat' (first | exact .here | apply Repl.there rfl))))
    | (apply Ops.stoR; (· rfl); (· rfl); (· rfl); (· rfl); (· rfl); (· rfl); (· first | rfl | exact onesB_map _); (· rfl); (· exact rfl); (· exact (by repeat' (first | exact .here | apply Repl.there rfl))))
    | (apply Ops.gand; (· rfl); (· rfl); (· rfl); (· rfl); (· rfl); (· rfl); (· rfl); (· exact (by first | exact .b | exact .w)); (· rfl); (· rfl); (· rfl); (· simp); (· intro hc; first | exact hc | exact hc.1); (· intro hc; exact ⟨fun h => h.2, fun h => ⟨hc, h⟩⟩))
    | (apply Ops.gor; (· rfl); (· rfl); (· rfl); (· rfl); (· rfl); (· rfl); (· rfl); (· exact (by first | exact .b | exact .w)); (· rfl); (· rfl); (· rfl); (· simp); (· intro hc; first | exact hc | exact hc.1); (· intro hc; exact ⟨fun h => h.2, fun h => ⟨hc, h⟩⟩))
    | apply WP.drwL tbl_ok mixed_no rfl
    | ((with_reducible apply drwK.mk); (· kernel_rfl); (· first | rfl | (simp only [freeF, List.all_cons, List.all_nil, noRefH, OB.cells, refsL_fv, refsL_app]; rfl)))
    | fail)
  all_goals (try exact ([] : List Fp))
  all_goals
    refine .f1 (.inl rfl) rfl ?_
    rw [hb]
    simp only [*]
    rfl
def l5 (f : Fr) : Nat → Int
  | 0 => f.dst
  | 1 => f.src
  | 2 => f.ipSrc
  | 3 => f.ipDst
  | _ => f.port
theorem read5 {f : Fr} {k : Nat} (h : k < 5) : readA tbl 3 ((k : Int).toNat * 1) [.fv (.int .i64 f.dst), .fv (.int .i64 f.src), .fv (.int .i64 f.ipSrc), .fv (.int .i64 f.ipDst), .fv (.int .i64 f.port)] = some (.fv (.int .i64 (l5 f k))) := by
  rw [Int.toNat_natCast]
  match k, h with
  | 0, _ | 1, _ | 2, _ | 3, _ | 4, _ => rfl
  | k + 5, h => omega
def w5 (f : Fr) (k : Nat) : Bool := ([f.dst, f.src, f.ipSrc, f.ipDst, f.port].drop k).all word
theorem w5_at {f : Fr} {k : Nat} (h : k < 5) : w5 f k = (word (l5 f k) && w5 f (k + 1)) := by
  match k, h with
  | 0, _ | 1, _ | 2, _ | 3, _ | 4, _ => rfl
  | k + 5, h => omega
theorem frameFault_r (f : Fr) : frameFault f = if (!inR f.kind 1 3) = true then 3 else if w5 f 0 = false then 2 else if (!inR f.ttl 0 255) = true then 2 else if decide ((f.body.size : Int) > 40) = true then 1
    else if (f.kind != 3 && (decide (f.ttl > 0) || decide (f.port > 0) || decide ((f.body.size : Int) > 0))) = true then 4 else 0 := by
  have hw : w5 f 0 = (word f.dst && (word f.src && (word f.ipSrc && (word f.ipDst && (word f.port && true))))) := rfl
  unfold frameFault
  by_cases h1 : f.kind < 1 ∨ 3 < f.kind
  · have : inR f.kind 1 3 = false := inR_not.2 (by omega)
    rw [if_pos h1, this]
    rfl
  have h1' : inR f.kind 1 3 = true := inR_iff.2 (by omega)
  rw [if_neg h1, if_neg (show ¬ ((!inR f.kind 1 3) = true) by rw [h1']; simp)]
  by_cases h2 : w5 f 0 = false
  · have hL : word f.dst = false ∨ word f.src = false ∨ word f.ipSrc = false ∨ word f.ipDst = false ∨ word f.port = false ∨ f.ttl < 0 ∨ 255 < f.ttl := by
      rw [hw] at h2
      cases e1 : word f.dst
      · exact .inl rfl
      cases e2 : word f.src
      · exact .inr (.inl rfl)
      cases e3 : word f.ipSrc
      · exact .inr (.inr (.inl rfl))
      cases e4 : word f.ipDst
      · exact .inr (.inr (.inr (.inl rfl)))
      cases e5 : word f.port
      · exact .inr (.inr (.inr (.inr (.inl rfl))))
      rw [e1, e2, e3, e4, e5] at h2
      cases h2
    rw [if_pos hL, if_pos h2]
  have h2' : w5 f 0 = true := by simpa using h2
  rw [hw] at h2'
  simp only [Bool.and_eq_true] at h2'
  obtain ⟨a1, a2, a3, a4, a5, _⟩ := h2'
  rw [if_neg h2]
  by_cases h3 : f.ttl < 0 ∨ 255 < f.ttl
  · have : inR f.ttl 0 255 = false := inR_not.2 (by omega)
    rw [if_pos (show word f.dst = false ∨ word f.src = false ∨ word f.ipSrc = false ∨ word f.ipDst = false ∨ word f.port = false ∨ f.ttl < 0 ∨ 255 < f.ttl by rcases h3 with h | h <;> simp [h]), if_pos (show (!inR f.ttl 0 255) = true by rw [this]; rfl)]
  have h3' : inR f.ttl 0 255 = true := inR_iff.2 (by omega)
  rw [if_neg (show ¬ (word f.dst = false ∨ word f.src = false ∨ word f.ipSrc = false ∨ word f.ipDst = false ∨ word f.port = false ∨ f.ttl < 0 ∨ 255 < f.ttl) by rw [a1, a2, a3, a4, a5]; simp; omega), if_neg (show ¬ ((!inR f.ttl 0 255) = true) by rw [h3']; simp)]
  have hp := word_iff.1 a5
  have e3 : (40 < f.body.size) = (decide ((f.body.size : Int) > 40) = true) := by simp; omega
  have e4 : (f.kind ≠ 3 ∧ (f.ttl ≠ 0 ∨ f.port ≠ 0 ∨ f.body.size ≠ 0)) = ((f.kind != 3 && (decide (f.ttl > 0) || decide (f.port > 0) || decide ((f.body.size : Int) > 0))) = true) := by
    simp only [Bool.and_eq_true, Bool.or_eq_true, bne_iff_ne, ne_eq, decide_eq_true_eq, eq_iff_iff]
    omega
  simp only [e3, e4]
set_option maxHeartbeats 2000000 in
theorem frameFault_T (f : Fr) : Fun Try.prog 36 [.agg ((encFr f).map .fv)] (.fv (.int .i64 (frameFault f))) := by
  have hb := frameFault_r f
  refine Fun.body tbl_ok Try.func36 rfl (by kernel_rfl) rfl rfl rfl ?_
  repeat' (first
    | (apply Ops.loc; (· rfl); (· rfl); (· rfl); (· first | exact .eff (.mv rfl) | exact .eff (.asg rfl) | exact .eff (.loadO rfl rfl rfl) | exact .eff (.loadF rfl rfl) | exact .eff (.fldO rfl rfl rfl) | exact .eff (.fldF rfl rfl rfl) | (refine .eff (.add64 rfl rfl ?_ ?_) <;> omega) | (refine .eff (.sub64 rfl rfl ?_ ?_) <;> omega) | exact .eff (.lenF rfl rfl) | exact .eff (.lenO rfl rfl rfl) | exact .eff (.lenN rfl rfl) | exact .eff (.lenS rfl rfl) | exact .eff (.isNilF rfl (by omega) rfl (flatMap_len (fun _ => rfl) _)) | exact .eff (.isNilO rfl rfl (by omega) rfl) | exact .eff (.isNilZ rfl rfl rfl) | exact .eff (.lenB rfl rfl) | exact .eff (.idxB rfl rfl rfl (by omega) (by omega)) | exact .eff (.oLH rfl rfl rfl rfl rfl (by omega) (by omega)) | exact .eff (.oL rfl rfl rfl rfl (by omega)) | exact .eff (.oH rfl rfl rfl rfl (by omega)) | exact .eff (.bLH rfl rfl rfl rfl rfl (by omega) (by omega)) | exact .eff (.or rfl rfl rfl) | exact .eff (.and rfl rfl rfl) | exact .eff (.not rfl) | exact .eff (.extract rfl rfl) | (refine .eff (.mul64 rfl rfl ?_ ?_) <;> omega) | exact .eff (.bin rfl rfl rfl) | (refine .eff (.quo64 rfl rfl ?_ ?_ ?_) <;> omega) | (refine .eff (.rem64 rfl rfl ?_ ?_) <;> omega) | exact .eff (.idxPO rfl rfl rfl (by omega) (by omega)) | exact .eff (.idxPF rfl rfl rfl (by omega) (by omega)) | exact .eff (.idxO rfl rfl rfl rfl (by omega) (by omega)) | exact .eff (.buildS rfl rfl rfl rfl) | exact .eff (.eqA rfl rfl rfl rfl rfl) | exact .eff (.neA rfl rfl rfl rfl rfl) | exact .eff (.quo rfl rfl (by decide)) | exact .eff (.rem rfl rfl (by decide)) | exact .eff (.shr rfl rfl (by decide) (by decide)) | exact .eff (.shl rfl rfl (by decide) (by decide)) | exact .eff (.conv rfl rfl rfl) | exact .eff (.strEq rfl rfl) | exact .eff (.strNe rfl rfl) | exact .eff (.mkFn) | exact .eff (.nilO rfl) | exact .eff (.nilF rfl) | exact .eff (.neg rfl) | exact .eff (.max rfl rfl) | exact .eff (.min rfl rfl) | exact .callL rfl rfl rfl (by first | exact in_T _ _ _) rfl | (apply LEff.callBL; (· rfl); (· rfl); (· exact in_T _ _ _); (· skip; repeat' (first | exact .nil | refine .cons ?_ ?_ | exact .le (.refl _) | exact .row rfl | exact .box rfl | exact .cut rfl (by omega) | exact .le .nil | refine .agg ?_ | refine .fn ?_ | fail)); (· rfl))))
    | with_reducible refine WP.seq ?_
    | with_reducible apply WP.reg tbl_ok rfl
    | with_reducible refine Ops.nil ?_
    | with_reducible refine thenQ.nor ?_
    | with_reducible refine thenQ.ex ?_
    | with_reducible refine thenQ.ret ?_
    | with_reducible refine blockQ.nor ?_
    | with_reducible refine blockQ.ret ?_
    | with_reducible refine blockQ.hit rfl ?_
    | with_reducible refine blockQ.out rfl ?_
    | with_reducible refine WP.block ?_
    | with_reducible refine WP.skip ?_
    | with_reducible refine WP.exit ?_
    | with_reducible refine WP.ret ?_
    | refine WP.condT rfl ?_
    | refine WP.condF rfl ?_
    | refine WP.condBit rfl ?_ ?_
    | (refine WP.cond rfl ?_ ?_ <;> intro hcond)
    | (apply Ops.gst; (· rfl); (· rfl); (· rfl); (· rfl); (· rfl); (· rfl); (· rfl); (· first | exact .b | exact .w); (· intro hc; repeat' (first | exact trivial | exact fun _ => hc | exact fun _ => hc.1 | exact fun _ => ⟨hc.1.1, hc.1.2⟩ | refine And.intro ?_ ?_)); (· intro hc; first | exact .eff (.mvG rfl) | exact .eff (.asg rfl) | exact .eff (.loadO rfl rfl rfl) | exact .eff (.loadF rfl rfl) | exact .eff (.fldO rfl rfl rfl) | exact .eff (.fldF rfl rfl rfl) | (refine .eff (.add64 rfl rfl ?_ ?_) <;> omega) | (refine .eff (.sub64 rfl rfl ?_ ?_) <;> omega) | exact .eff (.lenF rfl rfl) | exact .eff (.lenO rfl rfl rfl) | exact .eff (.lenN rfl rfl) | exact .eff (.lenS rfl rfl) | exact .eff (.isNilF rfl (by omega) rfl (flatMap_len (fun _ => rfl) _)) | exact .eff (.isNilO rfl rfl (by omega) rfl) | exact .eff (.isNilZ rfl rfl rfl) | exact .eff (.lenB rfl rfl) | exact .eff (.idxB rfl rfl rfl (by omega) (by omega)) | exact .eff (.oLH rfl rfl rfl rfl rfl (by omega) (by omega)) | exact .eff (.oL rfl rfl rfl rfl (by omega)) | exact .eff (.oH rfl rfl rfl rfl (by omega)) | exact .eff (.bLH rfl rfl rfl rfl rfl (by omega) (by omega)) | exact .eff (.or rfl rfl rfl) | exact .eff (.and rfl rfl rfl) | exact .eff (.not rfl) | exact .eff (.extract rfl rfl) | (refine .eff (.mul64 rfl rfl ?_ ?_) <;> omega) | exact .eff (.bin rfl rfl rfl) | (refine .eff (.quo64 rfl rfl ?_ ?_ ?_) <;> omega) | (refine .eff (.rem64 rfl rfl ?_ ?_) <;> omega) | exact .eff (.idxPO rfl rfl rfl (by omega) (by omega)) | exact .eff (.idxPF rfl rfl rfl (by omega) (by omega)) | exact .eff (.idxO rfl rfl rfl rfl (by omega) (by omega)) | exact .eff (.buildS rfl rfl rfl rfl) | exact .eff (.eqA rfl rfl rfl rfl rfl) | exact .eff (.neA rfl rfl rfl rfl rfl) | exact .eff (.quo rfl rfl (by decide)) | exact .eff (.rem rfl rfl (by decide)) | exact .eff (.shr rfl rfl (by decide) (by decide)) | exact .eff (.shl rfl rfl (by decide) (by decide)) | exact .eff (.conv rfl rfl rfl) | exact .eff (.strEq rfl rfl) | exact .eff (.strNe rfl rfl) | exact .eff (.mkFn) | exact .eff (.nilO rfl) | exact .eff (.nilF rfl) | exact .eff (.neg rfl) | exact .eff (.max rfl rfl) | exact .eff (.min rfl rfl) | exact .callG rfl rfl rfl (by first | exact in_T _ _ _) rfl | (apply LEff.callBG; (· rfl); (· rfl); (· exact in_T _ _ _); (· skip; repeat' (first | exact .nil | refine .cons ?_ ?_ | exact .le (.refl _) | exact .row rfl | exact .box rfl | exact .cut rfl (by omega) | exact .le .nil | refine .agg ?_ | refine .fn ?_ | fail)); (· rfl))); (· rfl); (· rfl))
    | (apply Ops.new; (· rfl); (· rfl); (· rfl); (· first | exact .eff (.box rfl) | exact .eff (.alloc rfl) | exact .eff (.bsliceS rfl rfl rfl rfl rfl) | exact .eff (.mkS rfl rfl rfl rfl (by omega) (by omega)) | exact .eff (.zeroS rfl rfl (by intro l hl; first | cases hl | exact ⟨_, by injection hl with hl; subst hl; rfl⟩) rfl rfl rfl)); (· first | rfl | (simp only [freshB, noRefH, OB.cells, refsL_fv, refsL_app]; rfl)))
    | (apply Ops.app; (· rfl); (· rfl); (· rfl); (· rfl); (· rfl); (· rfl); (· rfl); (· exact (by first | exact .nil | exact .own rfl (rmv_q (by first | exact (rfl : _ = []) | exact (rfl : _ = [_]) | exact (rfl : _ = [_, _]) | exact (rfl : _ = [_, _, _]) | exact (rfl : _ = [_, _, _, _]) | exact (rfl : _ = [_, _, _, _, _]) | exact (rfl : _ = [_, _, _, _, _, _]) | exact (rfl : _ = [_, _, _, _, _, _, _]) | exact (rfl : _ = [_, _, _, _, _, _, _, _]) | exact (rfl : _ = [_, _, _, _, _, _, _, _, _]) | exact (rfl : _ = [_, _, _, _, _, _, _, _, _, _]) | exact (rfl : _ = [_, _, _, _, _, _, _, _, _, _, _]) | exact (rfl : _ = [_, _, _, _, _, _, _, _, _, _, _, _]))))); (· exact (by first | exact .nil | exact .own rfl (by first | rfl | exact onesB_map _) | exact .fz (by first | rfl | (simp; done) | exact (flatMap_len (s := 1) (fun _ => rfl) _).trans (by omega)))); (· rfl); (· show (_ : Nat) ≤ 140737488355328; omega); (· first | rfl | (simp only [freshB, noRefH, OB.cells, refsL_fv, refsL_app]; rfl)))
    | (apply Ops.appS; (· rfl); (· rfl); (· rfl); (· rfl); (· rfl); (· rfl); (· rfl); (· rfl); (· rfl); (· exact (by first | exact .nil | exact .own rfl (rmv_q (by first | exact (rfl : _ = []) | exact (rfl : _ = [_]) | exact (rfl : _ = [_, _]) | exact (rfl : _ = [_, _, _]) | exact (rfl : _ = [_, _, _, _]) | exact (rfl : _ = [_, _, _, _, _]) | exact (rfl : _ = [_, _, _, _, _, _]) | exact (rfl : _ = [_, _, _, _, _, _, _]) | exact (rfl : _ = [_, _, _, _, _, _, _, _]) | exact (rfl : _ = [_, _, _, _, _, _, _, _, _]) | exact (rfl : _ = [_, _, _, _, _, _, _, _, _, _]) | exact (rfl : _ = [_, _, _, _, _, _, _, _, _, _, _]) | exact (rfl : _ = [_, _, _, _, _, _, _, _, _, _, _, _]))))); (· show (_ : Nat) ≤ 140737488355328; omega); (· first | rfl | (simp only [freshB, noRefH, OB.cells, refsL_fv, refsL_app]; rfl)))
    | (apply Ops.stoW; (· rfl); (· rfl); (· rfl); (· rfl); (· rfl); (· rfl); (· first | rfl | exact onesB_map _); (· rfl); (· exact rfl); (· exact (by repeat' (first | exact .here | apply Repl.there rfl))))
    | (apply Ops.stoB; (· rfl); (· rfl); (· rfl); (· rfl); (· rfl); (· rfl); (· first | rfl | exact onesB_map _); (· rfl); (· exact rfl); (· exact (by repeat' (first | exact .here | apply Repl.there rfl))))
    | (apply Ops.stoR; (· rfl); (· rfl); (· rfl); (· rfl); (· rfl); (· rfl); (· first | rfl | exact onesB_map _); (· rfl); (· exact rfl); (· exact (by repeat' (first | exact .here | apply Repl.there rfl))))
    | (apply Ops.gand; (· rfl); (· rfl); (· rfl); (· rfl); (· rfl); (· rfl); (· rfl); (· exact (by first | exact .b | exact .w)); (· rfl); (· rfl); (· rfl); (· simp); (· intro hc; first | exact hc | exact hc.1); (· intro hc; exact ⟨fun h => h.2, fun h => ⟨hc, h⟩⟩))
    | (apply Ops.gor; (· rfl); (· rfl); (· rfl); (· rfl); (· rfl); (· rfl); (· rfl); (· exact (by first | exact .b | exact .w)); (· rfl); (· rfl); (· rfl); (· simp); (· intro hc; first | exact hc | exact hc.1); (· intro hc; exact ⟨fun h => h.2, fun h => ⟨hc, h⟩⟩))
    | apply WP.drwL tbl_ok mixed_no rfl
    | ((with_reducible apply drwK.mk); (· kernel_rfl); (· first | rfl | (simp only [freeF, List.all_cons, List.all_nil, noRefH, OB.cells, refsL_fv, refsL_app]; rfl)))
    | fail)
  all_goals (try exact ([] : List Fp))
  · refine .f1 (.inl rfl) rfl ?_
    rw [hb, if_pos hcond]
  rw [if_neg (by rw [hcond]; simp)] at hb
  clear hcond
  refine WP.loop (ι := Nat) (fun k => ⟨[(1, .optr 1 0), (3, .osl 900), (4, .fv (.int .i64 k))], [(1, .box 40 ((encFr f).map .fv)), (900, .row 3 1 5 [.fv (.int .i64 f.dst), .fv (.int .i64 f.src), .fv (.int .i64 f.ipSrc), .fv (.int .i64 f.ipDst), .fv (.int .i64 f.port)])]⟩) (fun k => k ≤ 5 ∧ w5 f 0 = w5 f k) (fun k => 5 - k) 0 ⟨by omega, rfl⟩ ?_ ?_
  · skip
    refine St.to [(900, .id 19)] [] rfl rfl ?_ ?_ <;> (repeat' (first | exact trivial | with_reducible rfl | exact .any | exact .ptr rfl | exact .sl rfl | exact .ptr0 rfl | exact .sl0 rfl | exact AV.To.nil rfl | exact .frz rfl rfl rfl | refine AV.To.agg ?_ | exact .le (.refl _) rfl | exact .le AV.Le.nil rfl | refine .le (.of_eq ?_) rfl | exact AV.ToL.nil | refine AV.ToL.cons ?_ ?_ | refine .ofEq ?_ | exact OB.To.nil rfl | refine OB.To.row rfl rfl ?_ ?_ | refine OB.To.box rfl rfl ?_ | refine ⟨⟨_, rfl, ?_⟩, ?_⟩ | refine ⟨?_, ?_⟩ | fail))
  rintro k ⟨hk, hd⟩
  try dsimp only
  by_cases hlt : k < 5
  case neg =>
    have hek : k = 5 := by omega
    subst hek
    have hw : w5 f 0 = true := hd
    rw [hw, if_neg (by simp)] at hb
    repeat' (first
      | (apply Ops.loc; (· rfl); (· rfl); (· rfl); (· first | exact .eff (.mv rfl) | exact .eff (.asg rfl) | exact .eff (.loadO rfl rfl rfl) | exact .eff (.loadF rfl rfl) | exact .eff (.fldO rfl rfl rfl) | exact .eff (.fldF rfl rfl rfl) | (refine .eff (.add64 rfl rfl ?_ ?_) <;> omega) | (refine .eff (.sub64 rfl rfl ?_ ?_) <;> omega) | exact .eff (.lenF rfl rfl) | exact .eff (.lenO rfl rfl rfl) | exact .eff (.lenN rfl rfl) | exact .eff (.lenS rfl rfl) | exact .eff (.isNilF rfl (by omega) rfl (flatMap_len (fun _ => rfl) _)) | exact .eff (.isNilO rfl rfl (by omega) rfl) | exact .eff (.isNilZ rfl rfl rfl) | exact .eff (.lenB rfl rfl) | exact .eff (.idxB rfl rfl rfl (by omega) (by omega)) | exact .eff (.oLH rfl rfl rfl rfl rfl (by omega) (by omega)) | exact .eff (.oL rfl rfl rfl rfl (by omega)) | exact .eff (.oH rfl rfl rfl rfl (by omega)) | exact .eff (.bLH rfl rfl rfl rfl rfl (by omega) (by omega)) | exact .eff (.or rfl rfl rfl) | exact .eff (.and rfl rfl rfl) | exact .eff (.not rfl) | exact .eff (.extract rfl rfl) | (refine .eff (.mul64 rfl rfl ?_ ?_) <;> omega) | exact .eff (.bin rfl rfl rfl) | (refine .eff (.quo64 rfl rfl ?_ ?_ ?_) <;> omega) | (refine .eff (.rem64 rfl rfl ?_ ?_) <;> omega) | exact .eff (.idxPO rfl rfl rfl (by omega) (by omega)) | exact .eff (.idxPF rfl rfl rfl (by omega) (by omega)) | exact .eff (.idxO rfl rfl rfl rfl (by omega) (by omega)) | exact .eff (.buildS rfl rfl rfl rfl) | exact .eff (.eqA rfl rfl rfl rfl rfl) | exact .eff (.neA rfl rfl rfl rfl rfl) | exact .eff (.quo rfl rfl (by decide)) | exact .eff (.rem rfl rfl (by decide)) | exact .eff (.shr rfl rfl (by decide) (by decide)) | exact .eff (.shl rfl rfl (by decide) (by decide)) | exact .eff (.conv rfl rfl rfl) | exact .eff (.strEq rfl rfl) | exact .eff (.strNe rfl rfl) | exact .eff (.mkFn) | exact .eff (.nilO rfl) | exact .eff (.nilF rfl) | exact .eff (.neg rfl) | exact .eff (.max rfl rfl) | exact .eff (.min rfl rfl) | exact .callL rfl rfl rfl (by first | exact in_T _ _ _) rfl | (apply LEff.callBL; (· rfl); (· rfl); (· exact in_T _ _ _); (· skip; repeat' (first | exact .nil | refine .cons ?_ ?_ | exact .le (.refl _) | exact .row rfl | exact .box rfl | exact .cut rfl (by omega) | exact .le .nil | refine .agg ?_ | refine .fn ?_ | fail)); (· rfl))))
      | with_reducible refine WP.seq ?_
      | with_reducible apply WP.reg tbl_ok rfl
      | with_reducible refine Ops.nil ?_
      | with_reducible refine thenQ.nor ?_
      | with_reducible refine thenQ.ex ?_
      | with_reducible refine thenQ.ret ?_
      | with_reducible refine blockQ.nor ?_
      | with_reducible refine blockQ.ret ?_
      | with_reducible refine blockQ.hit rfl ?_
      | with_reducible refine blockQ.out rfl ?_
      | with_reducible refine WP.block ?_
      | with_reducible refine WP.skip ?_
      | with_reducible refine WP.exit ?_
      | with_reducible refine WP.ret ?_
      | refine WP.condT rfl ?_
      | refine WP.condF rfl ?_
      | refine WP.condBit rfl ?_ ?_
      | (refine WP.cond rfl ?_ ?_ <;> intro hcond)
      | (apply Ops.gst; (· rfl); (· rfl); (· rfl); (· rfl); (· rfl); (· rfl); (· rfl); (· first | exact .b | exact .w); (· intro hc; repeat' (first | exact trivial | exact fun _ => hc | exact fun _ => hc.1 | exact fun _ => ⟨hc.1.1, hc.1.2⟩ | refine And.intro ?_ ?_)); (· intro hc; first | exact .eff (.mvG rfl) | exact .eff (.asg rfl) | exact .eff (.loadO rfl rfl rfl) | exact .eff (.loadF rfl rfl) | exact .eff (.fldO rfl rfl rfl) | exact .eff (.fldF rfl rfl rfl) | (refine .eff (.add64 rfl rfl ?_ ?_) <;> omega) | (refine .eff (.sub64 rfl rfl ?_ ?_) <;> omega) | exact .eff (.lenF rfl rfl) | exact .eff (.lenO rfl rfl rfl) | exact .eff (.lenN rfl rfl) | exact .eff (.lenS rfl rfl) | exact .eff (.isNilF rfl (by omega) rfl (flatMap_len (fun _ => rfl) _)) | exact .eff (.isNilO rfl rfl (by omega) rfl) | exact .eff (.isNilZ rfl rfl rfl) | exact .eff (.lenB rfl rfl) | exact .eff (.idxB rfl rfl rfl (by omega) (by omega)) | exact .eff (.oLH rfl rfl rfl rfl rfl (by omega) (by omega)) | exact .eff (.oL rfl rfl rfl rfl (by omega)) | exact .eff (.oH rfl rfl rfl rfl (by omega)) | exact .eff (.bLH rfl rfl rfl rfl rfl (by omega) (by omega)) | exact .eff (.or rfl rfl rfl) | exact .eff (.and rfl rfl rfl) | exact .eff (.not rfl) | exact .eff (.extract rfl rfl) | (refine .eff (.mul64 rfl rfl ?_ ?_) <;> omega) | exact .eff (.bin rfl rfl rfl) | (refine .eff (.quo64 rfl rfl ?_ ?_ ?_) <;> omega) | (refine .eff (.rem64 rfl rfl ?_ ?_) <;> omega) | exact .eff (.idxPO rfl rfl rfl (by omega) (by omega)) | exact .eff (.idxPF rfl rfl rfl (by omega) (by omega)) | exact .eff (.idxO rfl rfl rfl rfl (by omega) (by omega)) | exact .eff (.buildS rfl rfl rfl rfl) | exact .eff (.eqA rfl rfl rfl rfl rfl) | exact .eff (.neA rfl rfl rfl rfl rfl) | exact .eff (.quo rfl rfl (by decide)) | exact .eff (.rem rfl rfl (by decide)) | exact .eff (.shr rfl rfl (by decide) (by decide)) | exact .eff (.shl rfl rfl (by decide) (by decide)) | exact .eff (.conv rfl rfl rfl) | exact .eff (.strEq rfl rfl) | exact .eff (.strNe rfl rfl) | exact .eff (.mkFn) | exact .eff (.nilO rfl) | exact .eff (.nilF rfl) | exact .eff (.neg rfl) | exact .eff (.max rfl rfl) | exact .eff (.min rfl rfl) | exact .callG rfl rfl rfl (by first | exact in_T _ _ _) rfl | (apply LEff.callBG; (· rfl); (· rfl); (· exact in_T _ _ _); (· skip; repeat' (first | exact .nil | refine .cons ?_ ?_ | exact .le (.refl _) | exact .row rfl | exact .box rfl | exact .cut rfl (by omega) | exact .le .nil | refine .agg ?_ | refine .fn ?_ | fail)); (· rfl))); (· rfl); (· rfl))
      | (apply Ops.new; (· rfl); (· rfl); (· rfl); (· first | exact .eff (.box rfl) | exact .eff (.alloc rfl) | exact .eff (.bsliceS rfl rfl rfl rfl rfl) | exact .eff (.mkS rfl rfl rfl rfl (by omega) (by omega)) | exact .eff (.zeroS rfl rfl (by intro l hl; first | cases hl | exact ⟨_, by injection hl with hl; subst hl; rfl⟩) rfl rfl rfl)); (· first | rfl | (simp only [freshB, noRefH, OB.cells, refsL_fv, refsL_app]; rfl)))
      | (apply Ops.app; (· rfl); (· rfl); (· rfl); (· rfl); (· rfl); (· rfl); (· rfl); (· exact (by first | exact .nil | exact .own rfl (rmv_q (by first | exact (rfl : _ = []) | exact (rfl : _ = [_]) | exact (rfl : _ = [_, _]) | exact (rfl : _ = [_, _, _]) | exact (rfl : _ = [_, _, _, _]) | exact (rfl : _ = [_, _, _, _, _]) | exact (rfl : _ = [_, _, _, _, _, _]) | exact (rfl : _ = [_, _, _, _, _, _, _]) | exact (rfl : _ = [_, _, _, _, _, _, _, _]) | exact (rfl : _ = [_, _, _, _, _, _, _, _, _]) | exact (rfl : _ = [_, _, _, _, _, _, _, _, _, _]) | exact (rfl : _ = [_, _, _, _, _, _, _, _, _, _, _]) | exact (rfl : _ = [_, _, _, _, _, _, _, _, _, _, _, _]))))); (· exact (by first | exact .nil | exact .own rfl (by first | rfl | exact onesB_map _) | exact .fz (by first | rfl | (simp; done) | exact (flatMap_len (s := 1) (fun _ => rfl) _).trans (by omega)))); (· rfl); (· show (_ : Nat) ≤ 140737488355328; omega); (· first | rfl | (simp only [freshB, noRefH, OB.cells, refsL_fv, refsL_app]; rfl)))
      | (apply Ops.appS; (· rfl); (· rfl); (· rfl); (· rfl); (· rfl); (· rfl); (· rfl); (· rfl); (· rfl); (· exact (by first | exact .nil | exact .own rfl (rmv_q (by first | exact (rfl : _ = []) | exact (rfl : _ = [_]) | exact (rfl : _ = [_, _]) | exact (rfl : _ = [_, _, _]) | exact (rfl : _ = [_, _, _, _]) | exact (rfl : _ = [_, _, _, _, _]) | exact (rfl : _ = [_, _, _, _, _, _]) | exact (rfl : _ = [_, _, _, _, _, _, _]) | exact (rfl : _ = [_, _, _, _, _, _, _, _]) | exact (rfl : _ = [_, _, _, _, _, _, _, _, _]) | exact (rfl : _ = [_, _, _, _, _, _, _, _, _, _]) | exact (rfl : _ = [_, _, _, _, _, _, _, _, _, _, _]) | exact (rfl : _ = [_, _, _, _, _, _, _, _, _, _, _, _]))))); (· show (_ : Nat) ≤ 140737488355328; omega); (· first | rfl | (simp only [freshB, noRefH, OB.cells, refsL_fv, refsL_app]; rfl)))
      | (apply Ops.stoW; (· rfl); (· rfl); (· rfl); (· rfl); (· rfl); (· rfl); (· first | rfl | exact onesB_map _); (· rfl); (· exact rfl); (· exact (by repeat' (first | exact .here | apply Repl.there rfl))))
      | (apply Ops.stoB; (· rfl); (· rfl); (· rfl); (· rfl); (· rfl); (· rfl); (· first | rfl | exact onesB_map _); (· rfl); (· exact rfl); (· exact (by repeat' (first | exact .here | apply Repl.there rfl))))
      | (apply Ops.stoR; (· rfl); (· rfl); (· rfl); (· rfl); (· rfl); (· rfl); (· first | rfl | exact onesB_map _); (· rfl); (· exact rfl); (· exact (by repeat' (first | exact .here | apply Repl.there rfl))))
      | (apply Ops.gand; (· rfl); (· rfl); (· rfl); (· rfl); (· rfl); (· rfl); (· rfl); (· exact (by first | exact .b | exact .w)); (· rfl); (· rfl); (· rfl); (· simp); (· intro hc; first | exact hc | exact hc.1); (· intro hc; exact ⟨fun h => h.2, fun h => ⟨hc, h⟩⟩))
      | (apply Ops.gor; (· rfl); (· rfl); (· rfl); (· rfl); (· rfl); (· rfl); (· rfl); (· exact (by first | exact .b | exact .w)); (· rfl); (· rfl); (· rfl); (· simp); (· intro hc; first | exact hc | exact hc.1); (· intro hc; exact ⟨fun h => h.2, fun h => ⟨hc, h⟩⟩))
      | apply WP.drwL tbl_ok mixed_no rfl
      | ((with_reducible apply drwK.mk); (· kernel_rfl); (· first | rfl | (simp only [freeF, List.all_cons, List.all_nil, noRefH, OB.cells, refsL_fv, refsL_app]; rfl)))
      | fail)
    all_goals (try exact ([] : List Fp))
    all_goals
      refine .f1 (.inl rfl) rfl ?_
      rw [hb]
      simp only [*]
      rfl
  case pos =>
    have hat := w5_at (f := f) hlt
    repeat' (first
      | (apply Ops.loc; (· rfl); (· rfl); (· rfl); (· first | (exact .eff (.loadO rfl rfl (read5 hlt))) | exact .eff (.mv rfl) | exact .eff (.asg rfl) | exact .eff (.loadO rfl rfl rfl) | exact .eff (.loadF rfl rfl) | exact .eff (.fldO rfl rfl rfl) | exact .eff (.fldF rfl rfl rfl) | (refine .eff (.add64 rfl rfl ?_ ?_) <;> omega) | (refine .eff (.sub64 rfl rfl ?_ ?_) <;> omega) | exact .eff (.lenF rfl rfl) | exact .eff (.lenO rfl rfl rfl) | exact .eff (.lenN rfl rfl) | exact .eff (.lenS rfl rfl) | exact .eff (.isNilF rfl (by omega) rfl (flatMap_len (fun _ => rfl) _)) | exact .eff (.isNilO rfl rfl (by omega) rfl) | exact .eff (.isNilZ rfl rfl rfl) | exact .eff (.lenB rfl rfl) | exact .eff (.idxB rfl rfl rfl (by omega) (by omega)) | exact .eff (.oLH rfl rfl rfl rfl rfl (by omega) (by omega)) | exact .eff (.oL rfl rfl rfl rfl (by omega)) | exact .eff (.oH rfl rfl rfl rfl (by omega)) | exact .eff (.bLH rfl rfl rfl rfl rfl (by omega) (by omega)) | exact .eff (.or rfl rfl rfl) | exact .eff (.and rfl rfl rfl) | exact .eff (.not rfl) | exact .eff (.extract rfl rfl) | (refine .eff (.mul64 rfl rfl ?_ ?_) <;> omega) | exact .eff (.bin rfl rfl rfl) | (refine .eff (.quo64 rfl rfl ?_ ?_ ?_) <;> omega) | (refine .eff (.rem64 rfl rfl ?_ ?_) <;> omega) | exact .eff (.idxPO rfl rfl rfl (by omega) (by omega)) | exact .eff (.idxPF rfl rfl rfl (by omega) (by omega)) | exact .eff (.idxO rfl rfl rfl rfl (by omega) (by omega)) | exact .eff (.buildS rfl rfl rfl rfl) | exact .eff (.eqA rfl rfl rfl rfl rfl) | exact .eff (.neA rfl rfl rfl rfl rfl) | exact .eff (.quo rfl rfl (by decide)) | exact .eff (.rem rfl rfl (by decide)) | exact .eff (.shr rfl rfl (by decide) (by decide)) | exact .eff (.shl rfl rfl (by decide) (by decide)) | exact .eff (.conv rfl rfl rfl) | exact .eff (.strEq rfl rfl) | exact .eff (.strNe rfl rfl) | exact .eff (.mkFn) | exact .eff (.nilO rfl) | exact .eff (.nilF rfl) | exact .eff (.neg rfl) | exact .eff (.max rfl rfl) | exact .eff (.min rfl rfl) | exact .callL rfl rfl rfl (by first | exact in_T _ _ _) rfl | (apply LEff.callBL; (· rfl); (· rfl); (· exact in_T _ _ _); (· skip; repeat' (first | exact .nil | refine .cons ?_ ?_ | exact .le (.refl _) | exact .row rfl | exact .box rfl | exact .cut rfl (by omega) | exact .le .nil | refine .agg ?_ | refine .fn ?_ | fail)); (· rfl))))
      | with_reducible refine WP.seq ?_
      | with_reducible apply WP.reg tbl_ok rfl
      | with_reducible refine Ops.nil ?_
      | with_reducible refine thenQ.nor ?_
      | with_reducible refine thenQ.ex ?_
      | with_reducible refine thenQ.ret ?_
      | with_reducible refine blockQ.nor ?_
      | with_reducible refine blockQ.ret ?_
      | with_reducible refine blockQ.hit rfl ?_
      | with_reducible refine blockQ.out rfl ?_
      | with_reducible refine WP.block ?_
      | with_reducible refine WP.skip ?_
      | with_reducible refine WP.exit ?_
      | with_reducible refine WP.ret ?_
      | refine WP.condT rfl ?_
      | refine WP.condF rfl ?_
      | refine WP.condT (c := _) (condD rfl (by first | exact decide_eq_true (by omega) | exact bne_iff_ne.2 (by omega) | exact beq_iff_eq.2 (by omega))) ?_
      | refine WP.condF (c := _) (condD rfl (by first | exact decide_eq_false (by omega) | exact bne_eq_false_iff_eq.2 (by omega) | exact beq_eq_false_iff_ne.2 (by omega))) ?_
      | refine WP.condBit rfl ?_ ?_
      | (refine WP.cond rfl ?_ ?_ <;> intro hcond)
      | (apply Ops.gst; (· rfl); (· rfl); (· rfl); (· rfl); (· rfl); (· rfl); (· rfl); (· first | exact .b | exact .w); (· intro hc; repeat' (first | exact trivial | exact fun _ => hc | exact fun _ => hc.1 | exact fun _ => ⟨hc.1.1, hc.1.2⟩ | refine And.intro ?_ ?_)); (· intro hc; first | (exact .eff (.loadO rfl rfl (read5 hlt))) | exact .eff (.mvG rfl) | exact .eff (.asg rfl) | exact .eff (.loadO rfl rfl rfl) | exact .eff (.loadF rfl rfl) | exact .eff (.fldO rfl rfl rfl) | exact .eff (.fldF rfl rfl rfl) | (refine .eff (.add64 rfl rfl ?_ ?_) <;> omega) | (refine .eff (.sub64 rfl rfl ?_ ?_) <;> omega) | exact .eff (.lenF rfl rfl) | exact .eff (.lenO rfl rfl rfl) | exact .eff (.lenN rfl rfl) | exact .eff (.lenS rfl rfl) | exact .eff (.isNilF rfl (by omega) rfl (flatMap_len (fun _ => rfl) _)) | exact .eff (.isNilO rfl rfl (by omega) rfl) | exact .eff (.isNilZ rfl rfl rfl) | exact .eff (.lenB rfl rfl) | exact .eff (.idxB rfl rfl rfl (by omega) (by omega)) | exact .eff (.oLH rfl rfl rfl rfl rfl (by omega) (by omega)) | exact .eff (.oL rfl rfl rfl rfl (by omega)) | exact .eff (.oH rfl rfl rfl rfl (by omega)) | exact .eff (.bLH rfl rfl rfl rfl rfl (by omega) (by omega)) | exact .eff (.or rfl rfl rfl) | exact .eff (.and rfl rfl rfl) | exact .eff (.not rfl) | exact .eff (.extract rfl rfl) | (refine .eff (.mul64 rfl rfl ?_ ?_) <;> omega) | exact .eff (.bin rfl rfl rfl) | (refine .eff (.quo64 rfl rfl ?_ ?_ ?_) <;> omega) | (refine .eff (.rem64 rfl rfl ?_ ?_) <;> omega) | exact .eff (.idxPO rfl rfl rfl (by omega) (by omega)) | exact .eff (.idxPF rfl rfl rfl (by omega) (by omega)) | exact .eff (.idxO rfl rfl rfl rfl (by omega) (by omega)) | exact .eff (.buildS rfl rfl rfl rfl) | exact .eff (.eqA rfl rfl rfl rfl rfl) | exact .eff (.neA rfl rfl rfl rfl rfl) | exact .eff (.quo rfl rfl (by decide)) | exact .eff (.rem rfl rfl (by decide)) | exact .eff (.shr rfl rfl (by decide) (by decide)) | exact .eff (.shl rfl rfl (by decide) (by decide)) | exact .eff (.conv rfl rfl rfl) | exact .eff (.strEq rfl rfl) | exact .eff (.strNe rfl rfl) | exact .eff (.mkFn) | exact .eff (.nilO rfl) | exact .eff (.nilF rfl) | exact .eff (.neg rfl) | exact .eff (.max rfl rfl) | exact .eff (.min rfl rfl) | exact .callG rfl rfl rfl (by first | exact in_T _ _ _) rfl | (apply LEff.callBG; (· rfl); (· rfl); (· exact in_T _ _ _); (· skip; repeat' (first | exact .nil | refine .cons ?_ ?_ | exact .le (.refl _) | exact .row rfl | exact .box rfl | exact .cut rfl (by omega) | exact .le .nil | refine .agg ?_ | refine .fn ?_ | fail)); (· rfl))); (· rfl); (· rfl))
      | (apply Ops.new; (· rfl); (· rfl); (· rfl); (· first | exact .eff (.box rfl) | exact .eff (.alloc rfl) | exact .eff (.bsliceS rfl rfl rfl rfl rfl) | exact .eff (.mkS rfl rfl rfl rfl (by omega) (by omega)) | exact .eff (.zeroS rfl rfl (by intro l hl; first | cases hl | exact ⟨_, by injection hl with hl; subst hl; rfl⟩) rfl rfl rfl)); (· first | rfl | (simp only [freshB, noRefH, OB.cells, refsL_fv, refsL_app]; rfl)))
      | (apply Ops.app; (· rfl); (· rfl); (· rfl); (· rfl); (· rfl); (· rfl); (· rfl); (· exact (by first | exact .nil | exact .own rfl (rmv_q (by first | exact (rfl : _ = []) | exact (rfl : _ = [_]) | exact (rfl : _ = [_, _]) | exact (rfl : _ = [_, _, _]) | exact (rfl : _ = [_, _, _, _]) | exact (rfl : _ = [_, _, _, _, _]) | exact (rfl : _ = [_, _, _, _, _, _]) | exact (rfl : _ = [_, _, _, _, _, _, _]) | exact (rfl : _ = [_, _, _, _, _, _, _, _]) | exact (rfl : _ = [_, _, _, _, _, _, _, _, _]) | exact (rfl : _ = [_, _, _, _, _, _, _, _, _, _]) | exact (rfl : _ = [_, _, _, _, _, _, _, _, _, _, _]) | exact (rfl : _ = [_, _, _, _, _, _, _, _, _, _, _, _]))))); (· exact (by first | exact .nil | exact .own rfl (by first | rfl | exact onesB_map _) | exact .fz (by first | rfl | (simp; done) | exact (flatMap_len (s := 1) (fun _ => rfl) _).trans (by omega)))); (· rfl); (· show (_ : Nat) ≤ 140737488355328; omega); (· first | rfl | (simp only [freshB, noRefH, OB.cells, refsL_fv, refsL_app]; rfl)))
      | (apply Ops.appS; (· rfl); (· rfl); (· rfl); (· rfl); (· rfl); (· rfl); (· rfl); (· rfl); (· rfl); (· exact (by first | exact .nil | exact .own rfl (rmv_q (by first | exact (rfl : _ = []) | exact (rfl : _ = [_]) | exact (rfl : _ = [_, _]) | exact (rfl : _ = [_, _, _]) | exact (rfl : _ = [_, _, _, _]) | exact (rfl : _ = [_, _, _, _, _]) | exact (rfl : _ = [_, _, _, _, _, _]) | exact (rfl : _ = [_, _, _, _, _, _, _]) | exact (rfl : _ = [_, _, _, _, _, _, _, _]) | exact (rfl : _ = [_, _, _, _, _, _, _, _, _]) | exact (rfl : _ = [_, _, _, _, _, _, _, _, _, _]) | exact (rfl : _ = [_, _, _, _, _, _, _, _, _, _, _]) | exact (rfl : _ = [_, _, _, _, _, _, _, _, _, _, _, _]))))); (· show (_ : Nat) ≤ 140737488355328; omega); (· first | rfl | (simp only [freshB, noRefH, OB.cells, refsL_fv, refsL_app]; rfl)))
      | (apply Ops.stoW; (· rfl); (· rfl); (· rfl); (· rfl); (· rfl); (· rfl); (· first | rfl | exact onesB_map _); (· rfl); (· exact rfl); (· exact (by repeat' (first | exact .here | apply Repl.there rfl))))
      | (apply Ops.stoB; (· rfl); (· rfl); (· rfl); (· rfl); (· rfl); (· rfl); (· first | rfl | exact onesB_map _); (· rfl); (· exact rfl); (· exact (by repeat' (first | exact .here | apply Repl.there rfl))))
      | (apply Ops.stoR; (· rfl); (· rfl); (· rfl); (· rfl); (· rfl); (· rfl); (· first | rfl | exact onesB_map _); (· rfl); (· exact rfl); (· exact (by repeat' (first | exact .here | apply Repl.there rfl))))
      | (apply Ops.gand; (· rfl); (· rfl); (· rfl); (· rfl); (· rfl); (· rfl); (· rfl); (· exact (by first | exact .b | exact .w)); (· rfl); (· rfl); (· rfl); (· simp); (· intro hc; first | exact hc | exact hc.1); (· intro hc; exact ⟨fun h => h.2, fun h => ⟨hc, h⟩⟩))
      | (apply Ops.gor; (· rfl); (· rfl); (· rfl); (· rfl); (· rfl); (· rfl); (· rfl); (· exact (by first | exact .b | exact .w)); (· rfl); (· rfl); (· rfl); (· simp); (· intro hc; first | exact hc | exact hc.1); (· intro hc; exact ⟨fun h => h.2, fun h => ⟨hc, h⟩⟩))
      | apply WP.drwL tbl_ok mixed_no rfl
      | ((with_reducible apply drwK.mk); (· kernel_rfl); (· first | rfl | (simp only [freeF, List.all_cons, List.all_nil, noRefH, OB.cells, refsL_fv, refsL_app]; rfl)))
      | fail)
    all_goals (try exact ([] : List Fp))
    · refine .f1 (.inl rfl) rfl ?_
      have : w5 f 0 = false := by rw [hd, hat]; simp at hcond; rw [show word (l5 f k) = false from hcond]; rfl
      rw [hb, if_pos this]
    · refine ⟨k + 1, ⟨by omega, ?_⟩, by omega, ?_⟩
      · simp at hcond
        rw [hd, hat, show word (l5 f k) = true from hcond]
        rfl
      · skip
        refine St.to [] [] rfl rfl ?_ ?_ <;> (repeat' (first | exact trivial | with_reducible rfl | exact .any | exact .ptr rfl | exact .sl rfl | exact .ptr0 rfl | exact .sl0 rfl | exact AV.To.nil rfl | exact .frz rfl rfl rfl | refine AV.To.agg ?_ | exact .le (.refl _) rfl | exact .le AV.Le.nil rfl | refine .le (.of_eq ?_) rfl | exact AV.ToL.nil | refine AV.ToL.cons ?_ ?_ | refine .ofEq ?_ | exact OB.To.nil rfl | refine OB.To.row rfl rfl ?_ ?_ | refine OB.To.box rfl rfl ?_ | refine ⟨⟨_, rfl, ?_⟩, ?_⟩ | refine ⟨?_, ?_⟩ | fail))
end Go.Proofs.Ytfgiehfiieecoaa
