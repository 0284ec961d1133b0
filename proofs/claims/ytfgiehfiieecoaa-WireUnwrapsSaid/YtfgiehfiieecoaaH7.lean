/- Frames out of tunnels, by the logic of memory. -/
import Derived.Test.YtfgiehfiieecoaaH6
namespace Go.Proofs.Ytfgiehfiieecoaa
open Go.RowKit
set_option maxRecDepth 100000

def unwFault (bs : List UInt8) : Int := if bs.length < 6 then 5 else if ¬ (byteAt bs 0 = 100 ∧ byteAt bs 1 = 121) then 4 else decFault (bs.drop 6)
def unwN (bs : List UInt8) : Nat := if unwFault bs ≠ 0 then 0 else wat bs 2
def unwT (bs : List UInt8) : Nat := if unwFault bs ≠ 0 then 0 else wat bs 4
def unwR (bs : List UInt8) : Fr := if unwFault bs ≠ 0 then fr0 else decR (bs.drop 6)
theorem unw_bad {bs : List UInt8} {e : Int} (h : unwFault bs = e) (he : e ≠ 0) : unwN bs = 0 ∧ unwT bs = 0 ∧ unwR bs = fr0 := ⟨if_pos (by rw [h]; exact he), if_pos (by rw [h]; exact he), if_pos (by rw [h]; exact he)⟩
theorem u8_ne {a : UInt8} {n : Nat} (hn : n < 256) : ((a.toNat : Int) != (n : Int)) = !decide (a = UInt8.ofNat n) := by
  have h : ((a.toNat : Int) = (n : Int)) ↔ a = UInt8.ofNat n := by
    rw [← UInt8.toNat_inj, UInt8.toNat_ofNat']
    omega
  by_cases e : a = UInt8.ofNat n
  · rw [bne_eq_false_iff_eq.2 (h.2 e), decide_eq_true e]
    rfl
  · rw [bne_iff_ne.2 (fun x => e (h.1 x)), decide_eq_false e]
    rfl
theorem tag_bool (bs : List UInt8) : (((byteAt bs 0).toNat : Int) != 100 || ((byteAt bs 1).toNat : Int) != 121) = !decide (byteAt bs 0 = 100 ∧ byteAt bs 1 = 121) := by
  have v0 : (((byteAt bs 0).toNat : Int) != 100) = !decide (byteAt bs 0 = 100) := u8_ne (n := 100) (by omega)
  have v1 : (((byteAt bs 1).toNat : Int) != 121) = !decide (byteAt bs 1 = 121) := u8_ne (n := 121) (by omega)
  rw [v0, v1]
  by_cases h0 : byteAt bs 0 = 100 <;> by_cases h1 : byteAt bs 1 = 121 <;> simp [h0, h1]
theorem tag_str {bs : List UInt8} (h : 6 ≤ bs.length) : (!((⟨(bs.take 2).toArray⟩ : ByteArray).toList == (⟨#[100, 121]⟩ : ByteArray).toList)) = !decide (byteAt bs 0 = 100 ∧ byteAt bs 1 = 121) := by
  rw [ByteArray.toList_eq, ByteArray.toList_eq]
  have e : bs.take 2 = [byteAt bs 0, byteAt bs 1] := by
    match bs, h with
    | a :: b :: l, _ => rfl
  rw [show (⟨(bs.take 2).toArray⟩ : ByteArray).data.toList = bs.take 2 from by simp, e]
  show (!([byteAt bs 0, byteAt bs 1] == [100, 121])) = _
  congr 1
  by_cases h0 : byteAt bs 0 = 100 <;> by_cases h1 : byteAt bs 1 = 121 <;> simp [h0, h1]
set_option maxHeartbeats 4000000 in
theorem unwrap_T (bs : List UInt8) (k : Nat) (hk : k = bs.length) (hl : k ≤ 140737488355328) : Fun Try.prog 49 [.fv (.sl (bs.flatMap encB) k)] (.tup [.fv (.int .i64 (unwN bs : Nat)), .fv (.int .i64 (unwT bs : Nat)), .agg ((encFr (unwR bs)).map .fv), .fv (.int .i64 (unwFault bs))]) := by
  refine Fun.body tbl_ok Try.func49 rfl (by kernel_rfl) rfl rfl rfl ?_
  by_cases h1 : k < 6
  case pos =>
    have hf : unwFault bs = 5 := if_pos (by omega)
    obtain ⟨e1, e2, e3⟩ := unw_bad hf (by decide)
    rw [e1, e2, e3, hf]
    repeat' (first
      | (apply Ops.loc; (· rfl); (· rfl); (· rfl); (· first | exact .eff (.mv rfl) | exact .eff (.asg rfl) | exact .eff (.loadO rfl rfl rfl) | exact .eff (.loadF rfl rfl) | exact .eff (.fldO rfl rfl rfl) | exact .eff (.fldF rfl rfl rfl) | (refine .eff (.add64 rfl rfl ?_ ?_) <;> omega) | (refine .eff (.sub64 rfl rfl ?_ ?_) <;> omega) | exact .eff (.lenF rfl rfl) | exact .eff (.lenO rfl rfl rfl) | exact .eff (.lenN rfl rfl) | exact .eff (.lenS rfl rfl) | exact .eff (.isNilF rfl (by omega) rfl (flatMap_len (fun _ => rfl) _)) | exact .eff (.isNilO rfl rfl (by omega) rfl) | exact .eff (.isNilZ rfl rfl rfl) | exact .eff (.lenB rfl rfl) | exact .eff (.idxB rfl rfl rfl (by omega) (by omega)) | exact .eff (.oLH rfl rfl rfl rfl rfl (by omega) (by omega)) | exact .eff (.oL rfl rfl rfl rfl (by omega)) | exact .eff (.oH rfl rfl rfl rfl (by omega)) | exact .eff (.bLH rfl rfl rfl rfl rfl (by omega) (by omega)) | exact .eff (.or rfl rfl rfl) | exact .eff (.and rfl rfl rfl) | exact .eff (.not rfl) | exact .eff (.extract rfl rfl) | (refine .eff (.mul64 rfl rfl ?_ ?_) <;> omega) | exact .eff (.bin rfl rfl rfl) | (refine .eff (.quo64 rfl rfl ?_ ?_ ?_) <;> omega) | (refine .eff (.rem64 rfl rfl ?_ ?_) <;> omega) | exact .eff (.idxPO rfl rfl rfl (by omega) (by omega)) | exact .eff (.idxPF rfl rfl rfl (by omega) (by omega)) | exact .eff (.idxO rfl rfl rfl rfl (by omega) (by omega)) | exact .eff (.buildS rfl rfl rfl rfl) | exact .eff (.eqA rfl rfl rfl rfl rfl) | exact .eff (.neA rfl rfl rfl rfl rfl) | exact .eff (.quo rfl rfl (by decide)) | exact .eff (.rem rfl rfl (by decide)) | exact .eff (.shr rfl rfl (by decide) (by decide)) | exact .eff (.shl rfl rfl (by decide) (by decide)) | exact .eff (.conv rfl rfl rfl) | exact .eff (.strEq rfl rfl) | exact .eff (.strNe rfl rfl) | exact .eff (.mkFn) | exact .eff (.nilO rfl) | exact .eff (.nilF rfl) | exact .eff (.neg rfl) | exact .eff (.max rfl rfl) | exact .eff (.min rfl rfl)))
      | with_reducible refine WP.seq ?_
      | with_reducible apply WP.reg tbl_ok rfl
      | with_reducible refine Ops.nil ?_
      | with_reducible refine thenQ.nor ?_
      | with_reducible refine thenQ.ex ?_
      | with_reducible refine thenQ.ret ?_
      | with_reducible refine blockQ.nor ?_
      | with_reducible refine blockQ.ret ?_
      | with_reducible refine blockQ.hit rfl ?_
      | with_reducible refine blockQ.out rfl ?_
      | with_reducible refine WP.block ?_
      | with_reducible refine WP.skip ?_
      | with_reducible refine WP.exit ?_
      | with_reducible refine WP.ret ?_
      | refine WP.condT rfl ?_
      | refine WP.condF rfl ?_
      | refine WP.condT (c := _) (condD rfl (by first | exact decide_eq_true (by omega) | exact bne_iff_ne.2 (by omega) | exact beq_iff_eq.2 (by omega))) ?_
      | refine WP.condF (c := _) (condD rfl (by first | exact decide_eq_false (by omega) | exact bne_eq_false_iff_eq.2 (by omega) | exact beq_eq_false_iff_ne.2 (by omega))) ?_
      | refine WP.condBit rfl ?_ ?_
      | (refine WP.cond rfl ?_ ?_ <;> intro hcond)
      | (apply Ops.gst; (· rfl); (· rfl); (· rfl); (· rfl); (· rfl); (· rfl); (· rfl); (· first | exact .b | exact .w); (· intro hc; repeat' (first | exact trivial | exact fun _ => hc | exact fun _ => hc.1 | exact fun _ => ⟨hc.1.1, hc.1.2⟩ | refine And.intro ?_ ?_)); (· intro hc; first | exact .eff (.mvG rfl) | exact .eff (.asg rfl) | exact .eff (.loadO rfl rfl rfl) | exact .eff (.loadF rfl rfl) | exact .eff (.fldO rfl rfl rfl) | exact .eff (.fldF rfl rfl rfl) | (refine .eff (.add64 rfl rfl ?_ ?_) <;> omega) | (refine .eff (.sub64 rfl rfl ?_ ?_) <;> omega) | exact .eff (.lenF rfl rfl) | exact .eff (.lenO rfl rfl rfl) | exact .eff (.lenN rfl rfl) | exact .eff (.lenS rfl rfl) | exact .eff (.isNilF rfl (by omega) rfl (flatMap_len (fun _ => rfl) _)) | exact .eff (.isNilO rfl rfl (by omega) rfl) | exact .eff (.isNilZ rfl rfl rfl) | exact .eff (.lenB rfl rfl) | exact .eff (.idxB rfl rfl rfl (by omega) (by omega)) | exact .eff (.oLH rfl rfl rfl rfl rfl (by omega) (by omega)) | exact .eff (.oL rfl rfl rfl rfl (by omega)) | exact .eff (.oH rfl rfl rfl rfl (by omega)) | exact .eff (.bLH rfl rfl rfl rfl rfl (by omega) (by omega)) | exact .eff (.or rfl rfl rfl) | exact .eff (.and rfl rfl rfl) | exact .eff (.not rfl) | exact .eff (.extract rfl rfl) | (refine .eff (.mul64 rfl rfl ?_ ?_) <;> omega) | exact .eff (.bin rfl rfl rfl) | (refine .eff (.quo64 rfl rfl ?_ ?_ ?_) <;> omega) | (refine .eff (.rem64 rfl rfl ?_ ?_) <;> omega) | exact .eff (.idxPO rfl rfl rfl (by omega) (by omega)) | exact .eff (.idxPF rfl rfl rfl (by omega) (by omega)) | exact .eff (.idxO rfl rfl rfl rfl (by omega) (by omega)) | exact .eff (.buildS rfl rfl rfl rfl) | exact .eff (.eqA rfl rfl rfl rfl rfl) | exact .eff (.neA rfl rfl rfl rfl rfl) | exact .eff (.quo rfl rfl (by decide)) | exact .eff (.rem rfl rfl (by decide)) | exact .eff (.shr rfl rfl (by decide) (by decide)) | exact .eff (.shl rfl rfl (by decide) (by decide)) | exact .eff (.conv rfl rfl rfl) | exact .eff (.strEq rfl rfl) | exact .eff (.strNe rfl rfl) | exact .eff (.mkFn) | exact .eff (.nilO rfl) | exact .eff (.nilF rfl) | exact .eff (.neg rfl) | exact .eff (.max rfl rfl) | exact .eff (.min rfl rfl)); (· rfl); (· rfl))
      | (apply Ops.new; (· rfl); (· rfl); (· rfl); (· first | exact .eff (.box rfl) | exact .eff (.alloc rfl) | exact .eff (.bsliceS rfl rfl rfl rfl rfl) | exact .eff (.mkS rfl rfl rfl rfl (by omega) (by omega)) | exact .eff (.zeroS rfl rfl (by intro l hl; first | cases hl | exact ⟨_, by injection hl with hl; subst hl; rfl⟩) rfl rfl rfl)); (· first | rfl | (simp only [freshB, noRefH, OB.cells, refsL_fv, refsL_app]; rfl)))
      | (apply Ops.app; (· rfl); (· rfl); (· rfl); (· rfl); (· rfl); (· rfl); (· rfl); (· exact (by first | exact .nil | exact .own rfl (rmv_q (by first | exact (rfl : _ = []) | exact (rfl : _ = [_]) | exact (rfl : _ = [_, _]) | exact (rfl : _ = [_, _, _]) | exact (rfl : _ = [_, _, _, _]) | exact (rfl : _ = [_, _, _, _, _]) | exact (rfl : _ = [_, _, _, _, _, _]) | exact (rfl : _ = [_, _, _, _, _, _, _]) | exact (rfl : _ = [_, _, _, _, _, _, _, _]) | exact (rfl : _ = [_, _, _, _, _, _, _, _, _]) | exact (rfl : _ = [_, _, _, _, _, _, _, _, _, _]) | exact (rfl : _ = [_, _, _, _, _, _, _, _, _, _, _]) | exact (rfl : _ = [_, _, _, _, _, _, _, _, _, _, _, _]))))); (· exact (by first | exact .nil | exact .own rfl (by first | rfl | exact onesB_map _) | exact .fz (by first | rfl | (simp; done) | exact (flatMap_len (s := 1) (fun _ => rfl) _).trans (by omega)))); (· rfl); (· show (_ : Nat) ≤ 140737488355328; omega); (· first | rfl | (simp only [freshB, noRefH, OB.cells, refsL_fv, refsL_app]; rfl)))
      | (apply Ops.appS; (· rfl); (· rfl); (· rfl); (· rfl); (· rfl); (· rfl); (· rfl); (· rfl); (· rfl); (· exact (by first | exact .nil | exact .own rfl (rmv_q (by first | exact (rfl : _ = []) | exact (rfl : _ = [_]) | exact (rfl : _ = [_, _]) | exact (rfl : _ = [_, _, _]) | exact (rfl : _ = [_, _, _, _]) | exact (rfl : _ = [_, _, _, _, _]) | exact (rfl : _ = [_, _, _, _, _, _]) | exact (rfl : _ = [_, _, _, _, _, _, _]) | exact (rfl : _ = [_, _, _, _, _, _, _, _]) | exact (rfl : _ = [_, _, _, _, _, _, _, _, _]) | exact (rfl : _ = [_, _, _, _, _, _, _, _, _, _]) | exact (rfl : _ = [_, _, _, _, _, _, _, _, _, _, _]) | exact (rfl : _ = [_, _, _, _, _, _, _, _, _, _, _, _]))))); (· show (_ : Nat) ≤ 140737488355328; omega); (· first | rfl | (simp only [freshB, noRefH, OB.cells, refsL_fv, refsL_app]; rfl)))
      | (apply Ops.stoW; (· rfl); (· rfl); (· rfl); (· rfl); (· rfl); (· rfl); (· first | rfl | exact onesB_map _); (· rfl); (· exact rfl); (· exact (by repeat' (first | exact .here | apply Repl.there rfl))))
      | (apply Ops.stoB; (· rfl); (· rfl); (· rfl); (· rfl); (· rfl); (· rfl); (· first | rfl | exact onesB_map _); (· rfl); (· exact rfl); (· exact (by repeat' (first | exact .here | apply Repl.there rfl))))
      | (apply Ops.stoR; (· rfl); (· rfl); (· rfl); (· rfl); (· rfl); (· rfl); (· first | rfl | exact onesB_map _); (· rfl); (· exact rfl); (· exact (by repeat' (first | exact .here | apply Repl.there rfl))))
      | (apply Ops.gand; (· rfl); (· rfl); (· rfl); (· rfl); (· rfl); (· rfl); (· rfl); (· exact (by first | exact .b | exact .w)); (· rfl); (· rfl); (· rfl); (· simp); (· intro hc; first | exact hc | exact hc.1); (· intro hc; exact ⟨fun h => h.2, fun h => ⟨hc, h⟩⟩))
      | (apply Ops.gor; (· rfl); (· rfl); (· rfl); (· rfl); (· rfl); (· rfl); (· rfl); (· exact (by first | exact .b | exact .w)); (· rfl); (· rfl); (· rfl); (· simp); (· intro hc; first | exact hc | exact hc.1); (· intro hc; exact ⟨fun h => h.2, fun h => ⟨hc, h⟩⟩))
      | apply WP.drwL tbl_ok mixed_no rfl
      | ((with_reducible apply drwK.mk); (· kernel_rfl); (· first | rfl | (simp only [freeF, List.all_cons, List.all_nil, noRefH, OB.cells, refsL_fv, refsL_app]; rfl)))
      | fail)
    all_goals (try exact ([] : List Fp))
    exact .fun (.inl rfl) rfl rfl
  have h1' : ¬ bs.length < 6 := by omega
  have hf := (rfl : unwFault bs = unwFault bs)
  conv at hf => rhs; unfold unwFault
  rw [if_neg h1'] at hf
  have htag := tag_bool bs
  have c6 := decode_T (bs.drop 6) (k - 6) (by simp; omega) (by omega)
  have u2 := (byteAt bs 2).toNat_lt
  have u3 := (byteAt bs 3).toNat_lt
  have u4 := (byteAt bs 4).toNat_lt
  have u5 := (byteAt bs 5).toNat_lt
  repeat' (first
    | (apply Ops.loc; (· rfl); (· rfl); (· rfl); (· first | (exact .eff (.idxBI 0 hk rfl rfl rfl rfl (by omega))) | (exact .eff (.idxBI 1 hk rfl rfl rfl rfl (by omega))) | (exact .eff (.idxBI 2 hk rfl rfl rfl rfl (by omega))) | (exact .eff (.idxBI 3 hk rfl rfl rfl rfl (by omega))) | (exact .eff (.idxBI 4 hk rfl rfl rfl rfl (by omega))) | (exact .eff (.idxBI 5 hk rfl rfl rfl rfl (by omega))) | (exact .eff (.sliLB 6 hk rfl rfl rfl rfl (by omega))) | (exact .eff (.conv8 rfl rfl rfl)) | (exact .eff (.shlB rfl rfl (by omega))) | (exact .eff (.orB rfl rfl (by omega) (by omega))) | exact .eff (.mv rfl) | exact .eff (.asg rfl) | exact .eff (.loadO rfl rfl rfl) | exact .eff (.loadF rfl rfl) | exact .eff (.fldO rfl rfl rfl) | exact .eff (.fldF rfl rfl rfl) | (refine .eff (.add64 rfl rfl ?_ ?_) <;> omega) | (refine .eff (.sub64 rfl rfl ?_ ?_) <;> omega) | exact .eff (.lenF rfl rfl) | exact .eff (.lenO rfl rfl rfl) | exact .eff (.lenN rfl rfl) | exact .eff (.lenS rfl rfl) | exact .eff (.isNilF rfl (by omega) rfl (flatMap_len (fun _ => rfl) _)) | exact .eff (.isNilO rfl rfl (by omega) rfl) | exact .eff (.isNilZ rfl rfl rfl) | exact .eff (.lenB rfl rfl) | exact .eff (.idxB rfl rfl rfl (by omega) (by omega)) | exact .eff (.oLH rfl rfl rfl rfl rfl (by omega) (by omega)) | exact .eff (.oL rfl rfl rfl rfl (by omega)) | exact .eff (.oH rfl rfl rfl rfl (by omega)) | exact .eff (.bLH rfl rfl rfl rfl rfl (by omega) (by omega)) | exact .eff (.or rfl rfl rfl) | exact .eff (.and rfl rfl rfl) | exact .eff (.not rfl) | exact .eff (.extract rfl rfl) | (refine .eff (.mul64 rfl rfl ?_ ?_) <;> omega) | exact .eff (.bin rfl rfl rfl) | (refine .eff (.quo64 rfl rfl ?_ ?_ ?_) <;> omega) | (refine .eff (.rem64 rfl rfl ?_ ?_) <;> omega) | exact .eff (.idxPO rfl rfl rfl (by omega) (by omega)) | exact .eff (.idxPF rfl rfl rfl (by omega) (by omega)) | exact .eff (.idxO rfl rfl rfl rfl (by omega) (by omega)) | exact .eff (.buildS rfl rfl rfl rfl) | exact .eff (.eqA rfl rfl rfl rfl rfl) | exact .eff (.neA rfl rfl rfl rfl rfl) | exact .eff (.quo rfl rfl (by decide)) | exact .eff (.rem rfl rfl (by decide)) | exact .eff (.shr rfl rfl (by decide) (by decide)) | exact .eff (.shl rfl rfl (by decide) (by decide)) | exact .eff (.conv rfl rfl rfl) | exact .eff (.strEq rfl rfl) | exact .eff (.strNe rfl rfl) | exact .eff (.mkFn) | exact .eff (.nilO rfl) | exact .eff (.nilF rfl) | exact .eff (.neg rfl) | exact .eff (.max rfl rfl) | exact .eff (.min rfl rfl) | exact .callL rfl rfl rfl (by first | exact c6) rfl | (apply LEff.callBL; (· rfl); (· rfl); (· exact c6); (· skip; repeat' (first | exact .nil | refine .cons ?_ ?_ | exact .le (.refl _) | exact .row rfl | exact .box rfl | exact .cut rfl (by omega) | exact .le .nil | refine .agg ?_ | refine .fn ?_ | fail)); (· rfl))))
    | with_reducible refine WP.seq ?_
    | with_reducible apply WP.reg tbl_ok rfl
    | with_reducible refine Ops.nil ?_
    | with_reducible refine thenQ.nor ?_
    | with_reducible refine thenQ.ex ?_
    | with_reducible refine thenQ.ret ?_
    | with_reducible refine blockQ.nor ?_
    | with_reducible refine blockQ.ret ?_
    | with_reducible refine blockQ.hit rfl ?_
    | with_reducible refine blockQ.out rfl ?_
    | with_reducible refine WP.block ?_
    | with_reducible refine WP.skip ?_
    | with_reducible refine WP.exit ?_
    | with_reducible refine WP.ret ?_
    | refine WP.condT rfl ?_
    | refine WP.condF rfl ?_
    | refine WP.condT (c := _) (condD rfl (by first | exact decide_eq_true (by omega) | exact bne_iff_ne.2 (by omega) | exact beq_iff_eq.2 (by omega))) ?_
    | refine WP.condF (c := _) (condD rfl (by first | exact decide_eq_false (by omega) | exact bne_eq_false_iff_eq.2 (by omega) | exact beq_eq_false_iff_ne.2 (by omega))) ?_
    | refine WP.condBit rfl ?_ ?_
    | (refine WP.cond rfl ?_ ?_ <;> intro hcond)
    | (apply Ops.gst; (· rfl); (· rfl); (· rfl); (· rfl); (· rfl); (· rfl); (· rfl); (· first | exact .b | exact .w); (· intro hc; repeat' (first | exact trivial | exact fun _ => hc | exact fun _ => hc.1 | exact fun _ => ⟨hc.1.1, hc.1.2⟩ | refine And.intro ?_ ?_)); (· intro hc; first | (exact .eff (.idxBI 0 hk rfl rfl rfl rfl (by omega))) | (exact .eff (.idxBI 1 hk rfl rfl rfl rfl (by omega))) | (exact .eff (.idxBI 2 hk rfl rfl rfl rfl (by omega))) | (exact .eff (.idxBI 3 hk rfl rfl rfl rfl (by omega))) | (exact .eff (.idxBI 4 hk rfl rfl rfl rfl (by omega))) | (exact .eff (.idxBI 5 hk rfl rfl rfl rfl (by omega))) | (exact .eff (.sliLB 6 hk rfl rfl rfl rfl (by omega))) | (exact .eff (.conv8 rfl rfl rfl)) | (exact .eff (.shlB rfl rfl (by omega))) | (exact .eff (.orB rfl rfl (by omega) (by omega))) | exact .eff (.mvG rfl) | exact .eff (.asg rfl) | exact .eff (.loadO rfl rfl rfl) | exact .eff (.loadF rfl rfl) | exact .eff (.fldO rfl rfl rfl) | exact .eff (.fldF rfl rfl rfl) | (refine .eff (.add64 rfl rfl ?_ ?_) <;> omega) | (refine .eff (.sub64 rfl rfl ?_ ?_) <;> omega) | exact .eff (.lenF rfl rfl) | exact .eff (.lenO rfl rfl rfl) | exact .eff (.lenN rfl rfl) | exact .eff (.lenS rfl rfl) | exact .eff (.isNilF rfl (by omega) rfl (flatMap_len (fun _ => rfl) _)) | exact .eff (.isNilO rfl rfl (by omega) rfl) | exact .eff (.isNilZ rfl rfl rfl) | exact .eff (.lenB rfl rfl) | exact .eff (.idxB rfl rfl rfl (by omega) (by omega)) | exact .eff (.oLH rfl rfl rfl rfl rfl (by omega) (by omega)) | exact .eff (.oL rfl rfl rfl rfl (by omega)) | exact .eff (.oH rfl rfl rfl rfl (by omega)) | exact .eff (.bLH rfl rfl rfl rfl rfl (by omega) (by omega)) | exact .eff (.or rfl rfl rfl) | exact .eff (.and rfl rfl rfl) | exact .eff (.not rfl) | exact .eff (.extract rfl rfl) | (refine .eff (.mul64 rfl rfl ?_ ?_) <;> omega) | exact .eff (.bin rfl rfl rfl) | (refine .eff (.quo64 rfl rfl ?_ ?_ ?_) <;> omega) | (refine .eff (.rem64 rfl rfl ?_ ?_) <;> omega) | exact .eff (.idxPO rfl rfl rfl (by omega) (by omega)) | exact .eff (.idxPF rfl rfl rfl (by omega) (by omega)) | exact .eff (.idxO rfl rfl rfl rfl (by omega) (by omega)) | exact .eff (.buildS rfl rfl rfl rfl) | exact .eff (.eqA rfl rfl rfl rfl rfl) | exact .eff (.neA rfl rfl rfl rfl rfl) | exact .eff (.quo rfl rfl (by decide)) | exact .eff (.rem rfl rfl (by decide)) | exact .eff (.shr rfl rfl (by decide) (by decide)) | exact .eff (.shl rfl rfl (by decide) (by decide)) | exact .eff (.conv rfl rfl rfl) | exact .eff (.strEq rfl rfl) | exact .eff (.strNe rfl rfl) | exact .eff (.mkFn) | exact .eff (.nilO rfl) | exact .eff (.nilF rfl) | exact .eff (.neg rfl) | exact .eff (.max rfl rfl) | exact .eff (.min rfl rfl) | exact .callG rfl rfl rfl (by first | exact c6) rfl | (apply LEff.callBG; (· rfl); (· rfl); (· exact c6); (· skip; repeat' (first | exact .nil | refine .cons ?_ ?_ | exact .le (.refl _) | exact .row rfl | exact .box rfl | exact .cut rfl (by omega) | exact .le .nil | refine .agg ?_ | refine .fn ?_ | fail)); (· rfl))); (· rfl); (· rfl))
    | (apply Ops.new; (· rfl); (· rfl); (· rfl); (· first | exact .eff (.box rfl) | exact .eff (.alloc rfl) | exact .eff (.bsliceS rfl rfl rfl rfl rfl) | exact .eff (.mkS rfl rfl rfl rfl (by omega) (by omega)) | exact .eff (.zeroS rfl rfl (by intro l hl; first | cases hl | exact ⟨_, by injection hl with hl; subst hl; rfl⟩) rfl rfl rfl)); (· first | rfl | (simp only [freshB, noRefH, OB.cells, refsL_fv, refsL_app]; rfl)))
    | (apply Ops.app; (· rfl); (· rfl); (· rfl); (· rfl); (· rfl); (· rfl); (· rfl); (· exact (by first | exact .nil | exact .own rfl (rmv_q (by first | exact (rfl : _ = []) | exact (rfl : _ = [_]) | exact (rfl : _ = [_, _]) | exact (rfl : _ = [_, _, _]) | exact (rfl : _ = [_, _, _, _]) | exact (rfl : _ = [_, _, _, _, _]) | exact (rfl : _ = [_, _, _, _, _, _]) | exact (rfl : _ = [_, _, _, _, _, _, _]) | exact (rfl : _ = [_, _, _, _, _, _, _, _]) | exact (rfl : _ = [_, _, _, _, _, _, _, _, _]) | exact (rfl : _ = [_, _, _, _, _, _, _, _, _, _]) | exact (rfl : _ = [_, _, _, _, _, _, _, _, _, _, _]) | exact (rfl : _ = [_, _, _, _, _, _, _, _, _, _, _, _]))))); (· exact (by first | exact .nil | exact .own rfl (by first | rfl | exact onesB_map _) | exact .fz (by first | rfl | (simp; done) | exact (flatMap_len (s := 1) (fun _ => rfl) _).trans (by omega)))); (· rfl); (· show (_ : Nat) ≤ 140737488355328; omega); (· first | rfl | (simp only [freshB, noRefH, OB.cells, refsL_fv, refsL_app]; rfl)))
    | (apply Ops.appS; (· rfl); (· rfl); (· rfl); (· rfl); (· rfl); (· rfl); (· rfl); (· rfl); (· rfl); (· exact (by first | exact .nil | exact .own rfl (rmv_q (by first | exact (rfl : _ = []) | exact (rfl : _ = [_]) | exact (rfl : _ = [_, _]) | exact (rfl : _ = [_, _, _]) | exact (rfl : _ = [_, _, _, _]) | exact (rfl : _ = [_, _, _, _, _]) | exact (rfl : _ = [_, _, _, _, _, _]) | exact (rfl : _ = [_, _, _, _, _, _, _]) | exact (rfl : _ = [_, _, _, _, _, _, _, _]) | exact (rfl : _ = [_, _, _, _, _, _, _, _, _]) | exact (rfl : _ = [_, _, _, _, _, _, _, _, _, _]) | exact (rfl : _ = [_, _, _, _, _, _, _, _, _, _, _]) | exact (rfl : _ = [_, _, _, _, _, _, _, _, _, _, _, _]))))); (· show (_ : Nat) ≤ 140737488355328; omega); (· first | rfl | (simp only [freshB, noRefH, OB.cells, refsL_fv, refsL_app]; rfl)))
    | (apply Ops.stoW; (· rfl); (· rfl); (· rfl); (· rfl); (· rfl); (· rfl); (· first | rfl | exact onesB_map _); (· rfl); (· exact rfl); (· exact (by repeat' (first | exact .here | apply Repl.there rfl))))
    | (apply Ops.stoB; (· rfl); (· rfl); (· rfl); (· rfl); (· rfl); (· rfl); (· first | rfl | exact onesB_map _); (· rfl); (· exact rfl); (· exact (by repeat' (first | exact .here | apply Repl.there rfl))))
    | (apply Ops.stoR; (· rfl); (· rfl); (· rfl); (· rfl); (· rfl); (· rfl); (· first | rfl | exact onesB_map _); (· rfl); (· exact rfl); (· exact (by repeat' (first | exact .here | apply Repl.there rfl))))
    | (apply Ops.gand; (· rfl); (· rfl); (· rfl); (· rfl); (· rfl); (· rfl); (· rfl); (· exact (by first | exact .b | exact .w)); (· rfl); (· rfl); (· rfl); (· simp); (· intro hc; first | exact hc | exact hc.1); (· intro hc; exact ⟨fun h => h.2, fun h => ⟨hc, h⟩⟩))
    | (apply Ops.gor; (· rfl); (· rfl); (· rfl); (· rfl); (· rfl); (· rfl); (· rfl); (· exact (by first | exact .b | exact .w)); (· rfl); (· rfl); (· rfl); (· simp); (· intro hc; first | exact hc | exact hc.1); (· intro hc; exact ⟨fun h => h.2, fun h => ⟨hc, h⟩⟩))
    | apply WP.drwL tbl_ok mixed_no rfl
    | ((with_reducible apply drwK.mk); (· kernel_rfl); (· first | rfl | (simp only [freeF, List.all_cons, List.all_nil, noRefH, OB.cells, refsL_fv, refsL_app]; rfl)))
    | fail)
  all_goals (try exact ([] : List Fp))
  · rw [htag, Bool.not_eq_true', decide_eq_false_iff_not] at hcond
    rw [if_pos hcond] at hf
    obtain ⟨e1, e2, e3⟩ := unw_bad hf (by decide)
    rw [e1, e2, e3, hf]
    exact .fun (.inl rfl) rfl rfl
  · rename_i hc
    rw [htag, Bool.not_eq_false', decide_eq_true_iff] at hc
    rw [if_neg (not_not_intro hc)] at hf
    have hd := bne_iff_ne.1 hcond
    obtain ⟨e1, e2, e3⟩ := unw_bad hf hd
    rw [e1, e2, e3, hf]
    exact .fun (.inl rfl) rfl rfl
  · rename_i hc
    rw [htag, Bool.not_eq_false', decide_eq_true_iff] at hc
    rw [if_neg (not_not_intro hc)] at hf
    have hd := bne_eq_false_iff_eq.1 hcond
    rw [hd] at hf
    have e1 : unwN bs = wat bs 2 := if_neg (by omega)
    have e2 : unwT bs = wat bs 4 := if_neg (by omega)
    have e3 : unwR bs = decR (bs.drop 6) := if_neg (by omega)
    rw [e1, e2, e3, hf]
    exact .fun (.inl rfl) rfl rfl
set_option maxHeartbeats 4000000 in
theorem unwrappedOf_T (bs : List UInt8) (k : Nat) (hk : k = bs.length) (hl : k ≤ 140737488355328) : Fun Try.prog 50 [.fv (.sl (bs.flatMap encB) k)] (.tup [.fv (.int .i64 (unwN bs : Nat)), .fv (.int .i64 (unwT bs : Nat)), .agg ((encFr (unwR bs)).map .fv), .fv (.int .i64 (unwFault bs))]) := by
  refine Fun.body tbl_ok Try.func50 rfl (by kernel_rfl) rfl rfl rfl ?_
  by_cases h1 : k < 6
  case pos =>
    have hf : unwFault bs = 5 := if_pos (by omega)
    obtain ⟨e1, e2, e3⟩ := unw_bad hf (by decide)
    rw [e1, e2, e3, hf]
    repeat' (first
      | (apply Ops.loc; (· rfl); (· rfl); (· rfl); (· first | exact .eff (.mv rfl) | exact .eff (.asg rfl) | exact .eff (.loadO rfl rfl rfl) | exact .eff (.loadF rfl rfl) | exact .eff (.fldO rfl rfl rfl) | exact .eff (.fldF rfl rfl rfl) | (refine .eff (.add64 rfl rfl ?_ ?_) <;> omega) | (refine .eff (.sub64 rfl rfl ?_ ?_) <;> omega) | exact .eff (.lenF rfl rfl) | exact .eff (.lenO rfl rfl rfl) | exact .eff (.lenN rfl rfl) | exact .eff (.lenS rfl rfl) | exact .eff (.isNilF rfl (by omega) rfl (flatMap_len (fun _ => rfl) _)) | exact .eff (.isNilO rfl rfl (by omega) rfl) | exact .eff (.isNilZ rfl rfl rfl) | exact .eff (.lenB rfl rfl) | exact .eff (.idxB rfl rfl rfl (by omega) (by omega)) | exact .eff (.oLH rfl rfl rfl rfl rfl (by omega) (by omega)) | exact .eff (.oL rfl rfl rfl rfl (by omega)) | exact .eff (.oH rfl rfl rfl rfl (by omega)) | exact .eff (.bLH rfl rfl rfl rfl rfl (by omega) (by omega)) | exact .eff (.or rfl rfl rfl) | exact .eff (.and rfl rfl rfl) | exact .eff (.not rfl) | exact .eff (.extract rfl rfl) | (refine .eff (.mul64 rfl rfl ?_ ?_) <;> omega) | exact .eff (.bin rfl rfl rfl) | (refine .eff (.quo64 rfl rfl ?_ ?_ ?_) <;> omega) | (refine .eff (.rem64 rfl rfl ?_ ?_) <;> omega) | exact .eff (.idxPO rfl rfl rfl (by omega) (by omega)) | exact .eff (.idxPF rfl rfl rfl (by omega) (by omega)) | exact .eff (.idxO rfl rfl rfl rfl (by omega) (by omega)) | exact .eff (.buildS rfl rfl rfl rfl) | exact .eff (.eqA rfl rfl rfl rfl rfl) | exact .eff (.neA rfl rfl rfl rfl rfl) | exact .eff (.quo rfl rfl (by decide)) | exact .eff (.rem rfl rfl (by decide)) | exact .eff (.shr rfl rfl (by decide) (by decide)) | exact .eff (.shl rfl rfl (by decide) (by decide)) | exact .eff (.conv rfl rfl rfl) | exact .eff (.strEq rfl rfl) | exact .eff (.strNe rfl rfl) | exact .eff (.mkFn) | exact .eff (.nilO rfl) | exact .eff (.nilF rfl) | exact .eff (.neg rfl) | exact .eff (.max rfl rfl) | exact .eff (.min rfl rfl)))
      | with_reducible refine WP.seq ?_
      | with_reducible apply WP.reg tbl_ok rfl
      | with_reducible refine Ops.nil ?_
      | with_reducible refine thenQ.nor ?_
      | with_reducible refine thenQ.ex ?_
      | with_reducible refine thenQ.ret ?_
      | with_reducible refine blockQ.nor ?_
      | with_reducible refine blockQ.ret ?_
      | with_reducible refine blockQ.hit rfl ?_
      | with_reducible refine blockQ.out rfl ?_
      | with_reducible refine WP.block ?_
      | with_reducible refine WP.skip ?_
      | with_reducible refine WP.exit ?_
      | with_reducible refine WP.ret ?_
      | refine WP.condT rfl ?_
      | refine WP.condF rfl ?_
      | refine WP.condT (c := _) (condD rfl (by first | exact decide_eq_true (by omega) | exact bne_iff_ne.2 (by omega) | exact beq_iff_eq.2 (by omega))) ?_
      | refine WP.condF (c := _) (condD rfl (by first | exact decide_eq_false (by omega) | exact bne_eq_false_iff_eq.2 (by omega) | exact beq_eq_false_iff_ne.2 (by omega))) ?_
      | refine WP.condBit rfl ?_ ?_
      | (refine WP.cond rfl ?_ ?_ <;> intro hcond)
      | (apply Ops.gst; (· rfl); (· rfl); (· rfl); (· rfl); (· rfl); (· rfl); (· rfl); (· first | exact .b | exact .w); (· intro hc; repeat' (first | exact trivial | exact fun _ => hc | exact fun _ => hc.1 | exact fun _ => ⟨hc.1.1, hc.1.2⟩ | refine And.intro ?_ ?_)); (· intro hc; first | exact .eff (.mvG rfl) | exact .eff (.asg rfl) | exact .eff (.loadO rfl rfl rfl) | exact .eff (.loadF rfl rfl) | exact .eff (.fldO rfl rfl rfl) | exact .eff (.fldF rfl rfl rfl) | (refine .eff (.add64 rfl rfl ?_ ?_) <;> omega) | (refine .eff (.sub64 rfl rfl ?_ ?_) <;> omega) | exact .eff (.lenF rfl rfl) | exact .eff (.lenO rfl rfl rfl) | exact .eff (.lenN rfl rfl) | exact .eff (.lenS rfl rfl) | exact .eff (.isNilF rfl (by omega) rfl (flatMap_len (fun _ => rfl) _)) | exact .eff (.isNilO rfl rfl (by omega) rfl) | exact .eff (.isNilZ rfl rfl rfl) | exact .eff (.lenB rfl rfl) | exact .eff (.idxB rfl rfl rfl (by omega) (by omega)) | exact .eff (.oLH rfl rfl rfl rfl rfl (by omega) (by omega)) | exact .eff (.oL rfl rfl rfl rfl (by omega)) | exact .eff (.oH rfl rfl rfl rfl (by omega)) | exact .eff (.bLH rfl rfl rfl rfl rfl (by omega) (by omega)) | exact .eff (.or rfl rfl rfl) | exact .eff (.and rfl rfl rfl) | exact .eff (.not rfl) | exact .eff (.extract rfl rfl) | (refine .eff (.mul64 rfl rfl ?_ ?_) <;> omega) | exact .eff (.bin rfl rfl rfl) | (refine .eff (.quo64 rfl rfl ?_ ?_ ?_) <;> omega) | (refine .eff (.rem64 rfl rfl ?_ ?_) <;> omega) | exact .eff (.idxPO rfl rfl rfl (by omega) (by omega)) | exact .eff (.idxPF rfl rfl rfl (by omega) (by omega)) | exact .eff (.idxO rfl rfl rfl rfl (by omega) (by omega)) | exact .eff (.buildS rfl rfl rfl rfl) | exact .eff (.eqA rfl rfl rfl rfl rfl) | exact .eff (.neA rfl rfl rfl rfl rfl) | exact .eff (.quo rfl rfl (by decide)) | exact .eff (.rem rfl rfl (by decide)) | exact .eff (.shr rfl rfl (by decide) (by decide)) | exact .eff (.shl rfl rfl (by decide) (by decide)) | exact .eff (.conv rfl rfl rfl) | exact .eff (.strEq rfl rfl) | exact .eff (.strNe rfl rfl) | exact .eff (.mkFn) | exact .eff (.nilO rfl) | exact .eff (.nilF rfl) | exact .eff (.neg rfl) | exact .eff (.max rfl rfl) | exact .eff (.min rfl rfl)); (· rfl); (· rfl))
      | (apply Ops.new; (· rfl); (· rfl); (· rfl); (· first | exact .eff (.box rfl) | exact .eff (.alloc rfl) | exact .eff (.bsliceS rfl rfl rfl rfl rfl) | exact .eff (.mkS rfl rfl rfl rfl (by omega) (by omega)) | exact .eff (.zeroS rfl rfl (by intro l hl; first | cases hl | exact ⟨_, by injection hl with hl; subst hl; rfl⟩) rfl rfl rfl)); (· first | rfl | (simp only [freshB, noRefH, OB.cells, refsL_fv, refsL_app]; rfl)))
      | (apply Ops.app; (· rfl); (· rfl); (· rfl); (· rfl); (· rfl); (· rfl); (· rfl); (· exact (by first | exact .nil | exact .own rfl (rmv_q (by first | exact (rfl : _ = []) | exact (rfl : _ = [_]) | exact (rfl : _ = [_, _]) | exact (rfl : _ = [_, _, _]) | exact (rfl : _ = [_, _, _, _]) | exact (rfl : _ = [_, _, _, _, _]) | exact (rfl : _ = [_, _, _, _, _, _]) | exact (rfl : _ = [_, _, _, _, _, _, _]) | exact (rfl : _ = [_, _, _, _, _, _, _, _]) | exact (rfl : _ = [_, _, _, _, _, _, _, _, _]) | exact (rfl : _ = [_, _, _, _, _, _, _, _, _, _]) | exact (rfl : _ = [_, _, _, _, _, _, _, _, _, _, _]) | exact (rfl : _ = [_, _, _, _, _, _, _, _, _, _, _, _]))))); (· exact (by first | exact .nil | exact .own rfl (by first | rfl | exact onesB_map _) | exact .fz (by first | rfl | (simp; done) | exact (flatMap_len (s := 1) (fun _ => rfl) _).trans (by omega)))); (· rfl); (· show (_ : Nat) ≤ 140737488355328; omega); (· first | rfl | (simp only [freshB, noRefH, OB.cells, refsL_fv, refsL_app]; rfl)))
      | (apply Ops.appS; (· rfl); (· rfl); (· rfl); (· rfl); (· rfl); (· rfl); (· rfl); (· rfl); (· rfl); (· exact (by first | exact .nil | exact .own rfl (rmv_q (by first | exact (rfl : _ = []) | exact (rfl : _ = [_]) | exact (rfl : _ = [_, _]) | exact (rfl : _ = [_, _, _]) | exact (rfl : _ = [_, _, _, _]) | exact (rfl : _ = [_, _, _, _, _]) | exact (rfl : _ = [_, _, _, _, _, _]) | exact (rfl : _ = [_, _, _, _, _, _, _]) | exact (rfl : _ = [_, _, _, _, _, _, _, _]) | exact (rfl : _ = [_, _, _, _, _, _, _, _, _]) | exact (rfl : _ = [_, _, _, _, _, _, _, _, _, _]) | exact (rfl : _ = [_, _, _, _, _, _, _, _, _, _, _]) | exact (rfl : _ = [_, _, _, _, _, _, _, _, _, _, _, _]))))); (· show (_ : Nat) ≤ 140737488355328; omega); (· first | rfl | (simp only [freshB, noRefH, OB.cells, refsL_fv, refsL_app]; rfl)))
      | (apply Ops.stoW; (· rfl); (· rfl); (· rfl); (· rfl); (· rfl); (· rfl); (· first | rfl | exact onesB_map _); (· rfl); (· exact rfl); (· exact (by repeat' (first | exact .here | apply Repl.there rfl))))
      | (apply Ops.stoB; (· rfl); (· rfl); (· rfl); (· rfl); (· rfl); (· rfl); (· first | rfl | exact onesB_map _); (· rfl); (· exact rfl); (· exact (by repeat' (first | exact .here | apply Repl.there rfl))))
      | (apply Ops.stoR; (· rfl); (· rfl); (· rfl); (· rfl); (· rfl); (· rfl); (· first | rfl | exact onesB_map _); (· rfl); (· exact rfl); (· exact (by repeat' (first | exact .here | apply Repl.there rfl))))
      | (apply Ops.gand; (· rfl); (· rfl); (· rfl); (· rfl); (· rfl); (· rfl); (· rfl); (· exact (by first | exact .b | exact .w)); (· rfl); (· rfl); (· rfl); (· simp); (· intro hc; first | exact hc | exact hc.1); (· intro hc; exact ⟨fun h => h.2, fun h => ⟨hc, h⟩⟩))
      | (apply Ops.gor; (· rfl); (· rfl); (· rfl); (· rfl); (· rfl); (· rfl); (· rfl); (· exact (by first | exact .b | exact .w)); (· rfl); (· rfl); (· rfl); (· simp); (· intro hc; first | exact hc | exact hc.1); (· intro hc; exact ⟨fun h => h.2, fun h => ⟨hc, h⟩⟩))
      | apply WP.drwL tbl_ok mixed_no rfl
      | ((with_reducible apply drwK.mk); (· kernel_rfl); (· first | rfl | (simp only [freeF, List.all_cons, List.all_nil, noRefH, OB.cells, refsL_fv, refsL_app]; rfl)))
      | fail)
    all_goals (try exact ([] : List Fp))
    exact .fun (.inl rfl) rfl rfl
  have h1' : ¬ bs.length < 6 := by omega
  have hf := (rfl : unwFault bs = unwFault bs)
  conv at hf => rhs; unfold unwFault
  rw [if_neg h1'] at hf
  have htag := tag_str (bs := bs) (by omega)
  have c6 := frameOf_T (bs.drop 6) (k - 6) (by simp; omega) (by omega)
  have u2 := (byteAt bs 2).toNat_lt
  have u3 := (byteAt bs 3).toNat_lt
  have u4 := (byteAt bs 4).toNat_lt
  have u5 := (byteAt bs 5).toNat_lt
  have w2 := wordAt_T bs k 2 2 hk rfl (by omega) hl
  have w4 := wordAt_T bs k 4 4 hk rfl (by omega) hl
  repeat' (first
    | (apply Ops.loc; (· rfl); (· rfl); (· rfl); (· first | (exact .eff (.sliHB 2 hk rfl rfl rfl rfl (by omega))) | (exact .eff (.sliLB 6 hk rfl rfl rfl rfl (by omega))) | (exact .eff (.b2sB rfl rfl rfl rfl (by rw [List.length_take]; omega))) | exact .eff (.mv rfl) | exact .eff (.asg rfl) | exact .eff (.loadO rfl rfl rfl) | exact .eff (.loadF rfl rfl) | exact .eff (.fldO rfl rfl rfl) | exact .eff (.fldF rfl rfl rfl) | (refine .eff (.add64 rfl rfl ?_ ?_) <;> omega) | (refine .eff (.sub64 rfl rfl ?_ ?_) <;> omega) | exact .eff (.lenF rfl rfl) | exact .eff (.lenO rfl rfl rfl) | exact .eff (.lenN rfl rfl) | exact .eff (.lenS rfl rfl) | exact .eff (.isNilF rfl (by omega) rfl (flatMap_len (fun _ => rfl) _)) | exact .eff (.isNilO rfl rfl (by omega) rfl) | exact .eff (.isNilZ rfl rfl rfl) | exact .eff (.lenB rfl rfl) | exact .eff (.idxB rfl rfl rfl (by omega) (by omega)) | exact .eff (.oLH rfl rfl rfl rfl rfl (by omega) (by omega)) | exact .eff (.oL rfl rfl rfl rfl (by omega)) | exact .eff (.oH rfl rfl rfl rfl (by omega)) | exact .eff (.bLH rfl rfl rfl rfl rfl (by omega) (by omega)) | exact .eff (.or rfl rfl rfl) | exact .eff (.and rfl rfl rfl) | exact .eff (.not rfl) | exact .eff (.extract rfl rfl) | (refine .eff (.mul64 rfl rfl ?_ ?_) <;> omega) | exact .eff (.bin rfl rfl rfl) | (refine .eff (.quo64 rfl rfl ?_ ?_ ?_) <;> omega) | (refine .eff (.rem64 rfl rfl ?_ ?_) <;> omega) | exact .eff (.idxPO rfl rfl rfl (by omega) (by omega)) | exact .eff (.idxPF rfl rfl rfl (by omega) (by omega)) | exact .eff (.idxO rfl rfl rfl rfl (by omega) (by omega)) | exact .eff (.buildS rfl rfl rfl rfl) | exact .eff (.eqA rfl rfl rfl rfl rfl) | exact .eff (.neA rfl rfl rfl rfl rfl) | exact .eff (.quo rfl rfl (by decide)) | exact .eff (.rem rfl rfl (by decide)) | exact .eff (.shr rfl rfl (by decide) (by decide)) | exact .eff (.shl rfl rfl (by decide) (by decide)) | exact .eff (.conv rfl rfl rfl) | exact .eff (.strEq rfl rfl) | exact .eff (.strNe rfl rfl) | exact .eff (.mkFn) | exact .eff (.nilO rfl) | exact .eff (.nilF rfl) | exact .eff (.neg rfl) | exact .eff (.max rfl rfl) | exact .eff (.min rfl rfl) | exact .callL rfl rfl rfl (by first | exact c6 | exact w2 | exact w4) rfl | (apply LEff.callBL; (· rfl); (· rfl); (· exact c6); (· skip; repeat' (first | exact .nil | refine .cons ?_ ?_ | exact .le (.refl _) | exact .row rfl | exact .box rfl | exact .cut rfl (by omega) | exact .le .nil | refine .agg ?_ | refine .fn ?_ | fail)); (· rfl)) | (apply LEff.callBL; (· rfl); (· rfl); (· exact w2); (· skip; repeat' (first | exact .nil | refine .cons ?_ ?_ | exact .le (.refl _) | exact .row rfl | exact .box rfl | exact .cut rfl (by omega) | exact .le .nil | refine .agg ?_ | refine .fn ?_ | fail)); (· rfl)) | (apply LEff.callBL; (· rfl); (· rfl); (· exact w4); (· skip; repeat' (first | exact .nil | refine .cons ?_ ?_ | exact .le (.refl _) | exact .row rfl | exact .box rfl | exact .cut rfl (by omega) | exact .le .nil | refine .agg ?_ | refine .fn ?_ | fail)); (· rfl))))
    | with_reducible refine WP.seq ?_
    | with_reducible apply WP.reg tbl_ok rfl
    | with_reducible refine Ops.nil ?_
    | with_reducible refine thenQ.nor ?_
    | with_reducible refine thenQ.ex ?_
    | with_reducible refine thenQ.ret ?_
    | with_reducible refine blockQ.nor ?_
    | with_reducible refine blockQ.ret ?_
    | with_reducible refine blockQ.hit rfl ?_
    | with_reducible refine blockQ.out rfl ?_
    | with_reducible refine WP.block ?_
    | with_reducible refine WP.skip ?_
    | with_reducible refine WP.exit ?_
    | with_reducible refine WP.ret ?_
    | refine WP.condT rfl ?_
    | refine WP.condF rfl ?_
    | refine WP.condT (c := _) (condD rfl (by first | exact decide_eq_true (by omega) | exact bne_iff_ne.2 (by omega) | exact beq_iff_eq.2 (by omega))) ?_
    | refine WP.condF (c := _) (condD rfl (by first | exact decide_eq_false (by omega) | exact bne_eq_false_iff_eq.2 (by omega) | exact beq_eq_false_iff_ne.2 (by omega))) ?_
    | refine WP.condBit rfl ?_ ?_
    | (refine WP.cond rfl ?_ ?_ <;> intro hcond)
    | (apply Ops.gst; (· rfl); (· rfl); (· rfl); (· rfl); (· rfl); (· rfl); (· rfl); (· first | exact .b | exact .w); (· intro hc; repeat' (first | exact trivial | exact fun _ => hc | exact fun _ => hc.1 | exact fun _ => ⟨hc.1.1, hc.1.2⟩ | refine And.intro ?_ ?_)); (· intro hc; first | (exact .eff (.sliHB 2 hk rfl rfl rfl rfl (by omega))) | (exact .eff (.sliLB 6 hk rfl rfl rfl rfl (by omega))) | (exact .eff (.b2sB rfl rfl rfl rfl (by rw [List.length_take]; omega))) | exact .eff (.mvG rfl) | exact .eff (.asg rfl) | exact .eff (.loadO rfl rfl rfl) | exact .eff (.loadF rfl rfl) | exact .eff (.fldO rfl rfl rfl) | exact .eff (.fldF rfl rfl rfl) | (refine .eff (.add64 rfl rfl ?_ ?_) <;> omega) | (refine .eff (.sub64 rfl rfl ?_ ?_) <;> omega) | exact .eff (.lenF rfl rfl) | exact .eff (.lenO rfl rfl rfl) | exact .eff (.lenN rfl rfl) | exact .eff (.lenS rfl rfl) | exact .eff (.isNilF rfl (by omega) rfl (flatMap_len (fun _ => rfl) _)) | exact .eff (.isNilO rfl rfl (by omega) rfl) | exact .eff (.isNilZ rfl rfl rfl) | exact .eff (.lenB rfl rfl) | exact .eff (.idxB rfl rfl rfl (by omega) (by omega)) | exact .eff (.oLH rfl rfl rfl rfl rfl (by omega) (by omega)) | exact .eff (.oL rfl rfl rfl rfl (by omega)) | exact .eff (.oH rfl rfl rfl rfl (by omega)) | exact .eff (.bLH rfl rfl rfl rfl rfl (by omega) (by omega)) | exact .eff (.or rfl rfl rfl) | exact .eff (.and rfl rfl rfl) | exact .eff (.not rfl) | exact .eff (.extract rfl rfl) | (refine .eff (.mul64 rfl rfl ?_ ?_) <;> omega) | exact .eff (.bin rfl rfl rfl) | (refine .eff (.quo64 rfl rfl ?_ ?_ ?_) <;> omega) | (refine .eff (.rem64 rfl rfl ?_ ?_) <;> omega) | exact .eff (.idxPO rfl rfl rfl (by omega) (by omega)) | exact .eff (.idxPF rfl rfl rfl (by omega) (by omega)) | exact .eff (.idxO rfl rfl rfl rfl (by omega) (by omega)) | exact .eff (.buildS rfl rfl rfl rfl) | exact .eff (.eqA rfl rfl rfl rfl rfl) | exact .eff (.neA rfl rfl rfl rfl rfl) | exact .eff (.quo rfl rfl (by decide)) | exact .eff (.rem rfl rfl (by decide)) | exact .eff (.shr rfl rfl (by decide) (by decide)) | exact .eff (.shl rfl rfl (by decide) (by decide)) | exact .eff (.conv rfl rfl rfl) | exact .eff (.strEq rfl rfl) | exact .eff (.strNe rfl rfl) | exact .eff (.mkFn) | exact .eff (.nilO rfl) | exact .eff (.nilF rfl) | exact .eff (.neg rfl) | exact .eff (.max rfl rfl) | exact .eff (.min rfl rfl) | exact .callG rfl rfl rfl (by first | exact c6 | exact w2 | exact w4) rfl | (apply LEff.callBG; (· rfl); (· rfl); (· exact c6); (· skip; repeat' (first | exact .nil | refine .cons ?_ ?_ | exact .le (.refl _) | exact .row rfl | exact .box rfl | exact .cut rfl (by omega) | exact .le .nil | refine .agg ?_ | refine .fn ?_ | fail)); (· rfl)) | (apply LEff.callBG; (· rfl); (· rfl); (· exact w2); (· skip; repeat' (first | exact .nil | refine .cons ?_ ?_ | exact .le (.refl _) | exact .row rfl | exact .box rfl | exact .cut rfl (by omega) | exact .le .nil | refine .agg ?_ | refine .fn ?_ | fail)); (· rfl)) | (apply LEff.callBG; (· rfl); (· rfl); (· exact w4); (· skip; repeat' (first | exact .nil | refine .cons ?_ ?_ | exact .le (.refl _) | exact .row rfl | exact .box rfl | exact .cut rfl (by omega) | exact .le .nil | refine .agg ?_ | refine .fn ?_ | fail)); (· rfl))); (· rfl); (· rfl))
    | (apply Ops.new; (· rfl); (· rfl); (· rfl); (· first | exact .eff (.box rfl) | exact .eff (.alloc rfl) | exact .eff (.bsliceS rfl rfl rfl rfl rfl) | exact .eff (.mkS rfl rfl rfl rfl (by omega) (by omega)) | exact .eff (.zeroS rfl rfl (by intro l hl; first | cases hl | exact ⟨_, by injection hl with hl; subst hl; rfl⟩) rfl rfl rfl)); (· first | rfl | (simp only [freshB, noRefH, OB.cells, refsL_fv, refsL_app]; rfl)))
    | (apply Ops.app; (· rfl); (· rfl); (· rfl); (· rfl); (· rfl); (· rfl); (· rfl); (· exact (by first | exact .nil | exact .own rfl (rmv_q (by first | exact (rfl : _ = []) | exact (rfl : _ = [_]) | exact (rfl : _ = [_, _]) | exact (rfl : _ = [_, _, _]) | exact (rfl : _ = [_, _, _, _]) | exact (rfl : _ = [_, _, _, _, _]) | exact (rfl : _ = [_, _, _, _, _, _]) | exact (rfl : _ = [_, _, _, _, _, _, _]) | exact (rfl : _ = [_, _, _, _, _, _, _, _]) | exact (rfl : _ = [_, _, _, _, _, _, _, _, _]) | exact (rfl : _ = [_, _, _, _, _, _, _, _, _, _]) | exact (rfl : _ = [_, _, _, _, _, _, _, _, _, _, _]) | exact (rfl : _ = [_, _, _, _, _, _, _, _, _, _, _, _]))))); (· exact (by first | exact .nil | exact .own rfl (by first | rfl | exact onesB_map _) | exact .fz (by first | rfl | (simp; done) | exact (flatMap_len (s := 1) (fun _ => rfl) _).trans (by omega)))); (· rfl); (· show (_ : Nat) ≤ 140737488355328; omega); (· first | rfl | (simp only [freshB, noRefH, OB.cells, refsL_fv, refsL_app]; rfl)))
    | (apply Ops.appS; (· rfl); (· rfl); (· rfl); (· rfl); (· rfl); (· rfl); (· rfl); (· rfl); (· rfl); (· exact (by first | exact .nil | exact .own rfl (rmv_q (by first | exact (rfl : _ = []) | exact (rfl : _ = [_]) | exact (rfl : _ = [_, _]) | exact (rfl : _ = [_, _, _]) | exact (rfl : _ = [_, _, _, _]) | exact (rfl : _ = [_, _, _, _, _]) | exact (rfl : _ = [_, _, _, _, _, _]) | exact (rfl : _ = [_, _, _, _, _, _, _]) | exact (rfl : _ = [_, _, _, _, _, _, _, _]) | exact (rfl : _ = [_, _, _, _, _, _, _, _, _]) | exact (rfl : _ = [_, _, _, _, _, _, _, _, _, _]) | exact (rfl : _ = [_, _, _, _, _, _, _, _, _, _, _]) | exact (rfl : _ = [_, _, _, _, _, _, _, _, _, _, _, _]))))); (· show (_ : Nat) ≤ 140737488355328; omega); (· first | rfl | (simp only [freshB, noRefH, OB.cells, refsL_fv, refsL_app]; rfl)))
    | (apply Ops.stoW; (· rfl); (· rfl); (· rfl); (· rfl); (· rfl); (· rfl); (· first | rfl | exact onesB_map _); (· rfl); (· exact rfl); (· exact (by repeat' (first | exact .here | apply Repl.there rfl))))
    | (apply Ops.stoB; (· rfl); (· rfl); (· rfl); (· rfl); (· rfl); (· rfl); (· first | rfl | exact onesB_map _); (· rfl); (· exact rfl); (· exact (by repeat' (first | exact .here | apply Repl.there rfl))))
    | (apply Ops.stoR; (· rfl); (· rfl); (· rfl); (· rfl); (· rfl); (· rfl); (· first | rfl | exact onesB_map _); (· rfl); (· exact rfl); (· exact (by repeat' (first | exact .here | apply Repl.there rfl))))
    | (apply Ops.gand; (· rfl); (· rfl); (· rfl); (· rfl); (· rfl); (· rfl); (· rfl); (· exact (by first | exact .b | exact .w)); (· rfl); (· rfl); (· rfl); (· simp); (· intro hc; first | exact hc | exact hc.1); (· intro hc; exact ⟨fun h => h.2, fun h => ⟨hc, h⟩⟩))
    | (apply Ops.gor; (· rfl); (· rfl); (· rfl); (· rfl); (· rfl); (· rfl); (· rfl); (· exact (by first | exact .b | exact .w)); (· rfl); (· rfl); (· rfl); (· simp); (· intro hc; first | exact hc | exact hc.1); (· intro hc; exact ⟨fun h => h.2, fun h => ⟨hc, h⟩⟩))
    | apply WP.drwL tbl_ok mixed_no rfl
    | ((with_reducible apply drwK.mk); (· kernel_rfl); (· first | rfl | (simp only [freeF, List.all_cons, List.all_nil, noRefH, OB.cells, refsL_fv, refsL_app]; rfl)))
    | fail)
  all_goals (try exact ([] : List Fp))
  · rw [htag, Bool.not_eq_true', decide_eq_false_iff_not] at hcond
    rw [if_pos hcond] at hf
    obtain ⟨e1, e2, e3⟩ := unw_bad hf (by decide)
    rw [e1, e2, e3, hf]
    exact .fun (.inl rfl) rfl rfl
  · rename_i hc
    rw [htag, Bool.not_eq_false', decide_eq_true_iff] at hc
    rw [if_neg (not_not_intro hc)] at hf
    have hd := bne_iff_ne.1 hcond
    obtain ⟨e1, e2, e3⟩ := unw_bad hf hd
    rw [e1, e2, e3, hf]
    exact .fun (.inl rfl) rfl rfl
  · rename_i hc
    rw [htag, Bool.not_eq_false', decide_eq_true_iff] at hc
    rw [if_neg (not_not_intro hc)] at hf
    have hd := bne_eq_false_iff_eq.1 hcond
    rw [hd] at hf
    have e1 : unwN bs = wat bs 2 := if_neg (by omega)
    have e2 : unwT bs = wat bs 4 := if_neg (by omega)
    have e3 : unwR bs = decR (bs.drop 6) := if_neg (by omega)
    rw [e1, e2, e3, hf]
    exact .fun (.inl rfl) rfl rfl
end Go.Proofs.Ytfgiehfiieecoaa
