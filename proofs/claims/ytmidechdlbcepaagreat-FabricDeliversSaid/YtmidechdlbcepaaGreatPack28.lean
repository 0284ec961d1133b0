import Derived.Test.YtmidechdlbcepaaGreatPack27
import Derived.Test.YtmidechdlbcepaaGreatPack26
import Derived.Test.YtmidechdlbcepaaGreatPack20
import Derived.Test.YtmidechdlbcepaaGreatPack21
import Derived.Test.YtmidechdlbcepaaGreatPack22
set_option linter.unusedSimpArgs false
set_option linter.unusedVariables false
namespace Go.Proofs.YtmidechdlbcepaaGreat
open Go.RowKit
set_option maxRecDepth 100000

def fr0 : Fr := ⟨0, 0, 0, 0, 0, 0, 0, ByteArray.empty⟩
def decFr (bs : List UInt8) : Fr := ⟨(wat bs 0 : Nat), (wat bs 2 : Nat), ((byteAt bs 4).toNat : Nat), (wat bs 6 : Nat), (wat bs 8 : Nat), ((byteAt bs 5).toNat : Nat), (wat bs 10 : Nat), ⟨((bs.drop 14).take (wat bs 12)).toArray⟩⟩
def decFault (bs : List UInt8) : Int := if bs.length < 16 then 5 else if 40 < wat bs 12 then 1 else if bs.length < 16 + wat bs 12 then 5 else if 16 + wat bs 12 < bs.length then 4
  else if wat bs (14 + wat bs 12) ≠ sumOf (bs.take (14 + wat bs 12)) then 10 else frameFault (decFr bs)
def decR (bs : List UInt8) : Fr := if decFault bs ≠ 0 then fr0 else decFr bs
theorem decR_bad {bs : List UInt8} {e : Int} (h : decFault bs = e) (he : e ≠ 0) : decR bs = fr0 := if_pos (by rw [h]; exact he)
set_option maxHeartbeats 4000000 in
theorem decode_T (bs : List UInt8) (k : Nat) (hk : k = bs.length) (hl : k ≤ 140737488355328) : Fun Tryz.prog 158 [.fv (.sl (bs.flatMap encB) k)] (.tup [.agg ((encFr (decR bs)).map .fv), .fv (.int .i64 (decFault bs))]) := by
  refine Fun.body tbl_ok Tryz.func158 rfl (by kernel_rfl) rfl rfl rfl ?_
  by_cases h1 : k < 16
  case pos =>
    have hf : decFault bs = 5 := if_pos (by omega)
    rw [decR_bad hf (by decide), hf]
    repeat' (first | refine X.loc ?_ | refine nx ?_ | refine X.cdT ?_ | refine X.cdF ?_ | (refine WP.condBit rfl ?_ ?_) | (refine WP.cond rfl ?_ ?_ <;> intro hcond) | refine rb ?_ | refine nd ?_ | refine dk ?_ | fail)
    exact .fun (.inl rfl) rfl rfl
  have h1' : ¬ bs.length < 16 := by omega
  have hf := (rfl : decFault bs = decFault bs)
  conv at hf => rhs; unfold decFault
  rw [if_neg h1'] at hf
  have c12 := at_T bs k 12 12 hk rfl (by omega) hl
  have hdec : decFr bs = ⟨(wat bs 0 : Nat), (wat bs 2 : Nat), ((byteAt bs 4).toNat : Nat), (wat bs 6 : Nat), (wat bs 8 : Nat), ((byteAt bs 5).toNat : Nat), (wat bs 10 : Nat), ⟨((bs.drop 14).take (wat bs 12)).toArray⟩⟩ := rfl
  have hdr : ¬ decFault bs ≠ 0 → decR bs = decFr bs := fun h => if_neg h
  have hn := wat_le bs 12
  generalize wat bs 12 = n at *
  by_cases h2 : 40 < n
  case pos =>
    rw [if_pos h2] at hf
    rw [decR_bad hf (by decide), hf]
    repeat' (first | (apply X.loE; (· exact aR); (· first | exact .callL rfl rfl rfl (c12) rfl | exact bl (c12))) | refine X.loc ?_ | refine nx ?_ | refine X.cdT ?_ | refine X.cdF ?_ | (refine WP.condBit rfl ?_ ?_) | (refine WP.cond rfl ?_ ?_ <;> intro hcond) | (apply X.gsE; (· exact aR); (· exact aV); (· exact aW); (· intro hc; first | exact .callG rfl rfl rfl (c12) rfl | exact bg (c12)); (· exact aR)) | refine rb ?_ | refine nd ?_ | refine dk ?_ | fail)
    exact .fun (.inl rfl) rfl rfl
  rw [if_neg h2] at hf
  by_cases h3 : bs.length < 16 + n
  case pos =>
    rw [if_pos h3] at hf
    rw [decR_bad hf (by decide), hf]
    repeat' (first | (apply X.loE; (· exact aR); (· first | exact .callL rfl rfl rfl (c12) rfl | exact bl (c12))) | refine X.loc ?_ | refine nx ?_ | refine X.cdT ?_ | refine X.cdF ?_ | (refine WP.condBit rfl ?_ ?_) | (refine WP.cond rfl ?_ ?_ <;> intro hcond) | (apply X.gsE; (· exact aR); (· exact aV); (· exact aW); (· intro hc; first | exact .callG rfl rfl rfl (c12) rfl | exact bg (c12)); (· exact aR)) | refine rb ?_ | refine nd ?_ | refine dk ?_ | fail)
    exact .fun (.inl rfl) rfl rfl
  rw [if_neg h3] at hf
  by_cases h4 : 16 + n < bs.length
  case pos =>
    rw [if_pos h4] at hf
    rw [decR_bad hf (by decide), hf]
    repeat' (first | (apply X.loE; (· exact aR); (· first | exact .callL rfl rfl rfl (c12) rfl | exact bl (c12))) | refine X.loc ?_ | refine nx ?_ | refine X.cdT ?_ | refine X.cdF ?_ | (refine WP.condBit rfl ?_ ?_) | (refine WP.cond rfl ?_ ?_ <;> intro hcond) | (apply X.gsE; (· exact aR); (· exact aV); (· exact aW); (· intro hc; first | exact .callG rfl rfl rfl (c12) rfl | exact bg (c12)); (· exact aR)) | refine rb ?_ | refine nd ?_ | refine dk ?_ | fail)
    exact .fun (.inl rfl) rfl rfl
  rw [if_neg h4] at hf
  have cn := at_T bs k (14 + n) (14 + (n : Int)) hk (by omega) (by omega) hl
  have cs := sum_T (bs.take (14 + n)) (14 + n) (by rw [List.length_take]; omega) (by omega)
  have c0 := at_T bs k 0 0 hk rfl (by omega) hl
  have c2 := at_T bs k 2 2 hk rfl (by omega) hl
  have c6 := at_T bs k 6 6 hk rfl (by omega) hl
  have c8 := at_T bs k 8 8 hk rfl (by omega) hl
  have c10 := at_T bs k 10 10 hk rfl (by omega) hl
  by_cases h5 : wat bs (14 + n) = sumOf (bs.take (14 + n))
  case neg =>
    rw [if_pos h5] at hf
    rw [decR_bad hf (by decide), hf]
    generalize sumOf (bs.take (14 + n)) = q at *
    generalize wat bs (14 + n) = q2 at *
    repeat' (first | (apply X.loE; (· exact aR); (· first | (exact .eff (.sliHB (14 + n) hk rfl rfl rfl (by omega) (by omega))) | exact .callL rfl rfl rfl (by first | exact c12 | exact cn | exact cs) rfl | exact bl (c12) | exact bl (cn) | exact bl (cs))) | refine X.loc ?_ | refine nx ?_ | refine X.cdT ?_ | refine X.cdF ?_ | (refine WP.condBit rfl ?_ ?_) | (refine WP.cond rfl ?_ ?_ <;> intro hcond) | (apply X.gsE; (· exact aR); (· exact aV); (· exact aW); (· intro hc; first | (exact .eff (.sliHB (14 + n) hk rfl rfl rfl (by omega) (by omega))) | exact .callG rfl rfl rfl (by first | exact c12 | exact cn | exact cs) rfl | exact bg (c12) | exact bg (cn) | exact bg (cs)); (· exact aR)) | refine rb ?_ | refine nd ?_ | refine dk ?_ | fail)
    exact .fun (.inl rfl) rfl rfl
  rw [if_neg (not_not_intro h5)] at hf
  have hck := wireCheck_T (decFr bs)
  generalize wat bs 0 = w0 at *
  generalize wat bs 2 = w2 at *
  generalize wat bs 6 = w6 at *
  generalize wat bs 8 = w8 at *
  generalize wat bs 10 = w10 at *
  generalize sumOf (bs.take (14 + n)) = q at *
  generalize wat bs (14 + n) = q2 at *
  subst h5
  rw [← hf, hdec] at hck
  repeat' (first | (apply X.loE; (· exact aR); (· first | (exact .eff (.sliHB (14 + n) hk rfl rfl rfl (by omega) (by omega))) | (exact .eff (.sliLHB 14 n hk rfl rfl rfl rfl rfl (by omega) (by omega))) | (exact .eff (.idxBI 4 hk rfl rfl rfl rfl (by omega))) | (exact .eff (.idxBI 5 hk rfl rfl rfl rfl (by omega))) | (exact .eff (.conv8 rfl rfl rfl)) | (exact .eff (.b2sB rfl rfl rfl rfl (by simp; omega))) | exact .callL rfl rfl rfl (by first | exact c12 | exact cn | exact cs | exact hck | exact c0 | exact c2 | exact c6 | exact c8 | exact c10) rfl | exact bl (c12) | exact bl (cn) | exact bl (cs) | exact bl (hck) | exact bl (c0) | exact bl (c2) | exact bl (c6) | exact bl (c8) | exact bl (c10))) | refine X.loc ?_ | refine nx ?_ | refine X.cdT ?_ | refine X.cdF ?_ | (refine WP.condBit rfl ?_ ?_) | (refine WP.cond rfl ?_ ?_ <;> intro hcond) | (apply X.gsE; (· exact aR); (· exact aV); (· exact aW); (· intro hc; first | (exact .eff (.sliHB (14 + n) hk rfl rfl rfl (by omega) (by omega))) | (exact .eff (.sliLHB 14 n hk rfl rfl rfl rfl rfl (by omega) (by omega))) | (exact .eff (.idxBI 4 hk rfl rfl rfl rfl (by omega))) | (exact .eff (.idxBI 5 hk rfl rfl rfl rfl (by omega))) | (exact .eff (.conv8 rfl rfl rfl)) | (exact .eff (.b2sB rfl rfl rfl rfl (by simp; omega))) | exact .callG rfl rfl rfl (by first | exact c12 | exact cn | exact cs | exact hck | exact c0 | exact c2 | exact c6 | exact c8 | exact c10) rfl | exact bg (c12) | exact bg (cn) | exact bg (cs) | exact bg (hck) | exact bg (c0) | exact bg (c2) | exact bg (c6) | exact bg (c8) | exact bg (c10)); (· exact aR)) | refine rb ?_ | refine nd ?_ | refine dk ?_ | fail)
  · rw [decR_bad rfl (bne_iff_ne.1 hcond)]
    exact .fun (.inl rfl) rfl rfl
  · have h0 : decFault bs = 0 := bne_eq_false_iff_eq.1 hcond
    rw [hdr (not_not_intro h0), h0, hdec]
    exact .fun (.inl rfl) rfl rfl
end Go.Proofs.YtmidechdlbcepaaGreat

namespace Go.Proofs.YtmidechdlbcepaaGreat
open Go.RowKit
set_option maxRecDepth 100000

def unwFault (bs : List UInt8) : Int := if bs.length < 6 then 5 else if ¬ (byteAt bs 0 = 100 ∧ byteAt bs 1 = 121) then 4 else decFault (bs.drop 6)
def unwN (bs : List UInt8) : Nat := if unwFault bs ≠ 0 then 0 else wat bs 2
def unwT (bs : List UInt8) : Nat := if unwFault bs ≠ 0 then 0 else wat bs 4
def unwR (bs : List UInt8) : Fr := if unwFault bs ≠ 0 then fr0 else decR (bs.drop 6)
theorem unw_bad {bs : List UInt8} {e : Int} (h : unwFault bs = e) (he : e ≠ 0) : unwN bs = 0 ∧ unwT bs = 0 ∧ unwR bs = fr0 := ⟨if_pos (by rw [h]; exact he), if_pos (by rw [h]; exact he), if_pos (by rw [h]; exact he)⟩
theorem u8_ne {a : UInt8} {n : Nat} (hn : n < 256) : ((a.toNat : Int) != (n : Int)) = !decide (a = UInt8.ofNat n) := by
  have h : ((a.toNat : Int) = (n : Int)) ↔ a = UInt8.ofNat n := by
    rw [← UInt8.toNat_inj, UInt8.toNat_ofNat']
    omega
  by_cases e : a = UInt8.ofNat n
  · rw [bne_eq_false_iff_eq.2 (h.2 e), decide_eq_true e]
    rfl
  · rw [bne_iff_ne.2 (fun x => e (h.1 x)), decide_eq_false e]
    rfl
theorem tag_bool (bs : List UInt8) : (((byteAt bs 0).toNat : Int) != 100 || ((byteAt bs 1).toNat : Int) != 121) = !decide (byteAt bs 0 = 100 ∧ byteAt bs 1 = 121) := by
  have v0 : (((byteAt bs 0).toNat : Int) != 100) = !decide (byteAt bs 0 = 100) := u8_ne (n := 100) (by omega)
  have v1 : (((byteAt bs 1).toNat : Int) != 121) = !decide (byteAt bs 1 = 121) := u8_ne (n := 121) (by omega)
  rw [v0, v1]
  by_cases h0 : byteAt bs 0 = 100 <;> by_cases h1 : byteAt bs 1 = 121 <;> simp [h0, h1]
set_option maxHeartbeats 4000000 in
theorem unwrap_T (bs : List UInt8) (k : Nat) (hk : k = bs.length) (hl : k ≤ 140737488355328) : Fun Tryz.prog 142 [.fv (.sl (bs.flatMap encB) k)] (.tup [.fv (.int .i64 (unwN bs : Nat)), .fv (.int .i64 (unwT bs : Nat)), .agg ((encFr (unwR bs)).map .fv), .fv (.int .i64 (unwFault bs))]) := by
  refine Fun.body tbl_ok Tryz.func142 rfl (by kernel_rfl) rfl rfl rfl ?_
  by_cases h1 : k < 6
  case pos =>
    have hf : unwFault bs = 5 := if_pos (by omega)
    obtain ⟨e1, e2, e3⟩ := unw_bad hf (by decide)
    rw [e1, e2, e3, hf]
    repeat' (first | refine X.loc ?_ | refine nx ?_ | refine X.cdT ?_ | refine X.cdF ?_ | (refine WP.condBit rfl ?_ ?_) | (refine WP.cond rfl ?_ ?_ <;> intro hcond) | refine rb ?_ | refine nd ?_ | refine dk ?_ | fail)
    exact .fun (.inl rfl) rfl rfl
  have h1' : ¬ bs.length < 6 := by omega
  have hf := (rfl : unwFault bs = unwFault bs)
  conv at hf => rhs; unfold unwFault
  rw [if_neg h1'] at hf
  have htag := tag_bool bs
  have c6 := decode_T (bs.drop 6) (k - 6) (by simp; omega) (by omega)
  have u2 := (byteAt bs 2).toNat_lt
  have u3 := (byteAt bs 3).toNat_lt
  have u4 := (byteAt bs 4).toNat_lt
  have u5 := (byteAt bs 5).toNat_lt
  repeat' (first | (apply X.loE; (· exact aR); (· first | (exact .eff (.idxBI 0 hk rfl rfl rfl rfl (by omega))) | (exact .eff (.idxBI 1 hk rfl rfl rfl rfl (by omega))) | (exact .eff (.idxBI 2 hk rfl rfl rfl rfl (by omega))) | (exact .eff (.idxBI 3 hk rfl rfl rfl rfl (by omega))) | (exact .eff (.idxBI 4 hk rfl rfl rfl rfl (by omega))) | (exact .eff (.idxBI 5 hk rfl rfl rfl rfl (by omega))) | (exact .eff (.sliLB 6 hk rfl rfl rfl rfl (by omega))) | (exact .eff (.conv8 rfl rfl rfl)) | (exact .eff (.shlB rfl rfl (by omega))) | (exact .eff (.orB rfl rfl (by omega) (by omega))) | exact .callL rfl rfl rfl (c6) rfl | exact bl (c6))) | refine X.loc ?_ | refine nx ?_ | refine X.cdT ?_ | refine X.cdF ?_ | (refine WP.condBit rfl ?_ ?_) | (refine WP.cond rfl ?_ ?_ <;> intro hcond) | (apply X.gsE; (· exact aR); (· exact aV); (· exact aW); (· intro hc; first | (exact .eff (.idxBI 0 hk rfl rfl rfl rfl (by omega))) | (exact .eff (.idxBI 1 hk rfl rfl rfl rfl (by omega))) | (exact .eff (.idxBI 2 hk rfl rfl rfl rfl (by omega))) | (exact .eff (.idxBI 3 hk rfl rfl rfl rfl (by omega))) | (exact .eff (.idxBI 4 hk rfl rfl rfl rfl (by omega))) | (exact .eff (.idxBI 5 hk rfl rfl rfl rfl (by omega))) | (exact .eff (.sliLB 6 hk rfl rfl rfl rfl (by omega))) | (exact .eff (.conv8 rfl rfl rfl)) | (exact .eff (.shlB rfl rfl (by omega))) | (exact .eff (.orB rfl rfl (by omega) (by omega))) | exact .callG rfl rfl rfl (c6) rfl | exact bg (c6)); (· exact aR)) | refine rb ?_ | refine nd ?_ | refine dk ?_ | fail)
  · rw [htag, Bool.not_eq_true', decide_eq_false_iff_not] at hcond
    rw [if_pos hcond] at hf
    obtain ⟨e1, e2, e3⟩ := unw_bad hf (by decide)
    rw [e1, e2, e3, hf]
    exact .fun (.inl rfl) rfl rfl
  · rename_i hc
    rw [htag, Bool.not_eq_false', decide_eq_true_iff] at hc
    rw [if_neg (not_not_intro hc)] at hf
    have hd := bne_iff_ne.1 hcond
    obtain ⟨e1, e2, e3⟩ := unw_bad hf hd
    rw [e1, e2, e3, hf]
    exact .fun (.inl rfl) rfl rfl
  · rename_i hc
    rw [htag, Bool.not_eq_false', decide_eq_true_iff] at hc
    rw [if_neg (not_not_intro hc)] at hf
    have hd := bne_eq_false_iff_eq.1 hcond
    rw [hd] at hf
    have e1 : unwN bs = wat bs 2 := if_neg (by omega)
    have e2 : unwT bs = wat bs 4 := if_neg (by omega)
    have e3 : unwR bs = decR (bs.drop 6) := if_neg (by omega)
    rw [e1, e2, e3, hf]
    exact .fun (.inl rfl) rfl rfl
end Go.Proofs.YtmidechdlbcepaaGreat

namespace Go.Proofs.YtmidechdlbcepaaGreat
open Go.RowKit
set_option maxRecDepth 100000

def wrapFault (n t : Int) (f : Fr) : Int := if ¬ (word n = true ∧ word t = true) then 2 else frameFault f
def wrapR (n t : Int) (f : Fr) : List UInt8 := if wrapFault n t f ≠ 0 then [] else [100, 121] ++ be n.toNat ++ be t.toNat ++ bytesF f
theorem nor_words {n t : Int} (h : (!word n || !word t) = true) : ¬ (word n = true ∧ word t = true) := by
  intro h2
  simp [h2.1, h2.2] at h
theorem and_words {n t : Int} (h : (!word n || !word t) = false) : word n = true ∧ word t = true := by
  simpa using h
set_option maxHeartbeats 4000000 in
theorem wrap0_T (n t : Int) (f : Fr) : FunO Tryz.prog 141 [.fv (.int .i64 n), .fv (.int .i64 t), .agg ((encFr f).map .fv)] [] (.tup [.osl 7, .fv (.int .i64 (wrapFault n t f))]) [(7, .row 5 1 (wrapR n t f).length (((wrapR n t f).flatMap encB).map .fv))] := by
  have h1 := wword_T n
  have h2 := wword_T t
  have h3 := encodeF_T f
  have hbl := bytesF_len f
  refine FunO.body tbl_ok Tryz.func141 rfl (by kernel_rfl) rfl rfl rfl ?_
  by_cases hw : wrapFault n t f = 0
  case neg =>
    have he : wrapR n t f = [] := if_pos hw
    rw [he]
    repeat' (first | (apply X.loE; (· exact aR); (· first | exact .callL rfl rfl rfl (by first | exact h1 | exact h2 | exact h3) rfl | exact bl (h1) | exact bl (h2) | exact bl (h3))) | refine X.loc ?_ | refine nx ?_ | (refine WP.condBit rfl ?_ ?_) | (refine WP.cond rfl ?_ ?_ <;> intro hcond) | (apply X.gsE; (· exact aR); (· exact aV); (· exact aW); (· intro hc; first | exact .callG rfl rfl rfl (by first | exact h1 | exact h2 | exact h3) rfl | exact bg (h1) | exact bg (h2) | exact bg (h3)); (· exact aR)) | refine rb ?_ | refine nd ?_ | refine dk ?_ | fail)
    · refine .ofO (s' := ⟨[(6, .osl 7), (7, .fv (.int .i64 (wrapFault n t f)))], [(7, .row 5 1 0 [])]⟩) (.inl rfl) ?_ rfl rfl rfl
      refine St.to [(7, .nil)] [] rfl rfl ?_ ?_ <;> (repeat' (first | exact tA | refine t1 ?_ | exact tB | refine t2 ?_ ?_ | refine t3 ?_ | refine t4 ?_ ?_ | refine .ofEq ?_ | refine OB.To.cut rfl rfl ?_ ?_ ?_ ?_ | refine OB.To.box rfl rfl ?_ | refine ⟨⟨_, rfl, ?_⟩, ?_⟩ | refine ⟨?_, ?_⟩ | fail))
      all_goals (rw [wrapFault, if_pos (nor_words hcond)])
    · refine .ofO (s' := ⟨[(6, .osl 7), (7, .fv (.int .i64 (wrapFault n t f)))], [(7, .row 5 1 0 [])]⟩) (.inl rfl) ?_ rfl rfl rfl
      refine St.to [(7, .nil)] [] rfl rfl ?_ ?_ <;> (repeat' (first | exact tA | refine t1 ?_ | exact tB | refine t2 ?_ ?_ | refine t3 ?_ | refine t4 ?_ ?_ | refine .ofEq ?_ | refine OB.To.cut rfl rfl ?_ ?_ ?_ ?_ | refine OB.To.box rfl rfl ?_ | refine ⟨⟨_, rfl, ?_⟩, ?_⟩ | refine ⟨?_, ?_⟩ | fail))
      rename_i hc1
      all_goals (rw [wrapFault, if_neg (not_not_intro (and_words hc1))])
    all_goals
      rename_i hc1
      exfalso
      rw [wrapFault, if_neg (not_not_intro (and_words hc1))] at hw
      exact hw (by simpa using hcond)
  case pos =>
    have hnt : word n = true ∧ word t = true := by
      by_cases h : word n = true ∧ word t = true
      · exact h
      · rw [wrapFault, if_pos h] at hw
        omega
    have hf : frameFault f = 0 := by rwa [wrapFault, if_neg (not_not_intro hnt)] at hw
    have he : encF f = bytesF f := if_neg (by omega)
    have he2 : wrapR n t f = [100, 121] ++ be n.toNat ++ be t.toNat ++ bytesF f := if_neg (by omega)
    have hm := (frMay hf).body
    rw [hnt.1] at h1
    rw [hnt.2] at h2
    rw [hf, he] at h3
    rw [hw, he2]
    obtain ⟨n1, rfl⟩ := Int.eq_ofNat_of_zero_le (word_iff.1 hnt.1).1
    obtain ⟨t1, rfl⟩ := Int.eq_ofNat_of_zero_le (word_iff.1 hnt.2).1
    have b1 := (word_iff.1 hnt.1).2
    have b2 := (word_iff.1 hnt.2).2
    generalize bytesF f = q at h3 hbl
    generalize hk : q.length = k at h3 hbl
    repeat' (first | (apply X.loE; (· exact aR); (· first | exact .callL rfl rfl rfl (by first | exact h1 | exact h2 | exact h3) rfl | exact bl (h1) | exact bl (h2) | exact bl (h3))) | refine X.loc ?_ | refine nx ?_ | refine X.cdT ?_ | refine X.cdF ?_ | (refine WP.condBit rfl ?_ ?_) | (refine WP.cond rfl ?_ ?_ <;> intro hcond) | (apply X.gsE; (· exact aR); (· exact aV); (· exact aW); (· intro hc; first | exact .callG rfl rfl rfl (by first | exact h1 | exact h2 | exact h3) rfl | exact bg (h1) | exact bg (h2) | exact bg (h3)); (· exact aR)) | refine rb ?_ | refine X.c0 (two_T [100, 121] 2 n1 rfl (by omega) (by omega)) ?_ | refine X.c0 (two_T ([100, 121] ++ be n1) 4 t1 rfl (by omega) (by omega)) ?_ | refine nd ?_ | refine dk ?_ | fail)
    refine .ofO (s' := ⟨[(6, .osl 7), (7, .fv (.int .i64 0))], [(7, .row 5 1 ([100, 121] ++ be n1 ++ be t1 ++ q).length ((([100, 121] ++ be n1 ++ be t1 ++ q).flatMap encB).map .fv))]⟩) (.inl rfl) ?_ rfl rfl rfl
    refine St.to [(7, .id 32)] [] rfl rfl ?_ ?_ <;> (repeat' (first | exact tA | refine t1 ?_ | exact tB | refine t2 ?_ ?_ | refine t3 ?_ | refine t4 ?_ ?_ | refine .ofEq ?_ | refine OB.To.cut rfl rfl ?_ ?_ ?_ ?_ | refine OB.To.box rfl rfl ?_ | refine ⟨⟨_, rfl, ?_⟩, ?_⟩ | refine ⟨?_, ?_⟩ | fail))
    · simp only [List.length_append, be, List.length_cons, List.length_nil, hk]
    · show List.map AV.fv [] ++ _ = _
      rfl
theorem wrap_T (n t : Int) (f : Fr) : Fun Tryz.prog 141 [.fv (.int .i64 n), .fv (.int .i64 t), .agg ((encFr f).map .fv)] (.tup [.fv (.sl ((wrapR n t f).flatMap encB) (wrapR n t f).length), .fv (.int .i64 (wrapFault n t f))]) :=
  FunO.froz [7] (wrap0_T n t f) (.tup (.cons (.frz rfl rfl rfl) (.cons (.le (.refl _) rfl) .nil)))
end Go.Proofs.YtmidechdlbcepaaGreat

namespace Go.Proofs.YtmidechdlbcepaaGreat

theorem byteAt_app2 {l m : List UInt8} {i : Nat} : byteAt (l ++ m) (l.length + i) = byteAt m i := by
  unfold byteAt; rw [List.getElem?_append_right (by omega), Nat.add_sub_cancel_left]
theorem be_two {n : Nat} (h : n ≤ 65535) : 256 * (UInt8.ofNat (n / 256)).toNat + (UInt8.ofNat n).toNat = n := by
  rw [UInt8.toNat_ofNat', UInt8.toNat_ofNat']
  omega
theorem decFr_eq {n0 n1 n2 n3 n4 n5 n6 : Nat} {s : ByteArray} (h0 : n0 ≤ 65535) (h1 : n1 ≤ 65535) (h2 : n2 ≤ 255) (h3 : n3 ≤ 65535) (h4 : n4 ≤ 65535) (h5 : n5 ≤ 255) (h6 : n6 ≤ 65535) (hs : s.size ≤ 40) (z : List UInt8) :
    decFr (headF ⟨n0, n1, n2, n3, n4, n5, n6, s⟩ ++ z) = ⟨n0, n1, n2, n3, n4, n5, n6, s⟩ ∧ wat (headF ⟨n0, n1, n2, n3, n4, n5, n6, s⟩ ++ z) 12 = s.size := by
  have e : headF ⟨n0, n1, n2, n3, n4, n5, n6, s⟩ ++ z = [UInt8.ofNat (n0 / 256), UInt8.ofNat n0, UInt8.ofNat (n1 / 256), UInt8.ofNat n1, UInt8.ofNat n2, UInt8.ofNat n5, UInt8.ofNat (n3 / 256), UInt8.ofNat n3, UInt8.ofNat (n4 / 256), UInt8.ofNat n4, UInt8.ofNat (n6 / 256), UInt8.ofNat n6, 0, UInt8.ofNat s.size] ++ (s.data.toList ++ z) := by
    simp only [headF, be, Int.toNat_natCast, List.append_assoc]
    rfl
  have e1 : wat (headF ⟨n0, n1, n2, n3, n4, n5, n6, s⟩ ++ z) 12 = s.size := by
    rw [e]
    show 256 * (0 : UInt8).toNat + (UInt8.ofNat s.size).toNat = _
    rw [UInt8.toNat_ofNat']
    simp
    omega
  refine ⟨?_, e1⟩
  unfold decFr
  rw [e1, e]
  have es : (⟨(((([UInt8.ofNat (n0 / 256), UInt8.ofNat n0, UInt8.ofNat (n1 / 256), UInt8.ofNat n1, UInt8.ofNat n2, UInt8.ofNat n5, UInt8.ofNat (n3 / 256), UInt8.ofNat n3, UInt8.ofNat (n4 / 256), UInt8.ofNat n4, UInt8.ofNat (n6 / 256), UInt8.ofNat n6, 0, UInt8.ofNat s.size] ++ (s.data.toList ++ z)).drop 14).take s.size).toArray)⟩ : ByteArray) = s := by
    show (⟨((s.data.toList ++ z).take s.size).toArray⟩ : ByteArray) = s
    rw [List.take_left' (by rw [Array.length_toList]; rfl), Array.toArray_toList]
  rw [es]
  congr 1
  · show ((256 * (UInt8.ofNat (n0 / 256)).toNat + (UInt8.ofNat n0).toNat : Nat) : Int) = _
    rw [be_two h0]
  · show ((256 * (UInt8.ofNat (n1 / 256)).toNat + (UInt8.ofNat n1).toNat : Nat) : Int) = _
    rw [be_two h1]
  · show (((UInt8.ofNat n2).toNat : Nat) : Int) = _
    rw [UInt8.toNat_ofNat']
    omega
  · show ((256 * (UInt8.ofNat (n3 / 256)).toNat + (UInt8.ofNat n3).toNat : Nat) : Int) = _
    rw [be_two h3]
  · show ((256 * (UInt8.ofNat (n4 / 256)).toNat + (UInt8.ofNat n4).toNat : Nat) : Int) = _
    rw [be_two h4]
  · show (((UInt8.ofNat n5).toNat : Nat) : Int) = _
    rw [UInt8.toNat_ofNat']
    omega
  · show ((256 * (UInt8.ofNat (n6 / 256)).toNat + (UInt8.ofNat n6).toNat : Nat) : Int) = _
    rw [be_two h6]
theorem decFr_of {f : Fr} (h : frameFault f = 0) (z : List UInt8) : decFr (headF f ++ z) = f ∧ wat (headF f ++ z) 12 = f.body.size ∧ f.body.size ≤ 40 := by
  have hm := frMay h
  have hs := hm.body
  obtain ⟨n0, n1, n2, n3, n4, n5, n6, e, h0, h1, h2, h3, h4, h5, h6⟩ := fr_nat hm
  obtain ⟨a, b⟩ := decFr_eq h0 h1 h2 h3 h4 h5 h6 hs z
  rw [← e] at a b
  exact ⟨a, b, hs⟩
theorem dec_enc {f : Fr} (h : frameFault f = 0) : decFault (bytesF f) = 0 ∧ decR (bytesF f) = f := by
  obtain ⟨e1, e2, hs⟩ := decFr_of h (be (sumOf (headF f)))
  have hl := bytesF_len f
  have e3 : wat (bytesF f) (14 + f.body.size) = sumOf (headF f) := by
    rw [bytesF, ← headF_len f]
    unfold wat
    rw [byteAt_app2 (i := 1), ← Nat.add_zero (headF f).length, byteAt_app2 (i := 0)]
    exact be_two (sumOf_le _)
  have e4 : (bytesF f).take (14 + f.body.size) = headF f := by
    rw [bytesF, ← headF_len f, List.take_left']
    rfl
  have e0 : decFault (bytesF f) = 0 := by
    rw [decFault, show wat (bytesF f) 12 = f.body.size from e2, if_neg (by omega), if_neg (by omega), if_neg (by omega), if_neg (by omega), e3, e4, if_neg (by simp), show decFr (bytesF f) = f from e1, h]
  exact ⟨e0, by rw [decR, if_neg (by rw [e0]; simp)]; exact e1⟩
theorem unw_wrap {f : Fr} (h : frameFault f = 0) {n t : Nat} (hn : n ≤ 65535) (ht : t ≤ 65535) : wrapFault n t f = 0 ∧ unwFault (wrapR n t f) = 0 ∧ unwN (wrapR n t f) = n ∧ unwT (wrapR n t f) = t ∧ unwR (wrapR n t f) = f ∧ (wrapR n t f).length = 22 + f.body.size := by
  have hw : wrapFault n t f = 0 := by
    rw [wrapFault, if_neg, h]
    simp only [Decidable.not_not]
    exact ⟨word_iff.2 (by omega), word_iff.2 (by omega)⟩
  have hl := bytesF_len f
  have hr : wrapR n t f = [100, 121, UInt8.ofNat (n / 256), UInt8.ofNat n, UInt8.ofNat (t / 256), UInt8.ofNat t] ++ bytesF f := by
    rw [wrapR, if_neg (by rw [hw]; simp)]
    rfl
  obtain ⟨d1, d2⟩ := dec_enc h
  have hd : (wrapR n t f).drop 6 = bytesF f := by rw [hr]; rfl
  have hlw : (wrapR n t f).length = 22 + f.body.size := by rw [hr, List.length_append, hl]; simp; omega
  have h0 : unwFault (wrapR n t f) = 0 := by
    rw [unwFault, if_neg (by omega), hd, d1, hr, if_neg]
    simp only [Decidable.not_not]
    exact ⟨rfl, rfl⟩
  refine ⟨hw, h0, ?_, ?_, ?_, hlw⟩
  · rw [unwN, if_neg (by rw [h0]; simp), hr]
    exact be_two hn
  · rw [unwT, if_neg (by rw [h0]; simp), hr]
    exact be_two ht
  · rw [unwR, if_neg (by rw [h0]; simp), hd, d2]
end Go.Proofs.YtmidechdlbcepaaGreat

namespace Go.Proofs.YtmidechdlbcepaaGreat
open Go.RowKit
set_option maxRecDepth 100000

end Go.Proofs.YtmidechdlbcepaaGreat

namespace Go.Proofs.YtmidechdlbcepaaGreat
open Go.RowKit
set_option maxRecDepth 100000

theorem portOf_T (c : Cf) (n : Int) (hl : c.Small) : Fun Tryz.prog 48 [.agg ((encCf c).map .fv), .fv (.int .i64 n)] (.tup [.agg ((encPo ((c.ps.find? fun p => p.id == n).getD po0)).map .fv), .fv (.bool (c.ps.any fun p => p.id == n))]) := by
  have hl2 := hl.2.1
  refine Fun.body tbl_ok Tryz.func48 rfl (by kernel_rfl) rfl rfl rfl ?_
  repeat' (first | refine X.loc ?_ | refine nx ?_ | (refine WP.condBit rfl ?_ ?_) | (refine WP.cond rfl ?_ ?_ <;> intro hcond) | refine rb ?_ | refine nd ?_ | refine dk ?_ | fail)
  refine WP.loop (ι := Nat) (fun k => ⟨[(1, .fv (.int .i64 n)), (2, .optr 2 0), (4, .optr 4 0), (6, .fv (.int .i64 k))], [(2, .box 26 ((encCf c).map .fv)), (4, .box 69 ((encPo po0).map .fv))]⟩) (fun k => k ≤ c.ps.length ∧ ∀ p ∈ c.ps.take k, (p.id == n) = false) (fun k => c.ps.length - k) 0 ⟨by omega, by simp⟩ ?_ ?_
  · skip
    refine St.to [] [] rfl rfl ?_ ?_ <;> (repeat' (first | exact tA | refine t1 ?_ | exact tB | refine t2 ?_ ?_ | refine t3 ?_ | refine t4 ?_ ?_ | refine .ofEq ?_ | refine OB.To.cut rfl rfl ?_ ?_ ?_ ?_ | refine OB.To.box rfl rfl ?_ | refine ⟨⟨_, rfl, ?_⟩, ?_⟩ | refine ⟨?_, ?_⟩ | fail))
  rintro k ⟨hk, hd⟩
  try dsimp only
  by_cases hlt : k < c.ps.length
  case neg =>
    rw [List.take_of_length_le (by omega)] at hd
    have e1 : (c.ps.find? fun p => p.id == n) = none := List.find?_eq_none.2 fun p hp => by simpa using hd p hp
    have e2 : (c.ps.any fun p => p.id == n) = false := List.any_eq_false.2 fun p hp => by simpa using hd p hp
    rw [e1, e2]
    repeat' (first | refine X.loc ?_ | refine nx ?_ | refine X.cdT ?_ | refine X.cdF ?_ | (refine WP.condBit rfl ?_ ?_) | (refine WP.cond rfl ?_ ?_ <;> intro hcond) | refine rb ?_ | refine nd ?_ | refine dk ?_ | fail)
    exact .fun (.inl rfl) rfl rfl
  case pos =>
    obtain ⟨x, hx⟩ : ∃ x, c.ps[k]? = some x := ⟨_, List.getElem?_eq_getElem hlt⟩
    by_cases hxn : x.id = n
    · have e1 : (c.ps.find? fun p => p.id == n) = some x := by
        rw [List.find?_eq_some_iff_append]
        refine ⟨by simpa using hxn, c.ps.take k, c.ps.drop (k + 1), ?_, fun p hp => by simpa using hd p hp⟩
        rw [← drop_at hx, List.take_append_drop]
      have e2 : (c.ps.any fun p => p.id == n) = true := List.any_eq_true.2 ⟨x, List.mem_of_getElem? hx, by simpa using hxn⟩
      rw [e1, e2]
      repeat' (first | (apply X.loE; (· exact aR); (· first | (exact .eff (.idxS rfl rfl rfl encPo_len hx)))) | refine X.loc ?_ | refine nx ?_ | refine X.cdT ?_ | refine X.cdF ?_ | (refine WP.condBit rfl ?_ ?_) | (refine WP.cond rfl ?_ ?_ <;> intro hcond) | (apply X.gsE; (· exact aR); (· exact aV); (· exact aW); (· intro hc; first | (exact .eff (.idxS rfl rfl rfl encPo_len hx))); (· exact aR)) | refine rb ?_ | refine nd ?_ | refine dk ?_ | fail)
      exact .fun (.inl rfl) rfl rfl
    · skip
      repeat' (first | (apply X.loE; (· exact aR); (· first | (exact .eff (.idxS rfl rfl rfl encPo_len hx)))) | refine X.loc ?_ | refine nx ?_ | refine X.cdT ?_ | refine X.cdF ?_ | (refine WP.condBit rfl ?_ ?_) | (refine WP.cond rfl ?_ ?_ <;> intro hcond) | (apply X.gsE; (· exact aR); (· exact aV); (· exact aW); (· intro hc; first | (exact .eff (.idxS rfl rfl rfl encPo_len hx))); (· exact aR)) | refine rb ?_ | refine nd ?_ | refine dk ?_ | fail)
      refine ⟨k + 1, ⟨by omega, ?_⟩, by omega, ?_⟩
      · rw [List.take_add_one, hx]
        intro p hp
        simp at hp
        rcases hp with hp | rfl
        · exact hd p hp
        · simpa using hxn
      · skip
        refine St.to [] [] rfl rfl ?_ ?_ <;> (repeat' (first | exact tA | refine t1 ?_ | exact tB | refine t2 ?_ ?_ | refine t3 ?_ | refine t4 ?_ ?_ | refine .ofEq ?_ | refine OB.To.cut rfl rfl ?_ ?_ ?_ ?_ | refine OB.To.box rfl rfl ?_ | refine ⟨⟨_, rfl, ?_⟩, ?_⟩ | refine ⟨?_, ?_⟩ | fail))
end Go.Proofs.YtmidechdlbcepaaGreat

namespace Go.Proofs.YtmidechdlbcepaaGreat
open Go.RowKit
set_option maxRecDepth 100000

theorem prioA_getD {l : List Ac} {i : Int} (h : 0 ≤ i ∧ i < l.length) : prioA l i = (l.getD i.toNat ac0).prio := by
  obtain ⟨n, rfl⟩ := Int.eq_ofNat_of_zero_le h.1
  have hlt : n < l.length := by omega
  unfold prioA
  simp [List.getElem?_eq_getElem hlt]
theorem bstA_bd {l : List Ac} {q : Ac → Bool} {k : Nat} (hk : k ≤ l.length) : -1 ≤ bstA l q k ∧ (0 ≤ bstA l q k → 0 ≤ bstA l q k ∧ bstA l q k < l.length) := by
  rcases bstA_is l q k hk with ⟨h1, _⟩ | ⟨n, g, h1, _, h2, _⟩
  · omega
  · omega
def asksB (net : Int) (inn : Bool) (src dst port : Int) (a : Ac) : Bool := (a.inn == inn) && ruleFit net src dst port a
theorem allow_best (c : Cf) (net : Int) (inn : Bool) (src dst port : Int) : allowB c net inn src dst port = (decide (bstA c.acs (asksB net inn src dst port) c.acs.length < 0) || !(c.acs.getD (bstA c.acs (asksB net inn src dst port) c.acs.length).toNat ac0).deny) := by
  have h := bstA_is c.acs (asksB net inn src dst port) c.acs.length (Nat.le_refl _)
  have hb := (bstA_bd (q := asksB net inn src dst port) (Nat.le_refl c.acs.length)).2
  have hf := best_find (l := c.acs) (q1 := fun a => a.inn == inn) (q2 := ruleFit net src dst port) h
  have e : c.acs.filter (fun a => a.inn == inn) = ofKind c inn := rfl
  rw [e] at hf
  unfold allowB
  rw [hf]
  generalize bstA c.acs (asksB net inn src dst port) c.acs.length = i at *
  by_cases hi : i < 0
  · rw [if_pos hi, decide_eq_true hi]
    rfl
  · rw [if_neg hi, decide_eq_false hi, Bool.false_or]
    have := hb (by omega)
    obtain ⟨n, rfl⟩ := Int.eq_ofNat_of_zero_le this.1
    have hlt : n < c.acs.length := by omega
    simp [List.getElem?_eq_getElem hlt]
theorem asks_not {net : Int} {inn : Bool} {src dst port : Int} {a : Ac} : (!asksB net inn src dst port a) = ((((a.sw != net || !(a.inn == inn)) || src / unitOf a.srcBits != a.src / unitOf a.srcBits) || dst / unitOf a.dstBits != a.dst / unitOf a.dstBits) || (decide (a.port ≥ 0) && (a.port != port))) := by
  unfold asksB ruleFit
  have hp : (!decide (a.port < 0)) = decide (a.port ≥ 0) := by
    by_cases h : a.port < 0
    · rw [decide_eq_true h, decide_eq_false (by omega)]; rfl
    · rw [decide_eq_false h, decide_eq_true (by omega)]; rfl
  simp only [Bool.not_and, Bool.not_or, hp, bne]
  cases (a.inn == inn) <;> cases (a.sw == net) <;> simp [Bool.or_assoc]
set_option maxHeartbeats 8000000 in
theorem allows_T (c : Cf) (hc : CfOk c) (net : Int) (inn : Bool) (f : Fr) (hf : FrMay f) : Fun Tryz.prog 111 [.agg ((encCf c).map .fv), .fv (.int .i64 net), .fv (.bool inn), .agg ((encFr f).map .fv)] (.fv (.bool (allowB c net inn f.ipSrc f.ipDst f.port))) := by
  have hal := hc.al
  have hs := hf.ipSrc
  have hd := hf.ipDst
  refine Fun.body tbl_ok Tryz.func111 rfl (by kernel_rfl) rfl rfl rfl ?_
  repeat' (first | refine X.loc ?_ | refine nx ?_ | refine X.cdT ?_ | refine X.cdF ?_ | (refine WP.condBit rfl ?_ ?_) | (refine WP.cond rfl ?_ ?_ <;> intro hcond) | refine rb ?_ | refine nd ?_ | refine dk ?_ | fail)
  refine WP.loop (ι := Nat) (fun k => ⟨[(1, .fv (.int .i64 net)), (2, .fv (.bool inn)), (4, .optr 4 0), (7, .optr 7 0), (9, .fv (.int .i64 (bstA c.acs (asksB net inn f.ipSrc f.ipDst f.port) k))), (10, .fv (.int .i64 k))], [(4, .box 26 ((encCf c).map .fv)), (7, .box 28 ((encFr f).map .fv))]⟩) (fun k => k ≤ c.acs.length) (fun k => c.acs.length - k) 0 (by omega) ?_ ?_
  · skip
    refine St.to [] [] rfl rfl ?_ ?_ <;> (repeat' (first | exact tA | refine t1 ?_ | exact tB | refine t2 ?_ ?_ | refine t3 ?_ | refine t4 ?_ ?_ | refine .ofEq ?_ | refine OB.To.cut rfl rfl ?_ ?_ ?_ ?_ | refine OB.To.box rfl rfl ?_ | refine ⟨⟨_, rfl, ?_⟩, ?_⟩ | refine ⟨?_, ?_⟩ | fail))
  rintro k hk
  try dsimp only
  obtain ⟨hb1, hb2⟩ := bstA_bd (q := asksB net inn f.ipSrc f.ipDst f.port) hk
  by_cases hlt : k < c.acs.length
  case neg =>
    have hkl : k = c.acs.length := by omega
    rw [hkl] at hb1 hb2 ⊢
    rw [allow_best]
    generalize bstA c.acs (asksB net inn f.ipSrc f.ipDst f.port) c.acs.length = i at *
    repeat' (first | (apply X.loE; (· exact aR); (· first | (exact .eff (.idxD ac0 rfl rfl rfl encAc_len (hb2 (by have := hc; simp at this; omega)))))) | refine X.loc ?_ | refine nx ?_ | refine X.cdT ?_ | refine X.cdF ?_ | (refine WP.condBit rfl ?_ ?_) | (refine WP.cond rfl ?_ ?_ <;> intro hcond) | (apply X.gsE; (· exact aR); (· exact aV); (· exact aW); (· intro hc; first | (exact .eff (.idxD ac0 rfl rfl rfl encAc_len (hb2 (by have := hc; simp at this; omega))))); (· exact aR)) | refine rb ?_ | refine nd ?_ | refine dk ?_ | fail)
    exact .f1 (.inl rfl) rfl rfl
  case pos =>
    obtain ⟨x, hx⟩ : ∃ x, c.acs[k]? = some x := ⟨_, List.getElem?_eq_getElem hlt⟩
    obtain ⟨⟨⟨_, g1, g2, g3, g4, _⟩, _⟩, _⟩ := hc.ar x (List.mem_of_getElem? hx)
    obtain ⟨sb, hsb⟩ := Int.eq_ofNat_of_zero_le g3.1
    obtain ⟨db, hdb⟩ := Int.eq_ofNat_of_zero_le g4.1
    have m1 := unit_T sb (by omega)
    have m2 := unit_T db (by omega)
    rw [← hsb] at m1
    rw [← hdb] at m2
    have p1 : 0 < unitOf x.srcBits := by unfold unitOf; exact Int.pow_pos (by omega)
    have p2 : 0 < unitOf x.dstBits := by unfold unitOf; exact Int.pow_pos (by omega)
    have hst : bstA c.acs (asksB net inn f.ipSrc f.ipDst f.port) (k + 1) = if (asksB net inn f.ipSrc f.ipDst f.port x && (decide (bstA c.acs (asksB net inn f.ipSrc f.ipDst f.port) k < 0) || decide (x.prio > (c.acs.getD (bstA c.acs (asksB net inn f.ipSrc f.ipDst f.port) k).toNat ac0).prio))) = true then (k : Int) else bstA c.acs (asksB net inn f.ipSrc f.ipDst f.port) k := by
      simp only [bstA, hx]
      generalize bstA c.acs (asksB net inn f.ipSrc f.ipDst f.port) k = i at hb1 hb2 ⊢
      rcases Int.lt_or_le i 0 with h | h
      · simp [h]
      · rw [prioA_getD (hb2 h)]
    generalize bstA c.acs (asksB net inn f.ipSrc f.ipDst f.port) k = i at *
    repeat' (first | (apply X.loE; (· exact aR); (· first | (exact .eff (.idxS rfl rfl rfl encAc_len hx)) | (exact .eff (.idxD ac0 rfl rfl rfl encAc_len (hb2 (by have := hc; simp at this; omega)))) | exact .callL rfl rfl rfl (by first | exact m1 | exact m2) rfl | exact bl (m1) | exact bl (m2))) | refine X.loc ?_ | refine nx ?_ | (refine WP.condBit rfl ?_ ?_) | (refine WP.cond rfl ?_ ?_ <;> intro hcond) | (apply X.gsE; (· exact aR); (· exact aV); (· exact aW); (· intro hc; first | (exact .eff (.idxS rfl rfl rfl encAc_len hx)) | (exact .eff (.idxD ac0 rfl rfl rfl encAc_len (hb2 (by have := hc; simp at this; omega)))) | exact .callG rfl rfl rfl (by first | exact m1 | exact m2) rfl | exact bg (m1) | exact bg (m2)); (· exact aR)) | refine rb ?_ | refine nd ?_ | refine dk ?_ | fail)
    · have e : (!asksB net inn f.ipSrc f.ipDst f.port x) = true := asks_not.trans hcond
      refine ⟨k + 1, by omega, by omega, ?_⟩
      try dsimp only
      rw [hst, if_neg (fun h => by rw [Bool.and_eq_true] at h; rw [h.1] at e; cases e)]
      refine St.to [] [] rfl rfl ?_ ?_ <;> (repeat' (first | exact tA | refine t1 ?_ | exact tB | refine t2 ?_ ?_ | refine t3 ?_ | refine t4 ?_ ?_ | refine .ofEq ?_ | refine OB.To.cut rfl rfl ?_ ?_ ?_ ?_ | refine OB.To.box rfl rfl ?_ | refine ⟨⟨_, rfl, ?_⟩, ?_⟩ | refine ⟨?_, ?_⟩ | fail))
    · rename_i h1
      have e : (!asksB net inn f.ipSrc f.ipDst f.port x) = false := asks_not.trans h1
      refine ⟨k + 1, by omega, by omega, ?_⟩
      try dsimp only
      rw [hst, if_pos (by rw [Bool.and_eq_true]; exact ⟨by simpa using e, hcond⟩)]
      refine St.to [] [] rfl rfl ?_ ?_ <;> (repeat' (first | exact tA | refine t1 ?_ | exact tB | refine t2 ?_ ?_ | refine t3 ?_ | refine t4 ?_ ?_ | refine .ofEq ?_ | refine OB.To.cut rfl rfl ?_ ?_ ?_ ?_ | refine OB.To.box rfl rfl ?_ | refine ⟨⟨_, rfl, ?_⟩, ?_⟩ | refine ⟨?_, ?_⟩ | fail))
    · rename_i h1
      refine ⟨k + 1, by omega, by omega, ?_⟩
      try dsimp only
      rw [hst, if_neg (fun h => by rw [Bool.and_eq_true] at h; rw [hcond] at h; cases h.2)]
      refine St.to [] [] rfl rfl ?_ ?_ <;> (repeat' (first | exact tA | refine t1 ?_ | exact tB | refine t2 ?_ ?_ | refine t3 ?_ | refine t4 ?_ ?_ | refine .ofEq ?_ | refine OB.To.cut rfl rfl ?_ ?_ ?_ ?_ | refine OB.To.box rfl rfl ?_ | refine ⟨⟨_, rfl, ?_⟩, ?_⟩ | refine ⟨?_, ?_⟩ | fail))
    · exfalso
      simp at hcond
      omega
end Go.Proofs.YtmidechdlbcepaaGreat

namespace Go.Proofs.YtmidechdlbcepaaGreat
open Go.ChangeShapes Go.WideShapes Go.ChangeAt Go.RowKit Go.Deep
set_option maxRecDepth 100000

section
variable {H : Type} {enc : TypeId × Value → H} {P : Program} {w : World} {base : Nat} {spare : Nat → Bool} {held : Bool} {Cl : TypeId → DataW H → Prop}
theorem sw_rep {cs : List Value} (h : AllOk enc P w base spare held Cl swLeaves cs) : ∃ x : Sw, x.Ok ∧ RepF w (encSw x) cs := by
  obtain ⟨x, rfl, hx⟩ := sw_of_ok h
  exact ⟨x, hx, fun _ => ⟨rfl, rfl, rfl, trivial⟩⟩
theorem po_rep {cs : List Value} (h : AllOk enc P w base spare held Cl poLeaves cs) : ∃ x : Po, x.Ok ∧ RepF w (encPo x) cs := by
  obtain ⟨x, rfl, hx⟩ := po_of_ok h
  exact ⟨x, hx, fun _ => ⟨rfl, rfl, rfl, rfl, rfl, trivial⟩⟩
theorem ac_rep {cs : List Value} (h : AllOk enc P w base spare held Cl acLeaves cs) : ∃ x : Ac, x.Ok ∧ RepF w (encAc x) cs := by
  obtain ⟨x, rfl, hx⟩ := ac_of_ok h
  exact ⟨x, hx, fun _ => ⟨rfl, rfl, rfl, rfl, rfl, rfl, rfl, rfl, rfl, trivial⟩⟩
theorem small_of {c : Cf} (h0 : c.ss.length * 24 ≤ reachBytes) (h1 : c.ps.length * 40 ≤ reachBytes) (h2 : c.acs.length * 72 ≤ reachBytes) : c.Small := by
  have h0 := reach_le h0
  have h1 := reach_le h1
  have h2 := reach_le h2
  exact ⟨by omega, by omega, by omega⟩
theorem open_cf {r : Reach} {b0 : Nat} {v : Value} {d : DataW H} {p : List MemPlace} (hv : Value.okWide Tryz.prog w r b0 26 v) (h : DataW.Trod enc Tryz.prog w base spare held 26 v d p) (hs : SizedCl Tryz.prog 26 d) :
    ∃ c : Cf, c.Ok ∧ c.Small ∧ c.ss.length * 24 ≤ reachBytes ∧ c.ps.length * 40 ≤ reachBytes ∧ c.acs.length * 72 ≤ reachBytes ∧ ∃ cs : List Value, v = .agg cs.toArray ∧ RepF w (encCf c) cs := by
  obtain ⟨cs, rfl, hcs⟩ := open_struct_c closed_sized Tryz.underlying26 conf_leaves hv h hs
  match cs, hcs with
  | [v0, v1, v2], ⟨l0, l1, l2, _⟩ =>
    obtain ⟨ss, a1, a2, a3⟩ := open_sl Tryz.underlying22 sw_leaves sw_cellsOf rfl (by omega) sw_bytes (fun _ h => sw_rep h) l0
    obtain ⟨ps, b1, b2, b3⟩ := open_sl Tryz.underlying23 po_leaves po_cellsOf rfl (by omega) po_bytes (fun _ h => po_rep h) l1
    obtain ⟨acs, c1, c2, c3⟩ := open_sl Tryz.underlying24 ac_leaves ac_cellsOf rfl (by omega) ac_bytes (fun _ h => ac_rep h) l2
    exact ⟨⟨ss, ps, acs⟩, ⟨a1, b1, c1⟩, small_of a2 b2 c2, a2, b2, c2, _, rfl, repF_cons a3 (repF_cons b3 (repF_cons c3 repF_nil))⟩
theorem rep_agg {σ : Nat → Value} {fs : List FV} {cs : List Value} (h : RepF w fs cs) : (AV.agg (fs.map .fv)).Rep σ (fun b => b < w.heap.size) w (.agg cs.toArray) := ⟨_, rfl, by simpa using h σ⟩
end
end Go.Proofs.YtmidechdlbcepaaGreat
