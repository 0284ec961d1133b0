import Derived.Test.YtmidechdlbcepaaGreatPack35
import Derived.Test.YtmidechdlbcepaaGreatPack33
import Derived.Test.YtmidechdlbcepaaGreatPack28
import Derived.Test.YtmidechdlbcepaaGreatPack26
import Derived.Test.YtmidechdlbcepaaGreatPack25
import Derived.Test.YtmidechdlbcepaaGreatPack34
set_option linter.unusedSimpArgs false
set_option linter.unusedVariables false
namespace Go.Proofs.YtmidechdlbcepaaGreat
open Go.RowKit
set_option maxRecDepth 100000
def fr0 : Fr := ⟨0, 0, 0, 0, 0, 0, 0, ByteArray.empty⟩
def decFr (bs : List UInt8) : Fr := ⟨(wat bs 0 : Nat), (wat bs 2 : Nat), ((byteAt bs 4).toNat : Nat), (wat bs 6 : Nat), (wat bs 8 : Nat), ((byteAt bs 5).toNat : Nat), (wat bs 10 : Nat), ⟨((bs.drop 14).take (wat bs 12)).toArray⟩⟩
def decFault (bs : List UInt8) : Int := if bs.length < 16 then 5 else if 40 < wat bs 12 then 1 else if bs.length < 16 + wat bs 12 then 5 else if 16 + wat bs 12 < bs.length then 4
  else if wat bs (14 + wat bs 12) ≠ sumOf (bs.take (14 + wat bs 12)) then 10 else frameFault (decFr bs)
def decR (bs : List UInt8) : Fr := if decFault bs ≠ 0 then fr0 else decFr bs
theorem decR_bad {bs : List UInt8} {e : Int} (h : decFault bs = e) (he : e ≠ 0) : decR bs = fr0 := if_pos (by rw [h]; exact he)
set_option maxHeartbeats 4000000 in
theorem decode_T (bs : List UInt8) (k : Nat) (hk : k = bs.length) (hl : k ≤ 140737488355328) : Fun Tryz.prog 158 [.fv (.sl (bs.flatMap encB) k)] (.tup [.agg ((encFr (decR bs)).map .fv), .fv (.int .i64 (decFault bs))]) := by
  refine Fun.body tbl_ok Tryz.func158 rfl (by kernel_rfl) rfl rfl rfl ?_
  by_cases h1 : k < 16
  case pos =>
    have hf : decFault bs = 5 := if_pos (by omega)
    rw [decR_bad hf (by decide), hf]
    repeat' (first | refine X.loc ?_ | refine nx ?_ | refine X.cdT ?_ | refine X.cdF ?_ | refine cb ?_ ?_ | (refine cc ?_ ?_ <;> intro hcond) | refine rb ?_ | refine nd ?_ | refine dk ?_ | fail)
    exact .fun (.inl rfl) rfl rfl
  have h1' : ¬ bs.length < 16 := by omega
  have hf := (rfl : decFault bs = decFault bs)
  conv at hf => rhs; unfold decFault
  rw [if_neg h1'] at hf
  have c12 := at_T bs k 12 12 hk rfl (by omega) hl
  have hdec : decFr bs = ⟨(wat bs 0 : Nat), (wat bs 2 : Nat), ((byteAt bs 4).toNat : Nat), (wat bs 6 : Nat), (wat bs 8 : Nat), ((byteAt bs 5).toNat : Nat), (wat bs 10 : Nat), ⟨((bs.drop 14).take (wat bs 12)).toArray⟩⟩ := rfl
  have hdr : ¬ decFault bs ≠ 0 → decR bs = decFr bs := fun h => if_neg h
  have hn := wat_le bs 12
  generalize wat bs 12 = n at *
  by_cases h2 : 40 < n
  case pos =>
    rw [if_pos h2] at hf
    rw [decR_bad hf (by decide), hf]
    repeat' (first | (apply X.loE; (· exact aR); (· first | exact .callL rfl rfl rfl (c12) rfl | exact bl (c12))) | refine X.loc ?_ | refine nx ?_ | refine X.cdT ?_ | refine X.cdF ?_ | refine cb ?_ ?_ | (refine cc ?_ ?_ <;> intro hcond) | (apply X.gsE; (· exact aR); (· exact aV); (· exact aW); (· intro hc; first | exact .callG rfl rfl rfl (c12) rfl | exact bg (c12)); (· exact aR)) | refine rb ?_ | refine nd ?_ | refine dk ?_ | fail)
    exact .fun (.inl rfl) rfl rfl
  rw [if_neg h2] at hf
  by_cases h3 : bs.length < 16 + n
  case pos =>
    rw [if_pos h3] at hf
    rw [decR_bad hf (by decide), hf]
    repeat' (first | (apply X.loE; (· exact aR); (· first | exact .callL rfl rfl rfl (c12) rfl | exact bl (c12))) | refine X.loc ?_ | refine nx ?_ | refine X.cdT ?_ | refine X.cdF ?_ | refine cb ?_ ?_ | (refine cc ?_ ?_ <;> intro hcond) | (apply X.gsE; (· exact aR); (· exact aV); (· exact aW); (· intro hc; first | exact .callG rfl rfl rfl (c12) rfl | exact bg (c12)); (· exact aR)) | refine rb ?_ | refine nd ?_ | refine dk ?_ | fail)
    exact .fun (.inl rfl) rfl rfl
  rw [if_neg h3] at hf
  by_cases h4 : 16 + n < bs.length
  case pos =>
    rw [if_pos h4] at hf
    rw [decR_bad hf (by decide), hf]
    repeat' (first | (apply X.loE; (· exact aR); (· first | exact .callL rfl rfl rfl (c12) rfl | exact bl (c12))) | refine X.loc ?_ | refine nx ?_ | refine X.cdT ?_ | refine X.cdF ?_ | refine cb ?_ ?_ | (refine cc ?_ ?_ <;> intro hcond) | (apply X.gsE; (· exact aR); (· exact aV); (· exact aW); (· intro hc; first | exact .callG rfl rfl rfl (c12) rfl | exact bg (c12)); (· exact aR)) | refine rb ?_ | refine nd ?_ | refine dk ?_ | fail)
    exact .fun (.inl rfl) rfl rfl
  rw [if_neg h4] at hf
  have cn := at_T bs k (14 + n) (14 + (n : Int)) hk (by omega) (by omega) hl
  have cs := sum_T (bs.take (14 + n)) (14 + n) (by rw [List.length_take]; omega) (by omega)
  have c0 := at_T bs k 0 0 hk rfl (by omega) hl
  have c2 := at_T bs k 2 2 hk rfl (by omega) hl
  have c6 := at_T bs k 6 6 hk rfl (by omega) hl
  have c8 := at_T bs k 8 8 hk rfl (by omega) hl
  have c10 := at_T bs k 10 10 hk rfl (by omega) hl
  by_cases h5 : wat bs (14 + n) = sumOf (bs.take (14 + n))
  case neg =>
    rw [if_pos h5] at hf
    rw [decR_bad hf (by decide), hf]
    generalize sumOf (bs.take (14 + n)) = q at *
    generalize wat bs (14 + n) = q2 at *
    repeat' (first | (apply X.loE; (· exact aR); (· first | (exact .eff (.sliHB (14 + n) hk rfl rfl rfl (by omega) (by omega))) | exact .callL rfl rfl rfl (by first | exact c12 | exact cn | exact cs) rfl | exact bl (c12) | exact bl (cn) | exact bl (cs))) | refine X.loc ?_ | refine nx ?_ | refine X.cdT ?_ | refine X.cdF ?_ | refine cb ?_ ?_ | (refine cc ?_ ?_ <;> intro hcond) | (apply X.gsE; (· exact aR); (· exact aV); (· exact aW); (· intro hc; first | (exact .eff (.sliHB (14 + n) hk rfl rfl rfl (by omega) (by omega))) | exact .callG rfl rfl rfl (by first | exact c12 | exact cn | exact cs) rfl | exact bg (c12) | exact bg (cn) | exact bg (cs)); (· exact aR)) | refine rb ?_ | refine nd ?_ | refine dk ?_ | fail)
    exact .fun (.inl rfl) rfl rfl
  rw [if_neg (not_not_intro h5)] at hf
  have hck := wireCheck_T (decFr bs)
  generalize wat bs 0 = w0 at *
  generalize wat bs 2 = w2 at *
  generalize wat bs 6 = w6 at *
  generalize wat bs 8 = w8 at *
  generalize wat bs 10 = w10 at *
  generalize sumOf (bs.take (14 + n)) = q at *
  generalize wat bs (14 + n) = q2 at *
  subst h5
  rw [← hf, hdec] at hck
  repeat' (first | (apply X.loE; (· exact aR); (· first | (exact .eff (.sliHB (14 + n) hk rfl rfl rfl (by omega) (by omega))) | (exact .eff (.sliLHB 14 n hk rfl rfl rfl rfl rfl (by omega) (by omega))) | (exact .eff (.idxBI 4 hk rfl rfl rfl rfl (by omega))) | (exact .eff (.idxBI 5 hk rfl rfl rfl rfl (by omega))) | (exact .eff (.conv8 rfl rfl rfl)) | (exact .eff (.b2sB rfl rfl rfl rfl (by simp; omega))) | exact .callL rfl rfl rfl (by first | exact c12 | exact cn | exact cs | exact hck | exact c0 | exact c2 | exact c6 | exact c8 | exact c10) rfl | exact bl (c12) | exact bl (cn) | exact bl (cs) | exact bl (hck) | exact bl (c0) | exact bl (c2) | exact bl (c6) | exact bl (c8) | exact bl (c10))) | refine X.loc ?_ | refine nx ?_ | refine X.cdT ?_ | refine X.cdF ?_ | refine cb ?_ ?_ | (refine cc ?_ ?_ <;> intro hcond) | (apply X.gsE; (· exact aR); (· exact aV); (· exact aW); (· intro hc; first | (exact .eff (.sliHB (14 + n) hk rfl rfl rfl (by omega) (by omega))) | (exact .eff (.sliLHB 14 n hk rfl rfl rfl rfl rfl (by omega) (by omega))) | (exact .eff (.idxBI 4 hk rfl rfl rfl rfl (by omega))) | (exact .eff (.idxBI 5 hk rfl rfl rfl rfl (by omega))) | (exact .eff (.conv8 rfl rfl rfl)) | (exact .eff (.b2sB rfl rfl rfl rfl (by simp; omega))) | exact .callG rfl rfl rfl (by first | exact c12 | exact cn | exact cs | exact hck | exact c0 | exact c2 | exact c6 | exact c8 | exact c10) rfl | exact bg (c12) | exact bg (cn) | exact bg (cs) | exact bg (hck) | exact bg (c0) | exact bg (c2) | exact bg (c6) | exact bg (c8) | exact bg (c10)); (· exact aR)) | refine rb ?_ | refine nd ?_ | refine dk ?_ | fail)
  · rw [decR_bad rfl (bne_iff_ne.1 hcond)]
    exact .fun (.inl rfl) rfl rfl
  · have h0 : decFault bs = 0 := bne_eq_false_iff_eq.1 hcond
    rw [hdr (not_not_intro h0), h0, hdec]
    exact .fun (.inl rfl) rfl rfl
def unwFault (bs : List UInt8) : Int := if bs.length < 6 then 5 else if ¬ (byteAt bs 0 = 100 ∧ byteAt bs 1 = 121) then 4 else decFault (bs.drop 6)
def unwN (bs : List UInt8) : Nat := if unwFault bs ≠ 0 then 0 else wat bs 2
def unwT (bs : List UInt8) : Nat := if unwFault bs ≠ 0 then 0 else wat bs 4
def unwR (bs : List UInt8) : Fr := if unwFault bs ≠ 0 then fr0 else decR (bs.drop 6)
theorem unw_bad {bs : List UInt8} {e : Int} (h : unwFault bs = e) (he : e ≠ 0) : unwN bs = 0 ∧ unwT bs = 0 ∧ unwR bs = fr0 := ⟨if_pos (by rw [h]; exact he), if_pos (by rw [h]; exact he), if_pos (by rw [h]; exact he)⟩
theorem u8_ne {a : UInt8} {n : Nat} (hn : n < 256) : ((a.toNat : Int) != (n : Int)) = !decide (a = UInt8.ofNat n) := by
  have h : ((a.toNat : Int) = (n : Int)) ↔ a = UInt8.ofNat n := by
    rw [← UInt8.toNat_inj, UInt8.toNat_ofNat']
    omega
  by_cases e : a = UInt8.ofNat n
  · rw [bne_eq_false_iff_eq.2 (h.2 e), decide_eq_true e]
    rfl
  · rw [bne_iff_ne.2 (fun x => e (h.1 x)), decide_eq_false e]
    rfl
theorem tag_bool (bs : List UInt8) : (((byteAt bs 0).toNat : Int) != 100 || ((byteAt bs 1).toNat : Int) != 121) = !decide (byteAt bs 0 = 100 ∧ byteAt bs 1 = 121) := by
  have v0 : (((byteAt bs 0).toNat : Int) != 100) = !decide (byteAt bs 0 = 100) := u8_ne (n := 100) (by omega)
  have v1 : (((byteAt bs 1).toNat : Int) != 121) = !decide (byteAt bs 1 = 121) := u8_ne (n := 121) (by omega)
  rw [v0, v1]
  by_cases h0 : byteAt bs 0 = 100 <;> by_cases h1 : byteAt bs 1 = 121 <;> simp [h0, h1]
set_option maxHeartbeats 4000000 in
theorem unwrap_T (bs : List UInt8) (k : Nat) (hk : k = bs.length) (hl : k ≤ 140737488355328) : Fun Tryz.prog 142 [.fv (.sl (bs.flatMap encB) k)] (.tup [.fv (.int .i64 (unwN bs : Nat)), .fv (.int .i64 (unwT bs : Nat)), .agg ((encFr (unwR bs)).map .fv), .fv (.int .i64 (unwFault bs))]) := by
  refine Fun.body tbl_ok Tryz.func142 rfl (by kernel_rfl) rfl rfl rfl ?_
  by_cases h1 : k < 6
  case pos =>
    have hf : unwFault bs = 5 := if_pos (by omega)
    obtain ⟨e1, e2, e3⟩ := unw_bad hf (by decide)
    rw [e1, e2, e3, hf]
    repeat' (first | refine X.loc ?_ | refine nx ?_ | refine X.cdT ?_ | refine X.cdF ?_ | refine cb ?_ ?_ | (refine cc ?_ ?_ <;> intro hcond) | refine rb ?_ | refine nd ?_ | refine dk ?_ | fail)
    exact .fun (.inl rfl) rfl rfl
  have h1' : ¬ bs.length < 6 := by omega
  have hf := (rfl : unwFault bs = unwFault bs)
  conv at hf => rhs; unfold unwFault
  rw [if_neg h1'] at hf
  have htag := tag_bool bs
  have c6 := decode_T (bs.drop 6) (k - 6) (by simp; omega) (by omega)
  have u2 := (byteAt bs 2).toNat_lt
  have u3 := (byteAt bs 3).toNat_lt
  have u4 := (byteAt bs 4).toNat_lt
  have u5 := (byteAt bs 5).toNat_lt
  repeat' (first | (apply X.loE; (· exact aR); (· first | (exact .eff (.idxBI 0 hk rfl rfl rfl rfl (by omega))) | (exact .eff (.idxBI 1 hk rfl rfl rfl rfl (by omega))) | (exact .eff (.idxBI 2 hk rfl rfl rfl rfl (by omega))) | (exact .eff (.idxBI 3 hk rfl rfl rfl rfl (by omega))) | (exact .eff (.idxBI 4 hk rfl rfl rfl rfl (by omega))) | (exact .eff (.idxBI 5 hk rfl rfl rfl rfl (by omega))) | (exact .eff (.sliLB 6 hk rfl rfl rfl rfl (by omega))) | (exact .eff (.conv8 rfl rfl rfl)) | (exact .eff (.shlB rfl rfl (by omega))) | (exact .eff (.orB rfl rfl (by omega) (by omega))) | exact .callL rfl rfl rfl (c6) rfl | exact bl (c6))) | refine X.loc ?_ | refine nx ?_ | refine X.cdT ?_ | refine X.cdF ?_ | refine cb ?_ ?_ | (refine cc ?_ ?_ <;> intro hcond) | (apply X.gsE; (· exact aR); (· exact aV); (· exact aW); (· intro hc; first | (exact .eff (.idxBI 0 hk rfl rfl rfl rfl (by omega))) | (exact .eff (.idxBI 1 hk rfl rfl rfl rfl (by omega))) | (exact .eff (.idxBI 2 hk rfl rfl rfl rfl (by omega))) | (exact .eff (.idxBI 3 hk rfl rfl rfl rfl (by omega))) | (exact .eff (.idxBI 4 hk rfl rfl rfl rfl (by omega))) | (exact .eff (.idxBI 5 hk rfl rfl rfl rfl (by omega))) | (exact .eff (.sliLB 6 hk rfl rfl rfl rfl (by omega))) | (exact .eff (.conv8 rfl rfl rfl)) | (exact .eff (.shlB rfl rfl (by omega))) | (exact .eff (.orB rfl rfl (by omega) (by omega))) | exact .callG rfl rfl rfl (c6) rfl | exact bg (c6)); (· exact aR)) | refine rb ?_ | refine nd ?_ | refine dk ?_ | fail)
  · rw [htag, Bool.not_eq_true', decide_eq_false_iff_not] at hcond
    rw [if_pos hcond] at hf
    obtain ⟨e1, e2, e3⟩ := unw_bad hf (by decide)
    rw [e1, e2, e3, hf]
    exact .fun (.inl rfl) rfl rfl
  · rename_i hc
    rw [htag, Bool.not_eq_false', decide_eq_true_iff] at hc
    rw [if_neg (not_not_intro hc)] at hf
    have hd := bne_iff_ne.1 hcond
    obtain ⟨e1, e2, e3⟩ := unw_bad hf hd
    rw [e1, e2, e3, hf]
    exact .fun (.inl rfl) rfl rfl
  · rename_i hc
    rw [htag, Bool.not_eq_false', decide_eq_true_iff] at hc
    rw [if_neg (not_not_intro hc)] at hf
    have hd := bne_eq_false_iff_eq.1 hcond
    rw [hd] at hf
    have e1 : unwN bs = wat bs 2 := if_neg (by omega)
    have e2 : unwT bs = wat bs 4 := if_neg (by omega)
    have e3 : unwR bs = decR (bs.drop 6) := if_neg (by omega)
    rw [e1, e2, e3, hf]
    exact .fun (.inl rfl) rfl rfl
end Go.Proofs.YtmidechdlbcepaaGreat
namespace Go.Proofs.YtmidechdlbcepaaGreat
theorem byteAt_app2 {l m : List UInt8} {i : Nat} : byteAt (l ++ m) (l.length + i) = byteAt m i := by
  unfold byteAt; rw [List.getElem?_append_right (by omega), Nat.add_sub_cancel_left]
theorem be_two {n : Nat} (h : n ≤ 65535) : 256 * (UInt8.ofNat (n / 256)).toNat + (UInt8.ofNat n).toNat = n := by
  rw [UInt8.toNat_ofNat', UInt8.toNat_ofNat']
  omega
theorem decFr_eq {n0 n1 n2 n3 n4 n5 n6 : Nat} {s : ByteArray} (h0 : n0 ≤ 65535) (h1 : n1 ≤ 65535) (h2 : n2 ≤ 255) (h3 : n3 ≤ 65535) (h4 : n4 ≤ 65535) (h5 : n5 ≤ 255) (h6 : n6 ≤ 65535) (hs : s.size ≤ 40) (z : List UInt8) :
    decFr (headF ⟨n0, n1, n2, n3, n4, n5, n6, s⟩ ++ z) = ⟨n0, n1, n2, n3, n4, n5, n6, s⟩ ∧ wat (headF ⟨n0, n1, n2, n3, n4, n5, n6, s⟩ ++ z) 12 = s.size := by
  have e : headF ⟨n0, n1, n2, n3, n4, n5, n6, s⟩ ++ z = [UInt8.ofNat (n0 / 256), UInt8.ofNat n0, UInt8.ofNat (n1 / 256), UInt8.ofNat n1, UInt8.ofNat n2, UInt8.ofNat n5, UInt8.ofNat (n3 / 256), UInt8.ofNat n3, UInt8.ofNat (n4 / 256), UInt8.ofNat n4, UInt8.ofNat (n6 / 256), UInt8.ofNat n6, 0, UInt8.ofNat s.size] ++ (s.data.toList ++ z) := by
    simp only [headF, be, Int.toNat_natCast, List.append_assoc]
    rfl
  have e1 : wat (headF ⟨n0, n1, n2, n3, n4, n5, n6, s⟩ ++ z) 12 = s.size := by
    rw [e]
    show 256 * (0 : UInt8).toNat + (UInt8.ofNat s.size).toNat = _
    rw [UInt8.toNat_ofNat']
    simp
    omega
  refine ⟨?_, e1⟩
  unfold decFr
  rw [e1, e]
  have es : (⟨(((([UInt8.ofNat (n0 / 256), UInt8.ofNat n0, UInt8.ofNat (n1 / 256), UInt8.ofNat n1, UInt8.ofNat n2, UInt8.ofNat n5, UInt8.ofNat (n3 / 256), UInt8.ofNat n3, UInt8.ofNat (n4 / 256), UInt8.ofNat n4, UInt8.ofNat (n6 / 256), UInt8.ofNat n6, 0, UInt8.ofNat s.size] ++ (s.data.toList ++ z)).drop 14).take s.size).toArray)⟩ : ByteArray) = s := by
    show (⟨((s.data.toList ++ z).take s.size).toArray⟩ : ByteArray) = s
    rw [List.take_left' (by rw [Array.length_toList]; rfl), Array.toArray_toList]
  rw [es]
  congr 1
  · show ((256 * (UInt8.ofNat (n0 / 256)).toNat + (UInt8.ofNat n0).toNat : Nat) : Int) = _
    rw [be_two h0]
  · show ((256 * (UInt8.ofNat (n1 / 256)).toNat + (UInt8.ofNat n1).toNat : Nat) : Int) = _
    rw [be_two h1]
  · show (((UInt8.ofNat n2).toNat : Nat) : Int) = _
    rw [UInt8.toNat_ofNat']
    omega
  · show ((256 * (UInt8.ofNat (n3 / 256)).toNat + (UInt8.ofNat n3).toNat : Nat) : Int) = _
    rw [be_two h3]
  · show ((256 * (UInt8.ofNat (n4 / 256)).toNat + (UInt8.ofNat n4).toNat : Nat) : Int) = _
    rw [be_two h4]
  · show (((UInt8.ofNat n5).toNat : Nat) : Int) = _
    rw [UInt8.toNat_ofNat']
    omega
  · show ((256 * (UInt8.ofNat (n6 / 256)).toNat + (UInt8.ofNat n6).toNat : Nat) : Int) = _
    rw [be_two h6]
theorem decFr_of {f : Fr} (h : frameFault f = 0) (z : List UInt8) : decFr (headF f ++ z) = f ∧ wat (headF f ++ z) 12 = f.body.size ∧ f.body.size ≤ 40 := by
  have hm := frMay h
  have hs := hm.body
  obtain ⟨n0, n1, n2, n3, n4, n5, n6, e, h0, h1, h2, h3, h4, h5, h6⟩ := fr_nat hm
  obtain ⟨a, b⟩ := decFr_eq h0 h1 h2 h3 h4 h5 h6 hs z
  rw [← e] at a b
  exact ⟨a, b, hs⟩
theorem dec_enc {f : Fr} (h : frameFault f = 0) : decFault (bytesF f) = 0 ∧ decR (bytesF f) = f := by
  obtain ⟨e1, e2, hs⟩ := decFr_of h (be (sumOf (headF f)))
  have hl := bytesF_len f
  have e3 : wat (bytesF f) (14 + f.body.size) = sumOf (headF f) := by
    rw [bytesF, ← headF_len f]
    unfold wat
    rw [byteAt_app2 (i := 1), ← Nat.add_zero (headF f).length, byteAt_app2 (i := 0)]
    exact be_two (sumOf_le _)
  have e4 : (bytesF f).take (14 + f.body.size) = headF f := by
    rw [bytesF, ← headF_len f, List.take_left']
    rfl
  have e0 : decFault (bytesF f) = 0 := by
    rw [decFault, show wat (bytesF f) 12 = f.body.size from e2, if_neg (by omega), if_neg (by omega), if_neg (by omega), if_neg (by omega), e3, e4, if_neg (by simp), show decFr (bytesF f) = f from e1, h]
  exact ⟨e0, by rw [decR, if_neg (by rw [e0]; simp)]; exact e1⟩
theorem unw_wrap {f : Fr} (h : frameFault f = 0) {n t : Nat} (hn : n ≤ 65535) (ht : t ≤ 65535) : wrapFault n t f = 0 ∧ unwFault (wrapR n t f) = 0 ∧ unwN (wrapR n t f) = n ∧ unwT (wrapR n t f) = t ∧ unwR (wrapR n t f) = f ∧ (wrapR n t f).length = 22 + f.body.size := by
  have hw : wrapFault n t f = 0 := by
    rw [wrapFault, if_neg, h]
    simp only [Decidable.not_not]
    exact ⟨word_iff.2 (by omega), word_iff.2 (by omega)⟩
  have hl := bytesF_len f
  have hr : wrapR n t f = [100, 121, UInt8.ofNat (n / 256), UInt8.ofNat n, UInt8.ofNat (t / 256), UInt8.ofNat t] ++ bytesF f := by
    rw [wrapR, if_neg (by rw [hw]; simp)]
    rfl
  obtain ⟨d1, d2⟩ := dec_enc h
  have hd : (wrapR n t f).drop 6 = bytesF f := by rw [hr]; rfl
  have hlw : (wrapR n t f).length = 22 + f.body.size := by rw [hr, List.length_append, hl]; simp; omega
  have h0 : unwFault (wrapR n t f) = 0 := by
    rw [unwFault, if_neg (by omega), hd, d1, hr, if_neg]
    simp only [Decidable.not_not]
    exact ⟨rfl, rfl⟩
  refine ⟨hw, h0, ?_, ?_, ?_, hlw⟩
  · rw [unwN, if_neg (by rw [h0]; simp), hr]
    exact be_two hn
  · rw [unwT, if_neg (by rw [h0]; simp), hr]
    exact be_two ht
  · rw [unwR, if_neg (by rw [h0]; simp), hd, d2]
end Go.Proofs.YtmidechdlbcepaaGreat
namespace Go.Proofs.YtmidechdlbcepaaGreat
open Go.RowKit
set_option maxRecDepth 100000
def pkZ : Pk := ⟨0, 0, 0, 0, 0, 0, 0, 0, 0, 0, ⟨#[]⟩⟩
def pkE (f : Fr) (i n t : Int) : Int := if frameFault f ≠ 0 then frameFault f else packetFault (pkOf f i n t)
def pkR (f : Fr) (i n t : Int) : Pk := if pkE f i n t ≠ 0 then pkZ else pkOf f i n t
set_option maxHeartbeats 4000000 in
theorem packet_T (f : Fr) (i n t : Int) : Fun Tryz.prog 75 [.agg ((encFr f).map .fv), .fv (.int .i64 i), .fv (.int .i64 n), .fv (.int .i64 t)] (.tup [.agg ((encPk (pkR f i n t)).map .fv), .fv (.int .i64 (pkE f i n t))]) := by
  have c1 := wireCheck_T f
  have c2 := checkPacket_T (pkOf f i n t)
  refine Fun.body tbl_ok Tryz.func75 rfl (by kernel_rfl) rfl rfl rfl ?_
  unfold pkR pkE
  by_cases h1 : frameFault f = 0
  · rw [if_neg (show ¬ frameFault f ≠ 0 by omega)]
    by_cases h2 : packetFault (pkOf f i n t) = 0
    · rw [if_neg (show ¬ packetFault (pkOf f i n t) ≠ 0 by omega), h2]
      rw [h1] at c1
      rw [h2] at c2
      repeat' (first | (apply X.loE; (· exact aR); (· first | exact .callL rfl rfl rfl (by first | exact c1 | exact c2) rfl | exact bl (c1) | exact bl (c2))) | refine X.loc ?_ | refine nx ?_ | refine X.cdT ?_ | refine X.cdF ?_ | refine cb ?_ ?_ | (refine cc ?_ ?_ <;> intro hcond) | (apply X.gsE; (· exact aR); (· exact aV); (· exact aW); (· intro hc; first | exact .callG rfl rfl rfl (by first | exact c1 | exact c2) rfl | exact bg (c1) | exact bg (c2)); (· exact aR)) | refine rb ?_ | refine nd ?_ | refine dk ?_ | fail)
      exact .fun (.inl rfl) rfl rfl
    · rw [if_pos h2]
      rw [h1] at c1
      generalize packetFault (pkOf f i n t) = e at *
      repeat' (first | (apply X.loE; (· exact aR); (· first | exact .callL rfl rfl rfl (by first | exact c1 | exact c2) rfl | exact bl (c1) | exact bl (c2))) | refine X.loc ?_ | refine nx ?_ | refine X.cdT ?_ | refine X.cdF ?_ | refine cb ?_ ?_ | (refine cc ?_ ?_ <;> intro hcond) | (apply X.gsE; (· exact aR); (· exact aV); (· exact aW); (· intro hc; first | exact .callG rfl rfl rfl (by first | exact c1 | exact c2) rfl | exact bg (c1) | exact bg (c2)); (· exact aR)) | refine rb ?_ | refine nd ?_ | refine dk ?_ | fail)
      exact .fun (.inl rfl) rfl rfl
  · rw [if_pos h1, if_pos h1]
    generalize frameFault f = e at *
    repeat' (first | (apply X.loE; (· exact aR); (· first | exact .callL rfl rfl rfl (c1) rfl | exact bl (c1))) | refine X.loc ?_ | refine nx ?_ | refine X.cdT ?_ | refine X.cdF ?_ | refine cb ?_ ?_ | (refine cc ?_ ?_ <;> intro hcond) | (apply X.gsE; (· exact aR); (· exact aV); (· exact aW); (· intro hc; first | exact .callG rfl rfl rfl (c1) rfl | exact bg (c1)); (· exact aR)) | refine rb ?_ | refine nd ?_ | refine dk ?_ | fail)
    exact .fun (.inl rfl) rfl rfl
def frR (p : Pk) : Fr := if frameFault (frOfP p) ≠ 0 then frZ else frOfP p
set_option maxHeartbeats 4000000 in
theorem pframe_T (p : Pk) : Fun Tryz.prog 105 [.agg ((encPk p).map .fv)] (.tup [.agg ((encFr (frR p)).map .fv), .fv (.int .i64 (frameFault (frOfP p)))]) := by
  have c1 := wireCheck_T (frOfP p)
  refine Fun.body tbl_ok Tryz.func105 rfl (by kernel_rfl) rfl rfl rfl ?_
  unfold frR
  by_cases h1 : frameFault (frOfP p) = 0
  · rw [if_neg (show ¬ frameFault (frOfP p) ≠ 0 by omega), h1]
    rw [h1] at c1
    repeat' (first | (apply X.loE; (· exact aR); (· first | exact .callL rfl rfl rfl (c1) rfl | exact bl (c1))) | refine X.loc ?_ | refine nx ?_ | refine X.cdT ?_ | refine X.cdF ?_ | refine cb ?_ ?_ | (refine cc ?_ ?_ <;> intro hcond) | (apply X.gsE; (· exact aR); (· exact aV); (· exact aW); (· intro hc; first | exact .callG rfl rfl rfl (c1) rfl | exact bg (c1)); (· exact aR)) | refine rb ?_ | refine nd ?_ | refine dk ?_ | fail)
    exact .fun (.inl rfl) rfl rfl
  · rw [if_pos h1]
    generalize frameFault (frOfP p) = e at *
    repeat' (first | (apply X.loE; (· exact aR); (· first | exact .callL rfl rfl rfl (c1) rfl | exact bl (c1))) | refine X.loc ?_ | refine nx ?_ | refine X.cdT ?_ | refine X.cdF ?_ | refine cb ?_ ?_ | (refine cc ?_ ?_ <;> intro hcond) | (apply X.gsE; (· exact aR); (· exact aV); (· exact aW); (· intro hc; first | exact .callG rfl rfl rfl (c1) rfl | exact bg (c1)); (· exact aR)) | refine rb ?_ | refine nd ?_ | refine dk ?_ | fail)
    exact .fun (.inl rfl) rfl rfl
theorem ran_ok {L : List Fl} {p : Pk} (h1 : flowsFault L = 0) (h2 : packetFault p = 0) : ranFault L p = 0 ∧ ranR L p = ranOf L p := by
  have : ranFault L p = 0 := by
    unfold ranFault
    rw [if_neg (by omega), h2]
  exact ⟨this, by unfold ranR; rw [if_neg (by omega)]⟩
theorem packet_ok {f : Fr} {i n t : Int} (hf : FrMay f) (hi : 0 ≤ i ∧ i ≤ 65535) (hn : 0 ≤ n ∧ n ≤ 65535) (ht : 0 ≤ t ∧ t ≤ 65535) : packetFault (pkOf f i n t) = 0 := by
  have h := pw_pkOf hf hi hn ht
  unfold packetFault
  rw [if_pos, if_neg (by have := hf.body; show ¬ 40 < f.body.size; omega)]
  show List.all [_, _, _, _, _, _, _, _, _, _] word = true
  simp only [List.all_cons, List.all_nil, h.w0, h.w1, h.w2, h.w3, h.w4, h.w5, h.w6, h.w7, h.w8, h.w9, Bool.and_true]

theorem po_modify (l : List Po) (i : Nat) (hi : i < l.length) (m : Int) : setC ((l.flatMap encPo).map AV.fv) ((i : Int).toNat * 5 + 4) [AV.fv (.int .i64 m)] = some (((l.modify i fun p => { p with ch := m }).flatMap encPo).map AV.fv) := by
  rw [Int.toNat_natCast]
  induction l generalizing i with
  | nil => simp at hi
  | cons x l ih =>
    cases i with
    | zero => simp [setC, encPo]
    | succ i =>
      have := ih i (by simpa using hi)
      rw [show (i + 1) * 5 + 4 = (i * 5 + 4) + 5 from by omega]
      simp only [List.flatMap_cons, List.map_append, List.modify_succ_cons]
      show setC (AV.fv (.int .i64 x.id) :: AV.fv (.int .i64 x.sw) :: AV.fv (.int .i64 x.mac) :: AV.fv (.int .i64 x.ip) :: AV.fv (.int .i64 x.ch) :: (l.flatMap encPo).map AV.fv) _ _ = _
      simp only [setC, this]
      rfl
set_option maxHeartbeats 4000000 in
theorem apply_T (c : Cf) (a : De) (hl : c.Fit) : Fun Tryz.prog 58 [.agg ((encCf c).map .fv), .agg ((encDe a).map .fv)] (.tup [.agg ((encCf (applyR c a)).map .fv), .fv (.int .i64 (applyE c a))]) := by
  have hck := confCheck_T c hl.small
  refine Fun.body tbl_ok Tryz.func58 rfl (by kernel_rfl) rfl rfl rfl ?_
  cases hm : cfMay c with
  | false =>
    rw [hm] at hck
    repeat' (first | (apply X.loE; (· exact aR); (· first | exact .callL rfl rfl rfl (hck) rfl | exact bl (hck))) | refine X.loc ?_ | refine nx ?_ | refine X.cdT ?_ | refine X.cdF ?_ | refine cb ?_ ?_ | (refine cc ?_ ?_ <;> intro hcond) | (apply X.gsE; (· exact aR); (· exact aV); (· exact aW); (· intro hc; first | exact .callG rfl rfl rfl (hck) rfl | exact bg (hck)); (· exact aR)) | refine rb ?_ | refine nd ?_ | refine dk ?_ | fail)
    refine .le (s' := ⟨[(4, .optr 4 0), (5, .fv (.int .i64 8))], [(4, .box 26 ((encCf cf0).map .fv))]⟩) ?_ (.fun (.inl rfl) rfl ?_)
    · exact tq [] []
    · rw [applyE_bad hm, applyR_bad (by rw [applyE_bad hm]; decide)]
      rfl
  | true =>
    rw [hm] at hck
    have hlen := cfMay_len hm
    have hcp := copy_T c hl
    have b1 := hlen.ss
    have b2 := hlen.ps
    have b3 := hlen.acs
    have e0 : applyE c a = if a.kind = 1 then swFault c a.sw else if a.kind = 2 then poFault c a.po else if a.kind = 3 then acFault c a.ac else if a.kind = 4 ∨ a.kind = 6 then (if idxB (fun p => p.id == a.n) c.ps < 0 then 6 else if a.kind = 6 ∧ inR a.m (-1) 5 = false then 2 else 0) else if a.kind = 5 then (if a.n < 0 ∨ (c.acs.length : Int) ≤ a.n then 6 else 0) else 3 := by
      rw [applyE, if_neg (by rw [hm]; decide)]
    by_cases k : a.kind = 1
    · rw [if_pos k] at e0
      have c1 := addSwitch_T c a.sw hl.small hlen.wf b1
      generalize swFault c a.sw = e at *
      by_cases he : e = 0
      · subst he
        repeat' (first | (apply X.loE; (· exact aR); (· first | exact .callL rfl rfl rfl (by first | exact hck | exact c1) rfl | exact bl (hck) | exact bl (c1))) | refine X.loc ?_ | refine nx ?_ | refine X.cdT ?_ | refine X.cdF ?_ | refine cb ?_ ?_ | (refine cc ?_ ?_ <;> intro hcond) | (apply X.gsE; (· exact aR); (· exact aV); (· exact aW); (· intro hc; first | exact .callG rfl rfl rfl (by first | exact hck | exact c1) rfl | exact bg (hck) | exact bg (c1)); (· exact aR)) | refine rb ?_ | refine X.c0 (hcp) ?_ | refine nd ?_ | refine dk ?_ | fail)
        refine .le (s' := ⟨[(4, .optr 4 0), (5, .fv (.int .i64 0))], [(4, .box 26 ((encCf (applyC c a)).map .fv))]⟩) ?_ (.fun (.inl rfl) rfl ?_)
        · have e5 : applyC c a = { c with ss := c.ss ++ [a.sw] } := by rw [applyC, if_pos k]
          rw [e5]
          refine St.to [] [30, 316, 616] rfl rfl ?_ ?_ <;> (repeat' (first | exact tA | refine t1 ?_ | exact tB | refine t2 ?_ ?_ | refine t3 ?_ | refine t4 ?_ ?_ | refine .ofEq ?_ | refine OB.To.cut rfl rfl ?_ ?_ ?_ ?_ | refine OB.To.box rfl rfl ?_ | refine ⟨⟨_, rfl, ?_⟩, ?_⟩ | refine ⟨?_, ?_⟩ | fail))
          all_goals first | (simp; done) | (rw [List.length_eraseIdx, if_pos (by omega)]; done) | (simp only [List.flatMap_append, List.map_append]; rfl)
        · rw [e0, applyR_ok e0]
          rfl
      · skip
        repeat' (first | (apply X.loE; (· exact aR); (· first | exact .callL rfl rfl rfl (by first | exact hck | exact c1) rfl | exact bl (hck) | exact bl (c1))) | refine X.loc ?_ | refine nx ?_ | refine X.cdT ?_ | refine X.cdF ?_ | refine cb ?_ ?_ | (refine cc ?_ ?_ <;> intro hcond) | (apply X.gsE; (· exact aR); (· exact aV); (· exact aW); (· intro hc; first | exact .callG rfl rfl rfl (by first | exact hck | exact c1) rfl | exact bg (hck) | exact bg (c1)); (· exact aR)) | refine rb ?_ | refine X.c0 (hcp) ?_ | refine nd ?_ | refine dk ?_ | fail)
        refine .le (s' := ⟨[(4, .optr 4 0), (5, .fv (.int .i64 e))], [(4, .box 26 ((encCf cf0).map .fv))]⟩) ?_ (.fun (.inl rfl) rfl ?_)
        · exact tq [] []
        · rw [applyR_bad (by rw [e0]; first | exact he | decide), e0]
          rfl
    have k1 := k
    clear k
    rw [if_neg k1] at e0
    by_cases k : a.kind = 2
    · rw [if_pos k] at e0
      have c1 := addPort_T c a.po hl.small hlen.wf b2
      generalize poFault c a.po = e at *
      by_cases he : e = 0
      · subst he
        repeat' (first | (apply X.loE; (· exact aR); (· first | exact .callL rfl rfl rfl (by first | exact hck | exact c1) rfl | exact bl (hck) | exact bl (c1))) | refine X.loc ?_ | refine nx ?_ | refine X.cdT ?_ | refine X.cdF ?_ | refine cb ?_ ?_ | (refine cc ?_ ?_ <;> intro hcond) | (apply X.gsE; (· exact aR); (· exact aV); (· exact aW); (· intro hc; first | exact .callG rfl rfl rfl (by first | exact hck | exact c1) rfl | exact bg (hck) | exact bg (c1)); (· exact aR)) | refine rb ?_ | refine X.c0 (hcp) ?_ | refine nd ?_ | refine dk ?_ | fail)
        refine .le (s' := ⟨[(4, .optr 4 0), (5, .fv (.int .i64 0))], [(4, .box 26 ((encCf (applyC c a)).map .fv))]⟩) ?_ (.fun (.inl rfl) rfl ?_)
        · have e5 : applyC c a = { c with ps := c.ps ++ [a.po] } := by rw [applyC, if_neg (by rw [k]; decide), if_pos k]
          rw [e5]
          refine St.to [] [16, 43, 616] rfl rfl ?_ ?_ <;> (repeat' (first | exact tA | refine t1 ?_ | exact tB | refine t2 ?_ ?_ | refine t3 ?_ | refine t4 ?_ ?_ | refine .ofEq ?_ | refine OB.To.cut rfl rfl ?_ ?_ ?_ ?_ | refine OB.To.box rfl rfl ?_ | refine ⟨⟨_, rfl, ?_⟩, ?_⟩ | refine ⟨?_, ?_⟩ | fail))
          all_goals first | (simp; done) | (rw [List.length_eraseIdx, if_pos (by omega)]; done) | (simp only [List.flatMap_append, List.map_append]; rfl)
        · rw [e0, applyR_ok e0]
          rfl
      · skip
        repeat' (first | (apply X.loE; (· exact aR); (· first | exact .callL rfl rfl rfl (by first | exact hck | exact c1) rfl | exact bl (hck) | exact bl (c1))) | refine X.loc ?_ | refine nx ?_ | refine X.cdT ?_ | refine X.cdF ?_ | refine cb ?_ ?_ | (refine cc ?_ ?_ <;> intro hcond) | (apply X.gsE; (· exact aR); (· exact aV); (· exact aW); (· intro hc; first | exact .callG rfl rfl rfl (by first | exact hck | exact c1) rfl | exact bg (hck) | exact bg (c1)); (· exact aR)) | refine rb ?_ | refine X.c0 (hcp) ?_ | refine nd ?_ | refine dk ?_ | fail)
        refine .le (s' := ⟨[(4, .optr 4 0), (5, .fv (.int .i64 e))], [(4, .box 26 ((encCf cf0).map .fv))]⟩) ?_ (.fun (.inl rfl) rfl ?_)
        · exact tq [] []
        · rw [applyR_bad (by rw [e0]; first | exact he | decide), e0]
          rfl
    have k2 := k
    clear k
    rw [if_neg k2] at e0
    by_cases k : a.kind = 3
    · rw [if_pos k] at e0
      have c1 := addAcl_T c a.ac hl.small b3
      generalize acFault c a.ac = e at *
      by_cases he : e = 0
      · subst he
        repeat' (first | (apply X.loE; (· exact aR); (· first | exact .callL rfl rfl rfl (by first | exact hck | exact c1) rfl | exact bl (hck) | exact bl (c1))) | refine X.loc ?_ | refine nx ?_ | refine X.cdT ?_ | refine X.cdF ?_ | refine cb ?_ ?_ | (refine cc ?_ ?_ <;> intro hcond) | (apply X.gsE; (· exact aR); (· exact aV); (· exact aW); (· intro hc; first | exact .callG rfl rfl rfl (by first | exact hck | exact c1) rfl | exact bg (hck) | exact bg (c1)); (· exact aR)) | refine rb ?_ | refine X.c0 (hcp) ?_ | refine nd ?_ | refine dk ?_ | fail)
        refine .le (s' := ⟨[(4, .optr 4 0), (5, .fv (.int .i64 0))], [(4, .box 26 ((encCf (applyC c a)).map .fv))]⟩) ?_ (.fun (.inl rfl) rfl ?_)
        · have e5 : applyC c a = { c with acs := c.acs ++ [a.ac] } := by rw [applyC, if_neg (by rw [k]; decide), if_neg (by rw [k]; decide), if_pos k]
          rw [e5]
          refine St.to [] [16, 316, 56] rfl rfl ?_ ?_ <;> (repeat' (first | exact tA | refine t1 ?_ | exact tB | refine t2 ?_ ?_ | refine t3 ?_ | refine t4 ?_ ?_ | refine .ofEq ?_ | refine OB.To.cut rfl rfl ?_ ?_ ?_ ?_ | refine OB.To.box rfl rfl ?_ | refine ⟨⟨_, rfl, ?_⟩, ?_⟩ | refine ⟨?_, ?_⟩ | fail))
          all_goals first | (simp; done) | (rw [List.length_eraseIdx, if_pos (by omega)]; done) | (simp only [List.flatMap_append, List.map_append]; rfl)
        · rw [e0, applyR_ok e0]
          rfl
      · skip
        repeat' (first | (apply X.loE; (· exact aR); (· first | exact .callL rfl rfl rfl (by first | exact hck | exact c1) rfl | exact bl (hck) | exact bl (c1))) | refine X.loc ?_ | refine nx ?_ | refine X.cdT ?_ | refine X.cdF ?_ | refine cb ?_ ?_ | (refine cc ?_ ?_ <;> intro hcond) | (apply X.gsE; (· exact aR); (· exact aV); (· exact aW); (· intro hc; first | exact .callG rfl rfl rfl (by first | exact hck | exact c1) rfl | exact bg (hck) | exact bg (c1)); (· exact aR)) | refine rb ?_ | refine X.c0 (hcp) ?_ | refine nd ?_ | refine dk ?_ | fail)
        refine .le (s' := ⟨[(4, .optr 4 0), (5, .fv (.int .i64 e))], [(4, .box 26 ((encCf cf0).map .fv))]⟩) ?_ (.fun (.inl rfl) rfl ?_)
        · exact tq [] []
        · rw [applyR_bad (by rw [e0]; first | exact he | decide), e0]
          rfl
    have k3 := k
    clear k
    rw [if_neg k3] at e0
    by_cases k46 : a.kind = 4 ∨ a.kind = 6
    · rw [if_pos k46] at e0
      have c1 := port_T c a.n hl.small.2.1
      have hge := idxB_ge (fun p : Po => p.id == a.n) c.ps
      have hgen : ∃ x, x = idxB (fun p : Po => p.id == a.n) c.ps := ⟨_, rfl⟩
      obtain ⟨x, hx⟩ := hgen
      by_cases h0 : x < 0
      · rw [← hx, if_pos h0] at e0
        rw [← hx] at c1
        rcases k46 with k | k
        · skip
          repeat' (first | (apply X.loE; (· exact aR); (· first | exact .callL rfl rfl rfl (by first | exact hck | exact c1) rfl | exact bl (hck) | exact bl (c1))) | refine X.loc ?_ | refine nx ?_ | refine X.cdT ?_ | refine X.cdF ?_ | refine cb ?_ ?_ | (refine cc ?_ ?_ <;> intro hcond) | (apply X.gsE; (· exact aR); (· exact aV); (· exact aW); (· intro hc; first | exact .callG rfl rfl rfl (by first | exact hck | exact c1) rfl | exact bg (hck) | exact bg (c1)); (· exact aR)) | refine rb ?_ | refine X.c0 (hcp) ?_ | refine nd ?_ | refine dk ?_ | fail)
          refine .le (s' := ⟨[(4, .optr 4 0), (5, .fv (.int .i64 6))], [(4, .box 26 ((encCf cf0).map .fv))]⟩) ?_ (.fun (.inl rfl) rfl ?_)
          · exact tq [] []
          · rw [applyR_bad (by rw [e0]; first | exact he | decide), e0]
            rfl
        · skip
          repeat' (first | (apply X.loE; (· exact aR); (· first | exact .callL rfl rfl rfl (by first | exact hck | exact c1) rfl | exact bl (hck) | exact bl (c1))) | refine X.loc ?_ | refine nx ?_ | refine X.cdT ?_ | refine X.cdF ?_ | refine cb ?_ ?_ | (refine cc ?_ ?_ <;> intro hcond) | (apply X.gsE; (· exact aR); (· exact aV); (· exact aW); (· intro hc; first | exact .callG rfl rfl rfl (by first | exact hck | exact c1) rfl | exact bg (hck) | exact bg (c1)); (· exact aR)) | refine rb ?_ | refine X.c0 (hcp) ?_ | refine nd ?_ | refine dk ?_ | fail)
          refine .le (s' := ⟨[(4, .optr 4 0), (5, .fv (.int .i64 6))], [(4, .box 26 ((encCf cf0).map .fv))]⟩) ?_ (.fun (.inl rfl) rfl ?_)
          · exact tq [] []
          · rw [applyR_bad (by rw [e0]; first | exact he | decide), e0]
            rfl
      · obtain ⟨i, rfl⟩ : ∃ i : Nat, x = i := ⟨x.toNat, by omega⟩
        rw [← hx, if_neg h0] at e0
        rw [← hx] at c1 hge
        have hi : i < c.ps.length := by omega
        rcases k46 with k | k
        · rw [if_neg (by rw [k]; simp)] at e0
          have c2 := deletePo_T c.ps i ((i : Int) + 1) (by omega) hi hl.2.1
          repeat' (first | (apply X.loE; (· exact aR); (· first | exact .callL rfl rfl rfl (by first | exact hck | exact c1) rfl | exact bl (hck) | exact bl (c1))) | refine X.loc ?_ | refine nx ?_ | refine X.cdT ?_ | refine X.cdF ?_ | refine cb ?_ ?_ | (refine cc ?_ ?_ <;> intro hcond) | (apply X.gsE; (· exact aR); (· exact aV); (· exact aW); (· intro hc; first | exact .callG rfl rfl rfl (by first | exact hck | exact c1) rfl | exact bg (hck) | exact bg (c1)); (· exact aR)) | refine rb ?_ | refine X.c0 (hcp) ?_ | refine X.c0 (c2) ?_ | refine nd ?_ | refine dk ?_ | fail)
          refine .le (s' := ⟨[(4, .optr 4 0), (5, .fv (.int .i64 0))], [(4, .box 26 ((encCf (applyC c a)).map .fv))]⟩) ?_ (.fun (.inl rfl) rfl ?_)
          · have e5 : applyC c a = { c with ps := c.ps.eraseIdx i } := by rw [applyC, if_neg (by rw [k]; decide), if_neg (by rw [k]; decide), if_neg (by rw [k]; decide), if_pos k, ← hx, Int.toNat_natCast]
            rw [e5]
            refine St.to [] [16, 84, 616] rfl rfl ?_ ?_ <;> (repeat' (first | exact tA | refine t1 ?_ | exact tB | refine t2 ?_ ?_ | refine t3 ?_ | refine t4 ?_ ?_ | refine .ofEq ?_ | refine OB.To.cut rfl rfl ?_ ?_ ?_ ?_ | refine OB.To.box rfl rfl ?_ | refine ⟨⟨_, rfl, ?_⟩, ?_⟩ | refine ⟨?_, ?_⟩ | fail))
            all_goals first | (simp; done) | (rw [List.length_eraseIdx, if_pos (by omega)]; done) | (simp only [List.flatMap_append, List.map_append]; rfl)
          · rw [e0, applyR_ok e0]
            rfl
        · cases hr : inR a.m (-1) 5 with
          | false =>
            rw [if_pos ⟨k, hr⟩] at e0
            have c2 := within_T a.m (-1) 5
            rw [hr] at c2
            repeat' (first | (apply X.loE; (· exact aR); (· first | exact .callL rfl rfl rfl (by first | exact hck | exact c1 | exact c2) rfl | exact bl (hck) | exact bl (c1) | exact bl (c2))) | refine X.loc ?_ | refine nx ?_ | refine X.cdT ?_ | refine X.cdF ?_ | refine cb ?_ ?_ | (refine cc ?_ ?_ <;> intro hcond) | (apply X.gsE; (· exact aR); (· exact aV); (· exact aW); (· intro hc; first | exact .callG rfl rfl rfl (by first | exact hck | exact c1 | exact c2) rfl | exact bg (hck) | exact bg (c1) | exact bg (c2)); (· exact aR)) | refine rb ?_ | refine X.c0 (hcp) ?_ | refine nd ?_ | refine dk ?_ | fail)
            refine .le (s' := ⟨[(4, .optr 4 0), (5, .fv (.int .i64 2))], [(4, .box 26 ((encCf cf0).map .fv))]⟩) ?_ (.fun (.inl rfl) rfl ?_)
            · exact tq [] []
            · rw [applyR_bad (by rw [e0]; first | exact he | decide), e0]
              rfl
          | true =>
            rw [if_neg (by rw [hr]; simp)] at e0
            have c2 := within_T a.m (-1) 5
            rw [hr] at c2
            have hset := po_modify c.ps i hi a.m
            repeat' (first | (apply X.loE; (· exact aR); (· first | exact .callL rfl rfl rfl (by first | exact hck | exact c1 | exact c2) rfl | exact bl (hck) | exact bl (c1) | exact bl (c2))) | refine X.loc ?_ | (apply X.stRE; (· exact aS); (· exact hset); (· exact aE)) | refine nx ?_ | refine X.cdT ?_ | refine X.cdF ?_ | refine cb ?_ ?_ | (refine cc ?_ ?_ <;> intro hcond) | (apply X.gsE; (· exact aR); (· exact aV); (· exact aW); (· intro hc; first | exact .callG rfl rfl rfl (by first | exact hck | exact c1 | exact c2) rfl | exact bg (hck) | exact bg (c1) | exact bg (c2)); (· exact aR)) | refine rb ?_ | refine X.c0 (hcp) ?_ | refine nd ?_ | refine dk ?_ | fail)
            refine .le (s' := ⟨[(4, .optr 4 0), (5, .fv (.int .i64 0))], [(4, .box 26 ((encCf (applyC c a)).map .fv))]⟩) ?_ (.fun (.inl rfl) rfl ?_)
            · have e5 : applyC c a = { c with ps := c.ps.modify i fun p => { p with ch := a.m } } := by rw [applyC, if_neg (by rw [k]; decide), if_neg (by rw [k]; decide), if_neg (by rw [k]; decide), if_neg (by rw [k]; decide), if_pos k, ← hx, Int.toNat_natCast]
              rw [e5]
              refine St.to [] [16, 316, 616] rfl rfl ?_ ?_ <;> (repeat' (first | exact tA | refine t1 ?_ | exact tB | refine t2 ?_ ?_ | refine t3 ?_ | refine t4 ?_ ?_ | refine .ofEq ?_ | refine OB.To.cut rfl rfl ?_ ?_ ?_ ?_ | refine OB.To.box rfl rfl ?_ | refine ⟨⟨_, rfl, ?_⟩, ?_⟩ | refine ⟨?_, ?_⟩ | fail))
              all_goals first | (simp; done) | (rw [List.length_eraseIdx, if_pos (by omega)]; done) | (simp only [List.flatMap_append, List.map_append]; rfl)
            · rw [e0, applyR_ok e0]
              rfl
    rw [if_neg k46] at e0
    have k4 : a.kind ≠ 4 := fun h => k46 (.inl h)
    have k6 : a.kind ≠ 6 := fun h => k46 (.inr h)
    by_cases k : a.kind = 5
    · rw [if_pos k] at e0
      by_cases hn : a.n < 0 ∨ (c.acs.length : Int) ≤ a.n
      · rw [if_pos hn] at e0
        repeat' (first | (apply X.loE; (· exact aR); (· first | exact .callL rfl rfl rfl (hck) rfl | exact bl (hck))) | refine X.loc ?_ | refine nx ?_ | refine X.cdT ?_ | refine X.cdF ?_ | refine cb ?_ ?_ | (refine cc ?_ ?_ <;> intro hcond) | (apply X.gsE; (· exact aR); (· exact aV); (· exact aW); (· intro hc; first | exact .callG rfl rfl rfl (hck) rfl | exact bg (hck)); (· exact aR)) | refine rb ?_ | refine X.c0 (hcp) ?_ | refine nd ?_ | refine dk ?_ | fail)
        refine .le (s' := ⟨[(4, .optr 4 0), (5, .fv (.int .i64 6))], [(4, .box 26 ((encCf cf0).map .fv))]⟩) ?_ (.fun (.inl rfl) rfl ?_)
        · exact tq [] []
        · rw [applyR_bad (by rw [e0]; first | exact he | decide), e0]
          rfl
      · rw [if_neg hn] at e0
        obtain ⟨i, hi⟩ : ∃ i : Nat, a.n = i := ⟨a.n.toNat, by omega⟩
        have c2 := deleteAc_T c.acs i (a.n + 1) (by omega) (by omega) hl.2.2
        rw [← hi] at c2
        repeat' (first | (apply X.loE; (· exact aR); (· first | exact .callL rfl rfl rfl (hck) rfl | exact bl (hck))) | refine X.loc ?_ | refine nx ?_ | refine X.cdT ?_ | refine X.cdF ?_ | refine cb ?_ ?_ | (refine cc ?_ ?_ <;> intro hcond) | (apply X.gsE; (· exact aR); (· exact aV); (· exact aW); (· intro hc; first | exact .callG rfl rfl rfl (hck) rfl | exact bg (hck)); (· exact aR)) | refine rb ?_ | refine X.c0 (hcp) ?_ | refine X.c0 (c2) ?_ | refine nd ?_ | refine dk ?_ | fail)
        refine .le (s' := ⟨[(4, .optr 4 0), (5, .fv (.int .i64 0))], [(4, .box 26 ((encCf (applyC c a)).map .fv))]⟩) ?_ (.fun (.inl rfl) rfl ?_)
        · have e5 : applyC c a = { c with acs := c.acs.eraseIdx i } := by rw [applyC, if_neg (by rw [k]; decide), if_neg (by rw [k]; decide), if_neg (by rw [k]; decide), if_neg (by rw [k]; decide), if_neg (by rw [k]; decide), hi, Int.toNat_natCast]
          rw [e5]
          refine St.to [] [16, 316, 111] rfl rfl ?_ ?_ <;> (repeat' (first | exact tA | refine t1 ?_ | exact tB | refine t2 ?_ ?_ | refine t3 ?_ | refine t4 ?_ ?_ | refine .ofEq ?_ | refine OB.To.cut rfl rfl ?_ ?_ ?_ ?_ | refine OB.To.box rfl rfl ?_ | refine ⟨⟨_, rfl, ?_⟩, ?_⟩ | refine ⟨?_, ?_⟩ | fail))
          all_goals first | (simp; done) | (rw [List.length_eraseIdx, if_pos (by omega)]; done) | (simp only [List.flatMap_append, List.map_append]; rfl)
        · rw [e0, applyR_ok e0]
          rfl
    · rw [if_neg k] at e0
      repeat' (first | (apply X.loE; (· exact aR); (· first | exact .callL rfl rfl rfl (hck) rfl | exact bl (hck))) | refine X.loc ?_ | refine nx ?_ | refine X.cdT ?_ | refine X.cdF ?_ | refine cb ?_ ?_ | (refine cc ?_ ?_ <;> intro hcond) | (apply X.gsE; (· exact aR); (· exact aV); (· exact aW); (· intro hc; first | exact .callG rfl rfl rfl (hck) rfl | exact bg (hck)); (· exact aR)) | refine rb ?_ | refine X.c0 (hcp) ?_ | refine nd ?_ | refine dk ?_ | fail)
      refine .le (s' := ⟨[(4, .optr 4 0), (5, .fv (.int .i64 3))], [(4, .box 26 ((encCf cf0).map .fv))]⟩) ?_ (.fun (.inl rfl) rfl ?_)
      · exact tq [] []
      · rw [applyR_bad (by rw [e0]; first | exact he | decide), e0]
        rfl

end Go.Proofs.YtmidechdlbcepaaGreat