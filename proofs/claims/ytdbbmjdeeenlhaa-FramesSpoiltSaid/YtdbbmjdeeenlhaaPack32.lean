/- The walk of the law FramesSpoilt. -/
import Derived.Test.YtdbbmjdeeenlhaaPack31
import Derived.Test.YtdbbmjdeeenlhaaPack29
import Derived.ChangeMaps5
set_option linter.unusedSimpArgs false
set_option linter.unusedVariables false
namespace Go.Proofs.Ytdbbmjdeeenlhaa
open Go.ChangeShapes Go.WideShapes Go.ChangeAt Go.RowKit
set_option maxRecDepth 100000

theorem u8_add (a b : UInt8) : IntKind.u8.wrap ((a.toNat : Int) + (b.toNat : Int)) = ((a + b).toNat : Int) := by
  have := u8_wrap (a.toNat + b.toNat)
  rw [show ((a.toNat + b.toNat : Nat) : Int) = (a.toNat : Int) + (b.toNat : Int) by omega] at this
  rw [this, UInt8.ofNat_add, UInt8.ofNat_toNat, UInt8.ofNat_toNat]
theorem u8_self {a b : UInt8} (h : a + b = a) : b = 0 := by
  have h1 := congrArg UInt8.toNat h
  rw [UInt8.toNat_add] at h1
  have h2 := a.toNat_lt
  have h3 := b.toNat_lt
  apply UInt8.toNat_inj.1
  show b.toNat = 0
  omega
theorem u8_eq0 {a : UInt8} {n : Nat} (hn : n < 256) : ((a.toNat : Int) == (n : Int)) = decide (a = UInt8.ofNat n) := by
  have := u8_ne (a := a) hn
  rw [bne, Bool.not_inj_iff] at this
  exact this
set_option maxHeartbeats 8000000 in
theorem framesSpoilt_T (r : Rq) (s : ByteArray) (at_ : Int) (by_ : UInt8) (ho : r.Ok) (h1 : N64 at_) : Fun Try.prog 11 [.agg ((encRq r).map .fv), .fv (.str s), .fv (.int .i64 at_), .fv (.int .u8 (by_.toNat : Int))] (.fv (.bool true)) := by
  have c0 := frameTells_T
  have c1 := frameQ_T r s ho
  have hok := frameQ_ok r s
  generalize frameQ r s = f at *
  have c2 := encode_T f
  have hB : encF f = bytesF f := by rw [encF, if_neg (by omega)]
  rw [hok, hB] at c2
  have hl := bytesF_len f
  have hsz := (frMay hok).body
  have hj0 := pick_le (n := at_) (m := (bytesF f).length) (by omega)
  have cj := picked_T at_ (bytesF f).length h1.1 h1.2 (by omega)
  obtain ⟨j, hj⟩ : ∃ j : Nat, pick at_ (bytesF f).length = j := ⟨_, (Int.toNat_of_nonneg hj0.1).symm⟩
  rw [hj] at cj hj0
  have hjl : j < (bytesF f).length := by omega
  have hread := fun off => readBy (l := bytesF f) (i := j) (off := off)
  have hadd := u8_add (byteAt (bytesF f) j) by_
  have hspo := fun (h : byteAt (bytesF f) j + by_ ≠ byteAt (bytesF f) j) => dec_spoilt hok hjl h
  have hself := fun (h : byteAt (bytesF f) j + by_ = byteAt (bytesF f) j) => u8_self h
  have hset := fun off (h : off = j) => setBy (l := bytesF f) (c := byteAt (bytesF f) j + by_) h hjl
  have hb2 : byteAt ((bytesF f).set j (byteAt (bytesF f) j + by_)) j = byteAt (bytesF f) j + by_ := by rw [byteAt_set hjl, if_pos rfl]
  have c3 := decode_T ((bytesF f).set j (byteAt (bytesF f) j + by_)) (bytesF f).length (by simp) (by omega)
  have hl2 : ((bytesF f).set j (byteAt (bytesF f) j + by_)).length = (bytesF f).length := by simp
  generalize byteAt (bytesF f) j = was at *
  generalize was + by_ = now at *
  have hread2 := fun off (h : off = j) => readBy (l := (bytesF f).set j now) h (by omega)
  rw [hb2] at hread2
  generalize hS : (bytesF f).set j now = S at *
  generalize decR S = R at *
  generalize decFault S = E at *
  generalize bytesF f = B at *
  have hx : ∀ off, off = j → setC ((B.flatMap encB).map AV.fv) off [AV.fv (.int .u8 (IntKind.u8.wrap ((was.toNat : Int) + (by_.toNat : Int))))] = some ((S.flatMap encB).map AV.fv) := fun off h => by rw [hadd]; exact hset off h
  refine Fun.body tbl_ok Try.func11 rfl (by kernel_rfl) rfl rfl rfl ?_
  repeat' (first
    | (apply X.loE; (· exact aR); (· first | (exact .eff (.loadO rfl rfl (hread _ (by omega) hjl))) | (exact .eff (.loadO rfl rfl (hread2 _ (by omega)))) | exact .callL rfl rfl rfl (by first | exact c0 | exact c1 | exact cj | exact c3) rfl | (apply LEff.callBL; (· rfl); (· rfl); (· exact c0); (· exact aB); (· rfl)) | (apply LEff.callBL; (· rfl); (· rfl); (· exact c1); (· exact aB); (· rfl)) | (apply LEff.callBL; (· rfl); (· rfl); (· exact cj); (· exact aB); (· rfl)) | (apply LEff.callBL; (· rfl); (· rfl); (· exact c3); (· exact aB); (· rfl))))
    | refine X.loc ?_
    | (apply X.stRE; (· exact aS); (· exact (hx _ (by omega))); (· exact aE))
    | refine nx ?_
    | refine X.cdT ?_
    | refine X.cdF ?_
    | (refine WP.condBit rfl ?_ ?_)
    | (refine WP.cond rfl ?_ ?_ <;> intro hcond)
    | (apply X.gsE; (· exact aR); (· exact aV); (· exact aW); (· intro hc; first | (exact .eff (.loadO rfl rfl (hread _ (by omega) hjl))) | (exact .eff (.loadO rfl rfl (hread2 _ (by omega)))) | exact .callG rfl rfl rfl (by first | exact c0 | exact c1 | exact cj | exact c3) rfl | (apply LEff.callBG; (· rfl); (· rfl); (· exact c0); (· exact aB); (· rfl)) | (apply LEff.callBG; (· rfl); (· rfl); (· exact c1); (· exact aB); (· rfl)) | (apply LEff.callBG; (· rfl); (· rfl); (· exact cj); (· exact aB); (· rfl)) | (apply LEff.callBG; (· rfl); (· rfl); (· exact c3); (· exact aB); (· rfl))); (· exact aR))
    | refine X.gst ?_ | refine X.gld ?_ | refine X.new ?_ | refine X.app ?_ | refine X.appS ?_ | refine X.stoW ?_ | refine X.stoB ?_ | refine X.stoR ?_ | refine X.gand ?_ | refine X.gor ?_
    | (apply X.cal false; (· exact aR); (· exact c2); (· exact aC))
    | refine nd ?_
    | ((with_reducible apply drwK.mk); (· kernel_rfl); (· exact aF))
    | fail)
  · exact .f1 (.inl rfl) rfl rfl
  · have hby : by_ ≠ 0 := by
      rintro rfl
      simp at hcond
    have hE := hspo (fun h => hby (hself h))
    refine .f1 (.inl rfl) rfl ?_
    have : (E != 0) = true := by simpa using hE
    simp [this]
theorem framesSpoilt_open {H : Type} {enc : TypeId × Value → H} (W : World) (base : Nat) {v0 v1 v2 v3 : Value} {d0 d1 d2 d3 : DataW H} {p0 p1 p2 p3 : List MemPlace} (hv0 : Value.okWide Try.prog W .any base 67 v0)
    (h0 : DataW.Trod enc Try.prog W 0 (fun _ => true) true 67 v0 d0 p0) (_hs0 : SizedCl Try.prog 67 d0) (hv1 : Value.okWide Try.prog W .any base 9 v1)
    (h1 : DataW.Trod enc Try.prog W 0 (fun _ => true) true 9 v1 d1 p1) (_hs1 : SizedCl Try.prog 9 d1) (hv2 : Value.okWide Try.prog W .any base 3 v2)
    (h2 : DataW.Trod enc Try.prog W 0 (fun _ => true) true 3 v2 d2 p2) (_hs2 : SizedCl Try.prog 3 d2) (hv3 : Value.okWide Try.prog W .any base 5 v3)
    (h3 : DataW.Trod enc Try.prog W 0 (fun _ => true) true 5 v3 d3 p3) (_hs3 : SizedCl Try.prog 5 d3) : Calls Try.prog 11 #[v0, v1, v2, v3] W fun e W' => e = .returned (.bool true) ∧ Below W.heap.size W W' := by
  obtain ⟨r, ho, cs, rfl, hc⟩ := open_raw hv0 h0
  obtain ⟨s, rfl, _, _, hs⟩ := Go.ChangeMaps.open_string Try.underlying9 hv1 h1
  obtain ⟨a, rfl, _, _, ha⟩ := open_int Try.underlying3 hv2 h2
  obtain ⟨b, rfl, _, _, hb⟩ := open_int Try.underlying5 hv3 h3
  have hb2 : 0 ≤ b ∧ b ≤ 255 := by simpa [Lit.wf, IntKind.min, IntKind.max, IntKind.signed, IntKind.bits] using hb
  have e : ((UInt8.ofNat b.toNat).toNat : Int) = b := by
    rw [UInt8.toNat_ofNat']
    omega
  have := framesSpoilt_T r s a (UInt8.ofNat b.toNat) ho (i64_of_wf ha)
  rw [e] at this
  exact this.yes ⟨rep_agg hc, ⟨rfl, hs⟩, rfl, rfl, trivial⟩
end Go.Proofs.Ytdbbmjdeeenlhaa
