/- The walk of the law FramesBack. -/
import Derived.Test.YtdbbmjdeeenlhaaPack31
import Derived.Test.YtdbbmjdeeenlhaaPack29
import Derived.ChangeMaps5
set_option linter.unusedSimpArgs false
set_option linter.unusedVariables false
namespace Go.Proofs.Ytdbbmjdeeenlhaa
open Go.ChangeShapes Go.WideShapes Go.ChangeAt Go.RowKit
set_option maxRecDepth 100000

set_option maxHeartbeats 8000000 in
theorem framesBack_T (r : Rq) (s : ByteArray) (net to cut : Int) (ho : r.Ok) (h1 : N64 net) (h2 : N64 to) (h3 : N64 cut) : Fun Try.prog 13 [.agg ((encRq r).map .fv), .fv (.str s), .fv (.int .i64 net), .fv (.int .i64 to), .fv (.int .i64 cut)] (.fv (.bool true)) := by
  have c0 := frameTells_T
  have c1 := frameQ_T r s ho
  have hok := frameQ_ok r s
  generalize frameQ r s = f at *
  have c2 := encodeF_T f
  have hB : encF f = bytesF f := by rw [encF, if_neg (by omega)]
  rw [hok, hB] at c2
  have hl := bytesF_len f
  have hsz := (frMay hok).body
  obtain ⟨e1, e2⟩ := dec_enc hok
  have c3 := decode_T (bytesF f) (bytesF f).length rfl (by omega)
  rw [e1, e2] at c3
  have hj0 := pick_le (n := cut) (m := (bytesF f).length) (by omega)
  have cj := picked_T cut (bytesF f).length h3.1 h3.2 (by omega)
  obtain ⟨j, hj⟩ : ∃ j : Nat, pick cut (bytesF f).length = j := ⟨_, (Int.toNat_of_nonneg hj0.1).symm⟩
  rw [hj] at cj hj0
  have hjl : j < (bytesF f).length := by omega
  have c4 := decode_T ((bytesF f).take j) j (by rw [List.length_take]; omega) (by omega)
  rw [dec_short hok hjl] at c4
  have c5 := decode_T (bytesF f ++ [0]) ((bytesF f).length + 1) (by simp) (by omega)
  rw [dec_long hok 0] at c5
  have c6 := cloneB_T (bytesF f) (bytesF f).length rfl (by omega)
  have hcells : ((bytesF f).flatMap encB).map AV.fv ++ [AV.fv (.int .u8 0)] = ((bytesF f ++ [0]).flatMap encB).map AV.fv := by rw [List.flatMap_append, List.map_append]; rfl
  have cn := picked_T net 65536 h1.1 h1.2 (by omega)
  have ct := picked_T to 65536 h2.1 h2.2 (by omega)
  have hn0 := pick_le (n := net) (m := 65536) (by omega)
  have ht0 := pick_le (n := to) (m := 65536) (by omega)
  obtain ⟨n, hn⟩ : ∃ n : Nat, pick net 65536 = n := ⟨_, (Int.toNat_of_nonneg hn0.1).symm⟩
  obtain ⟨t, ht⟩ : ∃ t : Nat, pick to 65536 = t := ⟨_, (Int.toNat_of_nonneg ht0.1).symm⟩
  rw [hn] at cn hn0
  rw [ht] at ct ht0
  have c7 := wrap_T n t f
  obtain ⟨u1, u2, u3, u4, u5, u6⟩ := unw_wrap hok (show n ≤ 65535 by omega) (show t ≤ 65535 by omega)
  rw [u1] at c7
  have c8 := unwrap_T (wrapR n t f) (wrapR n t f).length rfl (by omega)
  rw [u2, u3, u4, u5] at c8
  generalize wrapR (n : Int) (t : Int) f = w at *
  generalize decR ((bytesF f).take j) = R1 at *
  generalize decR (bytesF f ++ [0]) = R2 at *
  have hbl : (bytesF f).length = (bytesF f).length := rfl
  generalize bytesF f = B at *
  refine Fun.body tbl_ok Try.func13 rfl (by kernel_rfl) rfl rfl rfl ?_
  repeat' (first
    | (apply X.loE; (· exact aR); (· first | (exact .eff (.sliHB j hbl rfl rfl rfl rfl (by omega))) | exact .callL rfl rfl rfl (by first | exact c0 | exact c1 | exact c2 | exact c3 | exact cj | exact c4 | exact c5 | exact cn | exact ct | exact c7 | exact c8) rfl | (apply LEff.callBL; (· rfl); (· rfl); (· exact c0); (· exact aB); (· rfl)) | (apply LEff.callBL; (· rfl); (· rfl); (· exact c1); (· exact aB); (· rfl)) | (apply LEff.callBL; (· rfl); (· rfl); (· exact c2); (· exact aB); (· rfl)) | (apply LEff.callBL; (· rfl); (· rfl); (· exact c3); (· exact aB); (· rfl)) | (apply LEff.callBL; (· rfl); (· rfl); (· exact cj); (· exact aB); (· rfl)) | (apply LEff.callBL; (· rfl); (· rfl); (· exact c4); (· exact aB); (· rfl)) | (apply LEff.callBL; (· rfl); (· rfl); (· exact c5); (· exact aB); (· rfl)) | (apply LEff.callBL; (· rfl); (· rfl); (· exact cn); (· exact aB); (· rfl)) | (apply LEff.callBL; (· rfl); (· rfl); (· exact ct); (· exact aB); (· rfl)) | (apply LEff.callBL; (· rfl); (· rfl); (· exact c7); (· exact aB); (· rfl)) | (apply LEff.callBL; (· rfl); (· rfl); (· exact c8); (· exact aB); (· rfl))))
    | refine X.loc ?_
    | refine nx ?_
    | refine X.cdT ?_
    | refine X.cdF ?_
    | (refine WP.condBit rfl ?_ ?_)
    | (refine WP.cond rfl ?_ ?_ <;> intro hcond)
    | (apply X.gsE; (· exact aR); (· exact aV); (· exact aW); (· intro hc; first | (exact .eff (.sliHB j hbl rfl rfl rfl rfl (by omega))) | exact .callG rfl rfl rfl (by first | exact c0 | exact c1 | exact c2 | exact c3 | exact cj | exact c4 | exact c5 | exact cn | exact ct | exact c7 | exact c8) rfl | (apply LEff.callBG; (· rfl); (· rfl); (· exact c0); (· exact aB); (· rfl)) | (apply LEff.callBG; (· rfl); (· rfl); (· exact c1); (· exact aB); (· rfl)) | (apply LEff.callBG; (· rfl); (· rfl); (· exact c2); (· exact aB); (· rfl)) | (apply LEff.callBG; (· rfl); (· rfl); (· exact c3); (· exact aB); (· rfl)) | (apply LEff.callBG; (· rfl); (· rfl); (· exact cj); (· exact aB); (· rfl)) | (apply LEff.callBG; (· rfl); (· rfl); (· exact c4); (· exact aB); (· rfl)) | (apply LEff.callBG; (· rfl); (· rfl); (· exact c5); (· exact aB); (· rfl)) | (apply LEff.callBG; (· rfl); (· rfl); (· exact cn); (· exact aB); (· rfl)) | (apply LEff.callBG; (· rfl); (· rfl); (· exact ct); (· exact aB); (· rfl)) | (apply LEff.callBG; (· rfl); (· rfl); (· exact c7); (· exact aB); (· rfl)) | (apply LEff.callBG; (· rfl); (· rfl); (· exact c8); (· exact aB); (· rfl))); (· exact aR))
    | refine X.gst ?_ | refine X.gld ?_ | refine X.new ?_ | refine X.app ?_ | refine X.appS ?_ | refine X.stoW ?_ | refine X.stoB ?_ | refine X.stoR ?_ | refine X.gand ?_ | refine X.gor ?_
    | (apply X.cal false; (· exact aR); (· exact c6); (· exact aC))
    | refine nd ?_
    | ((with_reducible apply drwK.mk); (· kernel_rfl); (· exact aF))
    | fail)
  refine .f1 (.inl rfl) rfl ?_
  simp [beqL, beqV]
theorem framesBack_open {H : Type} {enc : TypeId × Value → H} (W : World) (base : Nat) {v0 v1 v2 v3 v4 : Value} {d0 d1 d2 d3 d4 : DataW H} {p0 p1 p2 p3 p4 : List MemPlace} (hv0 : Value.okWide Try.prog W .any base 67 v0)
    (h0 : DataW.Trod enc Try.prog W 0 (fun _ => true) true 67 v0 d0 p0) (_hs0 : SizedCl Try.prog 67 d0) (hv1 : Value.okWide Try.prog W .any base 9 v1)
    (h1 : DataW.Trod enc Try.prog W 0 (fun _ => true) true 9 v1 d1 p1) (_hs1 : SizedCl Try.prog 9 d1) (hv2 : Value.okWide Try.prog W .any base 3 v2)
    (h2 : DataW.Trod enc Try.prog W 0 (fun _ => true) true 3 v2 d2 p2) (_hs2 : SizedCl Try.prog 3 d2) (hv3 : Value.okWide Try.prog W .any base 3 v3)
    (h3 : DataW.Trod enc Try.prog W 0 (fun _ => true) true 3 v3 d3 p3) (_hs3 : SizedCl Try.prog 3 d3) (hv4 : Value.okWide Try.prog W .any base 3 v4)
    (h4 : DataW.Trod enc Try.prog W 0 (fun _ => true) true 3 v4 d4 p4) (_hs4 : SizedCl Try.prog 3 d4) : Calls Try.prog 13 #[v0, v1, v2, v3, v4] W fun e W' => e = .returned (.bool true) ∧ Below W.heap.size W W' := by
  obtain ⟨r, ho, cs, rfl, hc⟩ := open_raw hv0 h0
  obtain ⟨s, rfl, _, _, hs⟩ := Go.ChangeMaps.open_string Try.underlying9 hv1 h1
  obtain ⟨a, rfl, _, _, ha⟩ := open_int Try.underlying3 hv2 h2
  obtain ⟨b, rfl, _, _, hb⟩ := open_int Try.underlying3 hv3 h3
  obtain ⟨c, rfl, _, _, hcc⟩ := open_int Try.underlying3 hv4 h4
  exact (framesBack_T r s a b c ho (i64_of_wf ha) (i64_of_wf hb) (i64_of_wf hcc)).yes ⟨rep_agg hc, ⟨rfl, hs⟩, rfl, rfl, rfl, trivial⟩
end Go.Proofs.Ytdbbmjdeeenlhaa
