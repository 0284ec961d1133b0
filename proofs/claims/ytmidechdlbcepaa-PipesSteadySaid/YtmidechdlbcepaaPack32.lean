import Derived.Test.YtmidechdlbcepaaPack26
import Derived.Test.YtmidechdlbcepaaPack31
import Derived.Test.YtmidechdlbcepaaPack27
import Derived.ChangeMaps5
set_option linter.unusedSimpArgs false
set_option linter.unusedVariables false
namespace Go.Proofs.Ytmidechdlbcepaa
open Go.ChangeShapes Go.WideShapes Go.ChangeAt Go.RowKit
set_option maxRecDepth 100000

theorem steady_pk {f : Fr} (h : frameFault f = 0) : pkE f 1 2 3 = 0 ∧ pkR f 1 2 3 = pkOf f 1 2 3 ∧ frR (pkOf f 1 2 3) = f := by
  have hf := frMay h
  have hp := pw_pkOf hf (i := 1) (n := 2) (t := 3) (by omega) (by omega) (by omega)
  have hpf : packetFault (pkOf f 1 2 3) = 0 := by
    unfold packetFault
    rw [if_pos, if_neg (by have := hf.body; show ¬ 40 < f.body.size; omega)]
    show List.all [_, _, _, _, _, _, _, _, _, _] word = true
    simp only [List.all_cons, List.all_nil, hp.w0, hp.w1, hp.w2, hp.w3, hp.w4, hp.w5, hp.w6, hp.w7, hp.w8, hp.w9, Bool.and_true]
  have e : pkE f 1 2 3 = 0 := by unfold pkE; rw [if_neg (by omega), hpf]
  refine ⟨e, by unfold pkR; rw [if_neg (by omega)], ?_⟩
  unfold frR
  rw [frOfP_pk, if_neg (by omega)]
set_option maxHeartbeats 8000000 in
theorem pipesSteady_T (l : List Rq) (r : Rq) (s : ByteArray) (ch : Int) (hl : ∀ x ∈ l, x.Ok) (ho : r.Ok) (hn : N64 ch) : Fun Try.prog 4 [.fv (slOf encRq l), .agg ((encRq r).map .fv), .fv (.str s), .fv (.int .i64 ch)] (.fv (.bool true)) := by
  have c1 := conf_T l 40 hl (by omega)
  have hc := confOf_ok l 40
  generalize confOf l 40 = c at *
  have p1 := picked_T ch 6 hn.1 hn.2 (by omega)
  have p2 := picked_T ch 9 hn.1 hn.2 (by omega)
  have h6 := pick_le (n := ch) (m := 6) (by omega)
  have h9 := pick_le (n := ch) (m := 9) (by omega)
  generalize pick ch 6 = a at *
  generalize pick ch 9 = b at *
  have c2 := compile_T c a hc.small
  have ha : 0 ≤ a ∧ a ≤ 5 := by omega
  rw [compE_ok hc ha, compR_ok hc ha] at c2
  have c3 := compile_T c (6 + b) hc.small
  have e3 : compE c (6 + b) = 2 := by
    unfold compE
    rw [if_neg (by rw [cfMay_iff.2 hc]; simp), if_pos (by omega)]
  rw [e3] at c3
  generalize compR c (6 + b) = R3 at *
  have c4 := flowCheck_T (compF_ c a)
  rw [comp_fault hc ha] at c4
  have c5 := sortFr_T (compF_ c a) (comp_room hc ha)
  rw [sortedF_id (comp_strict c a)] at c5
  have c6 := sameK_T (compF_ c a) (fun g hg => flS_ok (comp_ok hc ha hg)) (by have := comp_len (ch := a) hc; omega)
  generalize compF_ c a = M at *
  have c7 := frameQ_T r s ho
  have hok := frameQ_ok r s
  generalize frameQ r s = f at *
  obtain ⟨g1, g2, g3⟩ := steady_pk hok
  have c8 := packet_T f 1 2 3
  rw [g1, g2] at c8
  have c9 := pframe_T (pkOf f 1 2 3)
  rw [g3, frOfP_pk, hok] at c9
  refine Fun.body tbl_ok Try.func4 rfl (by kernel_rfl) rfl rfl rfl ?_
  repeat' (first | (apply X.loE; (· exact aR); (· first | exact .callL rfl rfl rfl (by first | exact c1 | exact p1 | exact p2 | exact c2 | exact c3 | exact c4 | exact c5 | exact c6 | exact c7 | exact c8 | exact c9) rfl | exact bl (c1) | exact bl (p1) | exact bl (p2) | exact bl (c2) | exact bl (c3) | exact bl (c4) | exact bl (c5) | exact bl (c6) | exact bl (c7) | exact bl (c8) | exact bl (c9))) | refine X.loc ?_ | refine nx ?_ | refine X.cdT ?_ | refine X.cdF ?_ | (refine WP.condBit rfl ?_ ?_) | (refine WP.cond rfl ?_ ?_ <;> intro hcond) | (apply X.gsE; (· exact aR); (· exact aV); (· exact aW); (· intro hc; first | exact .callG rfl rfl rfl (by first | exact c1 | exact p1 | exact p2 | exact c2 | exact c3 | exact c4 | exact c5 | exact c6 | exact c7 | exact c8 | exact c9) rfl | exact bg (c1) | exact bg (p1) | exact bg (p2) | exact bg (c2) | exact bg (c3) | exact bg (c4) | exact bg (c5) | exact bg (c6) | exact bg (c7) | exact bg (c8) | exact bg (c9)); (· exact aR)) | refine rb ?_ | refine nd ?_ | refine dk ?_ | fail)
  refine .f1 (.inl rfl) rfl ?_
  simp [beqL, beqV]
  exact ⟨⟨rfl, rfl⟩, rfl⟩
theorem pipesSteady_open {H : Type} {enc : TypeId × Value → H} (W : World) (base : Nat) {v0 v1 v2 v3 : Value} {d0 d1 d2 d3 : DataW H} {p0 p1 p2 p3 : List MemPlace} (hv0 : Value.okWide Try.prog W .any base 42 v0)
    (h0 : DataW.Trod enc Try.prog W 0 (fun _ => true) true 42 v0 d0 p0) (hs0 : SizedCl Try.prog 42 d0) (hv1 : Value.okWide Try.prog W .any base 44 v1)
    (h1 : DataW.Trod enc Try.prog W 0 (fun _ => true) true 44 v1 d1 p1) (_hs1 : SizedCl Try.prog 44 d1) (hv2 : Value.okWide Try.prog W .any base 9 v2)
    (h2 : DataW.Trod enc Try.prog W 0 (fun _ => true) true 9 v2 d2 p2) (_hs2 : SizedCl Try.prog 9 d2) (hv3 : Value.okWide Try.prog W .any base 3 v3)
    (h3 : DataW.Trod enc Try.prog W 0 (fun _ => true) true 3 v3 d3 p3) (_hs3 : SizedCl Try.prog 3 d3) : Calls Try.prog 4 #[v0, v1, v2, v3] W fun e W' => e = .returned (.bool true) ∧ Below W.heap.size W W' := by
  obtain ⟨l, hl, _, hr⟩ := open_raws hv0 h0 hs0
  obtain ⟨r, ho, cs, rfl, hc⟩ := open_raw hv1 h1
  obtain ⟨s, rfl, _, _, hs⟩ := Go.ChangeMaps.open_string Try.underlying9 hv2 h2
  obtain ⟨a, rfl, _, _, ha⟩ := open_int Try.underlying3 hv3 h3
  exact (pipesSteady_T l r s a hl ho (i64_of_wf ha)).yes ⟨hr, rep_agg hc, ⟨rfl, hs⟩, rfl, trivial⟩
end Go.Proofs.Ytmidechdlbcepaa
