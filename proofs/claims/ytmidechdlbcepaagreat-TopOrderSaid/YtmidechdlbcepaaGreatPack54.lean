import Derived.Test.YtmidechdlbcepaaGreatPack49
import Derived.Test.YtmidechdlbcepaaGreatPack53
import Derived.Test.YtmidechdlbcepaaGreatPack52
import Derived.Test.YtmidechdlbcepaaGreatPack51
import Derived.Test.YtmidechdlbcepaaGreatPack37
import Derived.Test.YtmidechdlbcepaaGreatPack47
set_option linter.unusedSimpArgs false
set_option linter.unusedVariables false
namespace Go.Proofs.YtmidechdlbcepaaGreat
open Go.RowKit
set_option maxRecDepth 100000
theorem grow_T (n : Nat) (h0 : 0 < n) (hn : n ≤ 100000) : FunO Tryz.prog 70 [.nil, .fv (.int .i64 (n : Int))] [] (.osl 7) [(7, .row 74 28 0 [])] := by
  refine FunO.bodyL tbl_ok Tryz.func70 rfl (by kernel_rfl) rfl rfl rfl ?_
  repeat' (first | (apply X.loE; (· exact aR); (· first | (exact .eff (.oH (h := 0) rfl rfl rfl rfl (by omega))))) | refine X.loc ?_ | (refine X.capN ?_) | (refine X.sliN ?_) | (refine X.appZE (k := n) Tryz.underlying3 ?_ ?_; (· exact ⟨by omega, by omega, by omega, h0⟩)) | refine nx ?_ | refine X.cdT ?_ | refine X.cdF ?_ | refine cb ?_ ?_ | (refine cc ?_ ?_ <;> intro hcond) | (apply X.gsE; (· exact aR); (· exact aV); (· exact aW); (· intro hc; first | (exact .eff (.oH (h := 0) rfl rfl rfl rfl (by omega)))); (· exact aR)) | refine rb ?_ | refine nd ?_ | refine dk ?_ | fail)
  refine .ofL (s' := ⟨[(4, .osl 7)], [(7, .row 74 28 0 [])]⟩) (by first | exact .inl rfl | exact .inr rfl) ?_ rfl rfl (by repeat' (first | exact trivial | refine ⟨⟨_, rfl, fun _ _ _ _ h => h⟩, ?_⟩))
  refine St.to [(7, .cut 22 0)] [] rfl rfl ?_ ?_ <;> (repeat' (first | exact tA | refine t1 ?_ | exact tB | refine t2 ?_ ?_ | refine t3 ?_ | refine t4 ?_ ?_ | refine .ofEq ?_ | refine OB.To.cut rfl rfl ?_ ?_ ?_ ?_ | refine OB.To.box rfl rfl ?_ | refine ⟨⟨_, rfl, ?_⟩, ?_⟩ | refine ⟨?_, ?_⟩ | fail))
  · exact .cut rfl
  · exact .cut rfl rfl (by omega) rfl (by rw [Nat.zero_mul, List.take_zero]) .nil
def encS (l : List De) : List FV := [slOf encDe l]
theorem encS_len (l : List De) : (encS l).length = 1 := rfl
set_option maxHeartbeats 4000000 in
theorem concat_T (L : List (List De)) (hL : L.length ≤ 100) (h0 : 0 < L.flatten.length) (hn : L.flatten.length ≤ 1000) : FunO Tryz.prog 41 [.fv (slOf encS L)] [] (.osl 7) [(7, .row 74 28 L.flatten.length ((L.flatten.flatMap encDe).map .fv))] := by
  have hle : ∀ k, (L.take k).flatten.length ≤ L.flatten.length := fun k => by
    conv => rhs; rw [← List.take_append_drop k L, List.flatten_append, List.length_append]
    omega
  refine FunO.bodyL tbl_ok Tryz.func41 rfl (by kernel_rfl) rfl rfl rfl ?_
  repeat' (first | refine X.loc ?_ | refine nx ?_ | refine X.cdT ?_ | refine X.cdF ?_ | refine cb ?_ ?_ | (refine cc ?_ ?_ <;> intro hcond) | refine rb ?_ | refine nd ?_ | refine dk ?_ | fail)
  refine WP.loop (ι := Nat) (fun k => ⟨[(0, .fv (slOf encS L)), (3, .fv (.int .i64 ((L.take k).flatten.length : Int))), (9, .fv (slOf encS L)), (10, .fv (.int .i64 L.length)), (11, .fv (.int .i64 k))], []⟩) (fun k => k ≤ L.length) (fun k => L.length - k) 0 (by omega) ?_ ?_
  · exact tq [] []
  rintro k hk
  try dsimp only
  by_cases hlt : k < L.length
  case pos =>
    obtain ⟨x, hx⟩ : ∃ x, L[k]? = some x := ⟨_, List.getElem?_eq_getElem hlt⟩
    have hs : (L.take (k + 1)).flatten.length = (L.take k).flatten.length + x.length := by
      rw [take_succ hx, List.flatten_append, List.length_append]
      simp
    have h1 := hle (k + 1)
    rw [hs] at h1
    generalize (L.take k).flatten.length = m at *
    repeat' (first | (apply X.loE; (· exact aR); (· first | (exact .eff (.idxS rfl rfl rfl encS_len hx)))) | refine X.loc ?_ | refine nx ?_ | refine X.cdT ?_ | refine X.cdF ?_ | refine cb ?_ ?_ | (refine cc ?_ ?_ <;> intro hcond) | (apply X.gsE; (· exact aR); (· exact aV); (· exact aW); (· intro hc; first | (exact .eff (.idxS rfl rfl rfl encS_len hx))); (· exact aR)) | refine rb ?_ | refine nd ?_ | refine dk ?_ | fail)
    refine ⟨k + 1, by omega, by omega, ?_⟩
    try dsimp only
    rw [hs, Int.natCast_add]
    exact tq [] []
  rw [List.take_of_length_le (by omega)]
  have c1 := grow_T L.flatten.length h0 (by omega)
  repeat' (first | refine X.loc ?_ | refine nx ?_ | refine X.cdT ?_ | refine X.cdF ?_ | refine cb ?_ ?_ | (refine cc ?_ ?_ <;> intro hcond) | refine rb ?_ | refine X.c0 (c1) ?_ | refine nd ?_ | refine dk ?_ | fail)
  refine WP.loop (ι := Nat) (fun k => ⟨[(6, .osl 900), (25, .fv (slOf encS L)), (26, .fv (.int .i64 L.length)), (27, .fv (.int .i64 k))], [(900, .row 74 28 (L.take k).flatten.length (((L.take k).flatten.flatMap encDe).map .fv))]⟩) (fun k => k ≤ L.length) (fun k => L.length - k) 0 (by omega) ?_ ?_
  · try dsimp only
    rw [List.take_zero, List.flatten_nil]
    refine St.to [(900, .id 24)] [] rfl rfl ?_ ?_ <;> (repeat' (first | exact tA | refine t1 ?_ | exact tB | refine t2 ?_ ?_ | refine t3 ?_ | refine t4 ?_ ?_ | refine .ofEq ?_ | refine OB.To.cut rfl rfl ?_ ?_ ?_ ?_ | refine OB.To.box rfl rfl ?_ | refine ⟨⟨_, rfl, ?_⟩, ?_⟩ | refine ⟨?_, ?_⟩ | fail))
    all_goals first | rfl | omega | (simp; done)
  rintro k hk
  try dsimp only
  by_cases hlt : k < L.length
  case pos =>
    obtain ⟨x, hx⟩ : ∃ x, L[k]? = some x := ⟨_, List.getElem?_eq_getElem hlt⟩
    have hs : (L.take (k + 1)).flatten = (L.take k).flatten ++ x := by
      rw [take_succ hx, List.flatten_append]
      simp
    have h1 := hle (k + 1)
    rw [hs, List.length_append] at h1
    generalize (L.take k).flatten = Q at *
    repeat' (first | (apply X.loE; (· exact aR); (· first | (exact .eff (.idxS rfl rfl rfl encS_len hx)))) | refine X.loc ?_ | refine nx ?_ | refine X.cdT ?_ | refine X.cdF ?_ | refine cb ?_ ?_ | (refine cc ?_ ?_ <;> intro hcond) | (apply X.gsE; (· exact aR); (· exact aV); (· exact aW); (· intro hc; first | (exact .eff (.idxS rfl rfl rfl encS_len hx))); (· exact aR)) | refine rb ?_ | refine nd ?_ | refine dk ?_ | fail)
    refine ⟨k + 1, by omega, by omega, ?_⟩
    try dsimp only
    rw [hs]
    refine St.to [(900, .id 33)] [] rfl rfl ?_ ?_ <;> (repeat' (first | exact tA | refine t1 ?_ | exact tB | refine t2 ?_ ?_ | refine t3 ?_ | refine t4 ?_ ?_ | refine .ofEq ?_ | refine OB.To.cut rfl rfl ?_ ?_ ?_ ?_ | refine OB.To.box rfl rfl ?_ | refine ⟨⟨_, rfl, ?_⟩, ?_⟩ | refine ⟨?_, ?_⟩ | fail))
    all_goals first | omega | (simp; done) | (simp only [List.flatMap_append, List.map_append]; rfl)
  rw [List.take_of_length_le (by omega)]
  generalize L.flatten = W at *
  repeat' (first | refine X.loc ?_ | refine nx ?_ | refine X.cdT ?_ | refine X.cdF ?_ | refine cb ?_ ?_ | (refine cc ?_ ?_ <;> intro hcond) | refine rb ?_ | refine nd ?_ | refine dk ?_ | fail)
  exact rq ⟨[(2, .osl 7)], [(7, .row 74 28 W.length ((W.flatMap encDe).map .fv))]⟩ (tq [(7, .id 900)] [])
theorem all0_T : FunO Tryz.prog 42 [] [] (.osl 7) [(7, .row 74 28 allA.length ((allA.flatMap encDe).map .fv))] := by
  refine FunO.bodyL tbl_ok Tryz.func42 rfl (by kernel_rfl) rfl rfl rfl ?_
  repeat' (first | refine X.loc ?_ | refine nx ?_ | refine X.cdT ?_ | refine X.cdF ?_ | refine cb ?_ ?_ | (refine cc ?_ ?_ <;> intro hcond) | refine rb ?_ | refine nd ?_ | refine dk ?_ | fail)
  refine WP.loop (ι := Nat) (fun k => ⟨[(1, .osl 900), (3, .fv (.int .i64 k))], [(900, .row 74 28 ((List.range k).map fun i : Nat => deSy (i : Int)).length ((((List.range k).map fun i : Nat => deSy (i : Int)).flatMap encDe).map .fv))]⟩) (fun k => k ≤ 6) (fun k => 6 - k) 0 (by omega) ?_ ?_
  · try dsimp only
    rw [List.range_zero, List.map_nil]
    exact tq [(900, .nil)] []
  rintro k hk
  try dsimp only
  by_cases hlt : k < 6
  case pos =>
    have hs : ((List.range (k + 1)).map fun i : Nat => deSy (i : Int)) = ((List.range k).map fun i : Nat => deSy (i : Int)) ++ [deSy (k : Int)] := by
      rw [List.range_succ, List.map_append]
      rfl
    have hQ : ((List.range k).map fun i : Nat => deSy (i : Int)).length ≤ 6 := by
      rw [List.length_map, List.length_range]
      omega
    generalize ((List.range k).map fun i : Nat => deSy (i : Int)) = Q at *
    repeat' (first | refine X.loc ?_ | refine nx ?_ | refine X.cdT ?_ | refine X.cdF ?_ | refine cb ?_ ?_ | (refine cc ?_ ?_ <;> intro hcond) | refine rb ?_ | refine nd ?_ | refine dk ?_ | fail)
    refine ⟨k + 1, by omega, by omega, ?_⟩
    try dsimp only
    rw [hs]
    refine St.to [(900, .id 10)] [] rfl rfl ?_ ?_ <;> (repeat' (first | exact tA | refine t1 ?_ | exact tB | refine t2 ?_ ?_ | refine t3 ?_ | refine t4 ?_ ?_ | refine .ofEq ?_ | refine OB.To.cut rfl rfl ?_ ?_ ?_ ?_ | refine OB.To.box rfl rfl ?_ | refine ⟨⟨_, rfl, ?_⟩, ?_⟩ | refine ⟨?_, ?_⟩ | fail))
    all_goals first | omega | (simp; done) | (simp only [List.flatMap_append, List.map_append]; rfl)
  obtain rfl : k = 6 := by omega
  have hW : ((List.range 6).map fun i : Nat => deSy (i : Int)) = allA := rfl
  rw [hW]
  generalize allA = W at *
  repeat' (first | refine X.loc ?_ | refine nx ?_ | refine X.cdT ?_ | refine X.cdF ?_ | refine cb ?_ ?_ | (refine cc ?_ ?_ <;> intro hcond) | refine rb ?_ | refine nd ?_ | refine dk ?_ | fail)
  exact rq ⟨[(0, .osl 7)], [(7, .row 74 28 W.length ((W.flatMap encDe).map .fv))]⟩ (tq [(7, .id 900)] [])
theorem all_T : Fun Tryz.prog 42 [] (.fv (slOf encDe allA)) := all0_T.froz [7] (.frz rfl rfl rfl)
end Go.Proofs.YtmidechdlbcepaaGreat
namespace Go.Proofs.YtmidechdlbcepaaGreat
open Go.ChangeShapes Go.WideShapes Go.ChangeAt Go.RowKit
set_option maxRecDepth 100000
theorem settle_run {A : List De} (hA : A.length ≤ 200) (id : Int) (f : Fr) : ∃ Q : List Rep, scrR ([A, allA, [deSe id f]].flatten) = Q ++ [⟨delE (runS fb0 A).c id f, delR (runS fb0 A).c id f⟩] ∧ scrE ([A, allA, [deSe id f]].flatten) = 0 ∧ scrC ([A, allA, [deSe id f]].flatten) = (runS fb0 A).c := by
  have hok := runS_ok fb0_ok A
  have hW : [A, allA, [deSe id f]].flatten = (A ++ allA) ++ [deSe id f] := by simp
  have hl : (A ++ allA).length < 300 := by
    rw [List.length_append]
    have : allA.length = 6 := rfl
    omega
  obtain ⟨e1, e2, e3⟩ := scrR_snoc (l := A ++ allA) (a := deSe id f) hl
  have hS : runS fb0 (A ++ allA) = ⟨(runS fb0 A).c, K6 (runS fb0 A).c⟩ := by rw [runS_app, runS_all hok.six]
  rw [hS, settled hok.c] at e1
  rw [hS] at e3
  rw [hW]
  refine ⟨_, e1, e2, ?_⟩
  rw [e3]
  have h7 : (deSe id f).kind ≠ 7 := by show (8 : Int) ≠ 7; decide
  have h8 : (deSe id f).kind = 8 := rfl
  unfold actS
  rw [if_neg h7, if_pos h8]
set_option maxHeartbeats 8000000 in
theorem topOrder_T (l : List Rq) (r : Rq) (hl : ∀ x ∈ l, x.Ok) (ho : r.Ok) : Fun Tryz.prog 16 [.fv (slOf encRq l), .agg ((encRq r).map .fv)] (.fv (.bool true)) := by
  have c1 := conf_T l 40 hl (by omega)
  have hc := confOf_ok l 40
  generalize confOf l 40 = c at *
  have hsl := hc.sl
  have hpl := hc.pl
  obtain ⟨id, f, c2, _⟩ := frameK_T c hc r ho
  have c3 := deliver_T c id f hc.small
  have hdl := del_le c id f
  have u4 := copy_T c hc.fit
  have v1 := revSw_T c.ss (by omega)
  have v2 := revPo_T c.ps (by omega)
  have hsame := same_rev (c := c)
  obtain ⟨d1, d2⟩ := same_del hsame hc id f
  have u5 : FunO Tryz.prog 17 [.agg ((encCf ⟨c.ss.reverse, c.ps.reverse, c.acs⟩).map .fv), .fv (.int .i64 id), .agg ((encFr f).map .fv)] [] (.tup [.fv (slOf encAr (delR ⟨c.ss.reverse, c.ps.reverse, c.acs⟩ id f)), .fv (.int .i64 (delE ⟨c.ss.reverse, c.ps.reverse, c.acs⟩ id f))]) [] := deliver_T _ id f (same_ok hsame hc).small
  rw [d1, d2] at u5
  have cw : Fun Tryz.prog 39 [.agg ((encCf c).map .fv)] (.fv (slOf encDe (wantA c))) := (wanted_T c hc).froz [7] (.frz rfl rfl rfl)
  have hwl := wantA_len hc
  have c4 := all_T
  have hal : allA.length = 6 := rfl
  obtain ⟨Q, b1, b2, b3⟩ := settle_run (A := wantA c) (by omega) id f
  rw [run_want hc] at b1 b3
  dsimp only at b1 b3
  have hWl : [wantA c, allA, [deSe id f]].flatten.length ≤ 1000 ∧ 0 < [wantA c, allA, [deSe id f]].flatten.length := by
    simp only [List.flatten_cons, List.flatten_nil, List.length_append, List.length_cons, List.length_nil]
    omega
  have u6 := concat_T [wantA c, allA, [deSe id f]] (by simp) hWl.2 hWl.1
  have u7 : FunO Tryz.prog 35 [.fv (slOf encDe ([wantA c, allA, [deSe id f]].flatten))] [] (.tup [.fv (slOf encRep (scrR ([wantA c, allA, [deSe id f]].flatten))), .agg ((encCf (scrC ([wantA c, allA, [deSe id f]].flatten))).map .fv), .fv (.int .i64 (scrE ([wantA c, allA, [deSe id f]].flatten)))]) [] := topRun_T _ (by omega)
  have hQl := scr_len ([wantA c, allA, [deSe id f]].flatten)
  rw [b1] at hQl
  rw [b1, b2, b3] at u7
  generalize [wantA c, allA, [deSe id f]].flatten = W at *
  have q1 := eqAr_T (delR c id f) (by omega)
  generalize wantA c = A at *
  generalize delR c id f = R at *
  generalize delE c id f = e at *
  generalize allA = B at *
  have hx : (Q ++ [(⟨e, R⟩ : Rep)])[Q.length]? = some ⟨e, R⟩ := by rw [List.getElem?_append_right (Nat.le_refl _), Nat.sub_self]; rfl
  have hlen : (Q ++ [(⟨e, R⟩ : Rep)]).length = Q.length + 1 := by simp
  generalize (Q ++ [(⟨e, R⟩ : Rep)]) = Q2 at *
  refine Fun.body tbl_ok Tryz.func16 rfl (by kernel_rfl) rfl rfl rfl ?_
  repeat' (first | (apply X.loE; (· exact aR); (· first | exact .eff (.bsliceFS rfl rfl rfl rfl rfl rfl) | (exact .eff (.idxSE Q.length rfl rfl (by omega) rfl encRep_len hx)) | exact .callL rfl rfl rfl (by first | exact c1 | exact c2 | exact c3 | exact cw | exact c4 | exact q1) rfl | exact bl (c1) | exact bl (c2) | exact bl (c3) | exact bl (cw) | exact bl (c4) | exact bl (q1))) | refine X.loc ?_ | refine nx ?_ | refine X.cdT ?_ | refine X.cdF ?_ | refine cb ?_ ?_ | (refine cc ?_ ?_ <;> intro hcond) | (apply X.gsE; (· exact aR); (· exact aV); (· exact aW); (· intro hc; first | exact .eff (.bsliceFS rfl rfl rfl rfl rfl rfl) | (exact .eff (.idxSE Q.length rfl rfl (by omega) rfl encRep_len hx)) | exact .callG rfl rfl rfl (by first | exact c1 | exact c2 | exact c3 | exact cw | exact c4 | exact q1) rfl | exact bg (c1) | exact bg (c2) | exact bg (c3) | exact bg (cw) | exact bg (c4) | exact bg (q1)); (· exact aR)) | refine rb ?_ | refine X.c0 (u4) ?_ | refine X.c0 (v1) ?_ | refine X.c0 (v2) ?_ | refine X.c0 (u5) ?_ | refine X.c0 (u6) ?_ | refine X.c0 (u7) ?_ | refine nd ?_ | refine dk ?_ | fail)
  refine .f1 (.inl rfl) rfl ?_
  simp
theorem topOrder_open {H : Type} {enc : TypeId × Value → H} (W : World) (base : Nat) {v0 v1 : Value} {d0 d1 : DataW H} {p0 p1 : List MemPlace} (hv0 : Value.okWide Tryz.prog W .any base 57 v0)
    (h0 : DataW.Trod enc Tryz.prog W 0 (fun _ => true) true 57 v0 d0 p0) (hs0 : SizedCl Tryz.prog 57 d0) (hv1 : Value.okWide Tryz.prog W .any base 59 v1)
    (h1 : DataW.Trod enc Tryz.prog W 0 (fun _ => true) true 59 v1 d1 p1) (_hs1 : SizedCl Tryz.prog 59 d1) : Calls Tryz.prog 16 #[v0, v1] W fun e W' => e = .returned (.bool true) ∧ Below W.heap.size W W' := by
  obtain ⟨l, hl, _, hr⟩ := open_raws hv0 h0 hs0
  obtain ⟨r, ho, cs, rfl, hc⟩ := open_raw hv1 h1
  exact (topOrder_T l r hl ho).yes ⟨hr, rep_agg hc, trivial⟩
end Go.Proofs.YtmidechdlbcepaaGreat