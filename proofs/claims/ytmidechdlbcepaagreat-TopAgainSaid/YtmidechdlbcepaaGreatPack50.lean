import Derived.Test.YtmidechdlbcepaaGreatPack49
import Derived.Test.YtmidechdlbcepaaGreatPack46
import Derived.Test.YtmidechdlbcepaaGreatPack47
import Derived.Test.YtmidechdlbcepaaGreatPack37
set_option linter.unusedSimpArgs false
set_option linter.unusedVariables false
namespace Go.Proofs.YtmidechdlbcepaaGreat
open Go.RowKit
set_option maxRecDepth 100000
set_option maxHeartbeats 1000000 in
theorem seqSw_T (l : List Sw) (hl : l.length < 9223372036854775807) : Fun Tryz.prog 67 [.fv (slOf encSw l), .fv (slOf encSw l)] (.fv (.bool true)) := by
  refine Fun.body tbl_ok Tryz.func67 rfl (by kernel_rfl) rfl rfl rfl ?_
  repeat' (first | refine X.loc ?_ | refine nx ?_ | refine cb ?_ ?_ | (refine cc ?_ ?_ <;> intro hcond) | refine rb ?_ | refine nd ?_ | refine dk ?_ | fail)
  · exfalso
    simp at hcond
  refine WP.loop (ι := Nat) (fun k => ⟨[(0, .fv (slOf encSw l)), (1, .fv (slOf encSw l)), (12, .fv (.int .i64 l.length)), (13, .fv (.int .i64 k))], []⟩) (fun k => k ≤ l.length) (fun k => l.length - k) 0 (by omega) ?_ ?_
  · exact lq
  rintro k hk
  try dsimp only
  by_cases hlt : k < l.length
  case neg =>
    repeat' (first | refine X.loc ?_ | refine nx ?_ | refine X.cdT ?_ | refine X.cdF ?_ | refine cb ?_ ?_ | (refine cc ?_ ?_ <;> intro hcond) | refine rb ?_ | refine nd ?_ | refine dk ?_ | fail)
    refine .f1 (.inl rfl) rfl rfl
  case pos =>
    obtain ⟨x, hx⟩ : ∃ x, l[k]? = some x := ⟨_, List.getElem?_eq_getElem hlt⟩
    repeat' (first | refine X.loc ?_ | refine nx ?_ | refine X.cdT ?_ | refine X.cdF ?_ | refine cb ?_ ?_ | (refine cc ?_ ?_ <;> intro hcond) | refine rb ?_ | refine nd ?_ | refine dk ?_ | fail)
    · exfalso
      simp [beqL, beqV] at hcond
    · refine ⟨k + 1, by omega, by omega, ?_⟩
      exact lq
set_option maxHeartbeats 1000000 in
theorem seqPo_T (l : List Po) (hl : l.length < 9223372036854775807) : Fun Tryz.prog 68 [.fv (slOf encPo l), .fv (slOf encPo l)] (.fv (.bool true)) := by
  refine Fun.body tbl_ok Tryz.func68 rfl (by kernel_rfl) rfl rfl rfl ?_
  repeat' (first | refine X.loc ?_ | refine nx ?_ | refine cb ?_ ?_ | (refine cc ?_ ?_ <;> intro hcond) | refine rb ?_ | refine nd ?_ | refine dk ?_ | fail)
  · exfalso
    simp at hcond
  refine WP.loop (ι := Nat) (fun k => ⟨[(0, .fv (slOf encPo l)), (1, .fv (slOf encPo l)), (12, .fv (.int .i64 l.length)), (13, .fv (.int .i64 k))], []⟩) (fun k => k ≤ l.length) (fun k => l.length - k) 0 (by omega) ?_ ?_
  · exact lq
  rintro k hk
  try dsimp only
  by_cases hlt : k < l.length
  case neg =>
    repeat' (first | refine X.loc ?_ | refine nx ?_ | refine X.cdT ?_ | refine X.cdF ?_ | refine cb ?_ ?_ | (refine cc ?_ ?_ <;> intro hcond) | refine rb ?_ | refine nd ?_ | refine dk ?_ | fail)
    refine .f1 (.inl rfl) rfl rfl
  case pos =>
    obtain ⟨x, hx⟩ : ∃ x, l[k]? = some x := ⟨_, List.getElem?_eq_getElem hlt⟩
    repeat' (first | refine X.loc ?_ | refine nx ?_ | refine X.cdT ?_ | refine X.cdF ?_ | refine cb ?_ ?_ | (refine cc ?_ ?_ <;> intro hcond) | refine rb ?_ | refine nd ?_ | refine dk ?_ | fail)
    · exfalso
      simp [beqL, beqV] at hcond
    · refine ⟨k + 1, by omega, by omega, ?_⟩
      exact lq
set_option maxHeartbeats 1000000 in
theorem seqAc_T (l : List Ac) (hl : l.length < 9223372036854775807) : Fun Tryz.prog 69 [.fv (slOf encAc l), .fv (slOf encAc l)] (.fv (.bool true)) := by
  refine Fun.body tbl_ok Tryz.func69 rfl (by kernel_rfl) rfl rfl rfl ?_
  repeat' (first | refine X.loc ?_ | refine nx ?_ | refine cb ?_ ?_ | (refine cc ?_ ?_ <;> intro hcond) | refine rb ?_ | refine nd ?_ | refine dk ?_ | fail)
  · exfalso
    simp at hcond
  refine WP.loop (ι := Nat) (fun k => ⟨[(0, .fv (slOf encAc l)), (1, .fv (slOf encAc l)), (12, .fv (.int .i64 l.length)), (13, .fv (.int .i64 k))], []⟩) (fun k => k ≤ l.length) (fun k => l.length - k) 0 (by omega) ?_ ?_
  · exact lq
  rintro k hk
  try dsimp only
  by_cases hlt : k < l.length
  case neg =>
    repeat' (first | refine X.loc ?_ | refine nx ?_ | refine X.cdT ?_ | refine X.cdF ?_ | refine cb ?_ ?_ | (refine cc ?_ ?_ <;> intro hcond) | refine rb ?_ | refine nd ?_ | refine dk ?_ | fail)
    refine .f1 (.inl rfl) rfl rfl
  case pos =>
    obtain ⟨x, hx⟩ : ∃ x, l[k]? = some x := ⟨_, List.getElem?_eq_getElem hlt⟩
    repeat' (first | refine X.loc ?_ | refine nx ?_ | refine X.cdT ?_ | refine X.cdF ?_ | refine cb ?_ ?_ | (refine cc ?_ ?_ <;> intro hcond) | refine rb ?_ | refine nd ?_ | refine dk ?_ | fail)
    · exfalso
      simp [beqL, beqV] at hcond
    · refine ⟨k + 1, by omega, by omega, ?_⟩
      exact lq
theorem topSame_T (c : Cf) (hl : c.Small) : Fun Tryz.prog 40 [.agg ((encCf c).map .fv), .agg ((encCf c).map .fv)] (.fv (.bool true)) := by
  have hl1 := hl.1
  have hl2 := hl.2.1
  have hl3 := hl.2.2
  have c1 := seqSw_T c.ss (by omega)
  have c2 := seqPo_T c.ps (by omega)
  have c3 := seqAc_T c.acs (by omega)
  refine Fun.body tbl_ok Tryz.func40 rfl (by kernel_rfl) rfl rfl rfl ?_
  repeat' (first | (apply X.loE; (· exact aR); (· first | exact .callL rfl rfl rfl (by first | exact c1 | exact c2 | exact c3) rfl | exact bl (c1) | exact bl (c2) | exact bl (c3))) | refine X.loc ?_ | refine nx ?_ | refine X.cdT ?_ | refine X.cdF ?_ | refine cb ?_ ?_ | (refine cc ?_ ?_ <;> intro hcond) | (apply X.gsE; (· exact aR); (· exact aV); (· exact aW); (· intro hc; first | exact .callG rfl rfl rfl (by first | exact c1 | exact c2 | exact c3) rfl | exact bg (c1) | exact bg (c2) | exact bg (c3)); (· exact aR)) | refine rb ?_ | refine nd ?_ | refine dk ?_ | fail)
  exact .f1 (.inl rfl) rfl rfl
end Go.Proofs.YtmidechdlbcepaaGreat
namespace Go.Proofs.YtmidechdlbcepaaGreat
open Go.ChangeShapes Go.WideShapes Go.ChangeAt Go.RowKit
set_option maxRecDepth 100000
theorem dbl1_78 {a : De} (h : a.kind = 7 ∨ a.kind = 8) : dbl1 a = [a] ++ [a] := by
  unfold dbl1
  rcases h with h | h
  · rw [if_pos h, if_neg (by omega)]
    rfl
  · rw [if_neg (by omega), if_pos h]
    rfl
theorem dbl1_no {a : De} (h : ¬ (a.kind = 7 ∨ a.kind = 8)) : dbl1 a = [a] := by
  unfold dbl1
  rw [if_neg (by omega), if_neg (by omega)]
  rfl
set_option maxHeartbeats 8000000 in
theorem topAgain_T (l : List Rq) (n : Int) (hl : ∀ x ∈ l, x.Ok) : Fun Tryz.prog 13 [.fv (slOf encRq l), .fv (.int .i64 n)] (.fv (.bool true)) := by
  have c1 := actsF_T l 40 hl (by omega)
  have hAl := actsOf_len l 40
  generalize actsOf l 40 = A at *
  have hDl := dblA_len A
  have u1 := topRun_T A (by omega)
  have u2 : FunO Tryz.prog 35 [.fv (slOf encDe (dblA A))] [] (.tup [.fv (slOf encRep (scrR (dblA A))), .agg ((encCf (scrC (dblA A))).map .fv), .fv (.int .i64 (scrE (dblA A)))]) [] := topRun_T (dblA A) (by omega)
  obtain ⟨a1, a2, a3⟩ := scr_short (l := A) (by omega)
  obtain ⟨b1, b2, b3⟩ := scr_short (l := dblA A) (by omega)
  rw [runS_dbl] at b3
  rw [a1, a2, a3] at u1
  rw [b1, b2, b3] at u2
  have hok := runS_ok fb0_ok A
  have c3 := topSame_T (runS fb0 A).c hok.c.small
  have hR1 := runR_len A fb0
  have hR2 := runR_len (dblA A) fb0
  have hat1 := fun (k : Nat) (a : De) (h : A[k]? = some a) => runR_at fb0 h
  have hat2 := fun (k : Nat) (a : De) (h : A[k]? = some a) => runR_dbl_at fb0 h
  have hcm := fun (k : Nat) (a : De) => act_come (runS_ok fb0_ok (A.take k)) a
  generalize runR fb0 A = R1 at *
  generalize runR fb0 (dblA A) = R2 at *
  generalize (runS fb0 A).c = c at *
  refine Fun.body tbl_ok Tryz.func13 rfl (by kernel_rfl) rfl rfl rfl ?_
  repeat' (first | (apply X.loE; (· exact aR); (· first | exact .callL rfl rfl rfl (c1) rfl | exact bl (c1))) | refine X.loc ?_ | refine nx ?_ | refine X.cdT ?_ | refine X.cdF ?_ | refine cb ?_ ?_ | (refine cc ?_ ?_ <;> intro hcond) | (apply X.gsE; (· exact aR); (· exact aV); (· exact aW); (· intro hc; first | exact .callG rfl rfl rfl (c1) rfl | exact bg (c1)); (· exact aR)) | refine rb ?_ | refine nd ?_ | refine dk ?_ | fail)
  refine WP.loop (ι := Nat) (fun k => ⟨[(5, .fv (slOf encDe A)), (6, .osl 900), (20, .fv (slOf encDe A)), (21, .fv (.int .i64 A.length)), (22, .fv (.int .i64 k))], [(900, .row 74 28 (dblA (A.take k)).length (((dblA (A.take k)).flatMap encDe).map .fv))]⟩) (fun k => k ≤ A.length) (fun k => A.length - k) 0 (by omega) ?_ ?_
  · try dsimp only
    rw [List.take_zero, show dblA [] = [] from rfl]
    exact tq [(900, .nil)] []
  rintro k hk
  try dsimp only
  by_cases hlt : k < A.length
  case pos =>
    obtain ⟨x, hx⟩ : ∃ x, A[k]? = some x := ⟨_, List.getElem?_eq_getElem hlt⟩
    have hs : dblA (A.take (k + 1)) = dblA (A.take k) ++ dbl1 x := by rw [take_succ hx, dblA_snoc]
    have hQ : (dblA (A.take k)).length ≤ 200 := by
      have := dblA_len (A.take k)
      rw [List.length_take] at this
      omega
    generalize dblA (A.take k) = Q at *
    by_cases k7 : x.kind = 7
    · rw [dbl1_78 (.inl k7)] at hs
      repeat' (first | (apply X.loE; (· exact aR); (· first | (exact .eff (.idxS rfl rfl rfl encDe_len hx)))) | refine X.loc ?_ | refine nx ?_ | refine X.cdT ?_ | refine X.cdF ?_ | refine cb ?_ ?_ | (refine cc ?_ ?_ <;> intro hcond) | (apply X.gsE; (· exact aR); (· exact aV); (· exact aW); (· intro hc; first | (exact .eff (.idxS rfl rfl rfl encDe_len hx))); (· exact aR)) | refine rb ?_ | refine nd ?_ | refine dk ?_ | fail)
      refine ⟨k + 1, by omega, by omega, ?_⟩
      try dsimp only
      rw [hs]
      refine St.to [(900, .id 36)] [] rfl rfl ?_ ?_ <;> (repeat' (first | exact tA | refine t1 ?_ | exact tB | refine t2 ?_ ?_ | refine t3 ?_ | refine t4 ?_ ?_ | refine .ofEq ?_ | refine OB.To.cut rfl rfl ?_ ?_ ?_ ?_ | refine OB.To.box rfl rfl ?_ | refine ⟨⟨_, rfl, ?_⟩, ?_⟩ | refine ⟨?_, ?_⟩ | fail))
      all_goals first | omega | (simp; done) | (simp only [List.flatMap_append, List.map_append, List.append_assoc]; rfl)
    by_cases k8 : x.kind = 8
    · rw [dbl1_78 (.inr k8)] at hs
      repeat' (first | (apply X.loE; (· exact aR); (· first | (exact .eff (.idxS rfl rfl rfl encDe_len hx)))) | refine X.loc ?_ | refine nx ?_ | refine X.cdT ?_ | refine X.cdF ?_ | refine cb ?_ ?_ | (refine cc ?_ ?_ <;> intro hcond) | (apply X.gsE; (· exact aR); (· exact aV); (· exact aW); (· intro hc; first | (exact .eff (.idxS rfl rfl rfl encDe_len hx))); (· exact aR)) | refine rb ?_ | refine nd ?_ | refine dk ?_ | fail)
      refine ⟨k + 1, by omega, by omega, ?_⟩
      try dsimp only
      rw [hs]
      refine St.to [(900, .id 43)] [] rfl rfl ?_ ?_ <;> (repeat' (first | exact tA | refine t1 ?_ | exact tB | refine t2 ?_ ?_ | refine t3 ?_ | refine t4 ?_ ?_ | refine .ofEq ?_ | refine OB.To.cut rfl rfl ?_ ?_ ?_ ?_ | refine OB.To.box rfl rfl ?_ | refine ⟨⟨_, rfl, ?_⟩, ?_⟩ | refine ⟨?_, ?_⟩ | fail))
      all_goals first | omega | (simp; done) | (simp only [List.flatMap_append, List.map_append, List.append_assoc]; rfl)
    · rw [dbl1_no (by omega)] at hs
      repeat' (first | (apply X.loE; (· exact aR); (· first | (exact .eff (.idxS rfl rfl rfl encDe_len hx)))) | refine X.loc ?_ | refine nx ?_ | refine X.cdT ?_ | refine X.cdF ?_ | refine cb ?_ ?_ | (refine cc ?_ ?_ <;> intro hcond) | (apply X.gsE; (· exact aR); (· exact aV); (· exact aW); (· intro hc; first | (exact .eff (.idxS rfl rfl rfl encDe_len hx))); (· exact aR)) | refine rb ?_ | refine nd ?_ | refine dk ?_ | fail)
      refine ⟨k + 1, by omega, by omega, ?_⟩
      try dsimp only
      rw [hs]
      refine St.to [(900, .id 29)] [] rfl rfl ?_ ?_ <;> (repeat' (first | exact tA | refine t1 ?_ | exact tB | refine t2 ?_ ?_ | refine t3 ?_ | refine t4 ?_ ?_ | refine .ofEq ?_ | refine OB.To.cut rfl rfl ?_ ?_ ?_ ?_ | refine OB.To.box rfl rfl ?_ | refine ⟨⟨_, rfl, ?_⟩, ?_⟩ | refine ⟨?_, ?_⟩ | fail))
      all_goals first | omega | (simp; done) | (simp only [List.flatMap_append, List.map_append, List.append_assoc]; rfl)
  rw [List.take_of_length_le (by omega)]
  have hend : (((dblA A).length : Int) == (R2.length : Int)) = true := beq_iff_eq.2 (by rw [hR2])
  repeat' (first | (apply X.loE; (· exact aR); (· first | exact .callL rfl rfl rfl (by first | exact u1 | exact c3) rfl | exact bl (u1) | exact bl (c3))) | refine X.loc ?_ | (refine X.cdF ?_ rfl (by first |(simp; done) |fail)) | refine nx ?_ | refine X.cdT ?_ | refine X.cdF ?_ | refine cb ?_ ?_ | (refine cc ?_ ?_ <;> intro hcond) | (apply X.gsE; (· exact aR); (· exact aV); (· exact aW); (· intro hc; first | exact .callG rfl rfl rfl (by first | exact u1 | exact c3) rfl | exact bg (u1) | exact bg (c3)); (· exact aR)) | refine rb ?_ | refine X.c0 (u2) ?_ | refine nd ?_ | refine dk ?_ | fail)
  refine WP.loop (ι := Nat) (fun k => ⟨[(9, .fv (slOf encRep R1)), (12, .fv (slOf encRep R2)), (15, .fv (.int .i64 (dblA (A.take k)).length)), (69, .fv (slOf encDe A)), (70, .fv (.int .i64 A.length)), (71, .fv (.int .i64 k))], []⟩) (fun k => k ≤ A.length) (fun k => A.length - k) 0 (by omega) ?_ ?_
  · try dsimp only
    rw [List.take_zero, show dblA [] = [] from rfl]
    exact tq [] []
  rintro k hk
  try dsimp only
  by_cases hlt : k < A.length
  case neg =>
    rw [List.take_of_length_le (by omega)]
    repeat' (first | refine X.loc ?_ | refine nx ?_ | refine X.cdT ?_ | refine X.cdF ?_ | refine cb ?_ ?_ | (refine cc ?_ ?_ <;> intro hcond) | refine rb ?_ | refine nd ?_ | refine dk ?_ | fail)
    exact .f1 (.inl rfl) rfl (by rw [hend])
  case pos =>
    obtain ⟨x, hx⟩ : ∃ x, A[k]? = some x := ⟨_, List.getElem?_eq_getElem hlt⟩
    have hs : dblA (A.take (k + 1)) = dblA (A.take k) ++ dbl1 x := by rw [take_succ hx, dblA_snoc]
    have g1 := hat1 k x hx
    obtain ⟨g2, g3⟩ := hat2 k x hx
    have q1 := eqAr_T (actR (runS fb0 (A.take k)) x).come (by have := hcm k x; omega)
    have hJl := dblA_len (A.take k)
    rw [List.length_take] at hJl
    generalize actR (runS fb0 (A.take k)) x = r at *
    generalize hJ : (dblA (A.take k)).length = J at *
    by_cases k78 : x.kind = 7 ∨ x.kind = 8
    · have g4 := g3 k78
      have hs2 : (dblA (A.take (k + 1))).length = J + 1 + 1 := by rw [hs, dbl1_78 k78, List.length_append, hJ]; rfl
      have hb : (x.kind == 7 || x.kind == 8) = true := by simpa using k78
      repeat' (first | (apply X.loE; (· exact aR); (· first | (exact .eff (.idxS rfl rfl rfl encDe_len hx)) | (exact .eff (.idxS rfl rfl rfl encRep_len g1)) | (exact .eff (.idxS rfl rfl rfl encRep_len g2)) | (exact .eff (.idxSE (J + 1) rfl rfl (by omega) rfl encRep_len g4)) | exact .callL rfl rfl rfl (q1) rfl | exact bl (q1))) | refine X.loc ?_ | (refine X.cdF ?_ rfl (by first |(simp; done) |fail)) | (refine X.cdT ?_ rfl hb) | refine nx ?_ | refine X.cdT ?_ | refine X.cdF ?_ | refine cb ?_ ?_ | (refine cc ?_ ?_ <;> intro hcond) | (apply X.gsE; (· exact aR); (· exact aV); (· exact aW); (· intro hc; first | (exact .eff (.idxS rfl rfl rfl encDe_len hx)) | (exact .eff (.idxS rfl rfl rfl encRep_len g1)) | (exact .eff (.idxS rfl rfl rfl encRep_len g2)) | (exact .eff (.idxSE (J + 1) rfl rfl (by omega) rfl encRep_len g4)) | exact .callG rfl rfl rfl (q1) rfl | exact bg (q1)); (· exact aR)) | refine rb ?_ | refine nd ?_ | refine dk ?_ | fail)
      refine ⟨k + 1, by omega, by omega, ?_⟩
      try dsimp only
      rw [hs2]
      exact tq [] []
    · have hs2 : (dblA (A.take (k + 1))).length = J + 1 := by rw [hs, dbl1_no k78, List.length_append, hJ]; rfl
      have hb : (x.kind == 7 || x.kind == 8) = false := by
        rw [Bool.or_eq_false_iff, beq_eq_false_iff_ne, beq_eq_false_iff_ne]
        omega
      repeat' (first | (apply X.loE; (· exact aR); (· first | (exact .eff (.idxS rfl rfl rfl encDe_len hx)) | (exact .eff (.idxS rfl rfl rfl encRep_len g1)) | (exact .eff (.idxS rfl rfl rfl encRep_len g2)) | exact .callL rfl rfl rfl (q1) rfl | exact bl (q1))) | refine X.loc ?_ | (refine X.cdF ?_ rfl hb) | (refine X.cdF ?_ rfl (by first |(simp; done) |fail)) | refine nx ?_ | refine X.cdT ?_ | refine X.cdF ?_ | refine cb ?_ ?_ | (refine cc ?_ ?_ <;> intro hcond) | (apply X.gsE; (· exact aR); (· exact aV); (· exact aW); (· intro hc; first | (exact .eff (.idxS rfl rfl rfl encDe_len hx)) | (exact .eff (.idxS rfl rfl rfl encRep_len g1)) | (exact .eff (.idxS rfl rfl rfl encRep_len g2)) | exact .callG rfl rfl rfl (q1) rfl | exact bg (q1)); (· exact aR)) | refine rb ?_ | refine nd ?_ | refine dk ?_ | fail)
      refine ⟨k + 1, by omega, by omega, ?_⟩
      try dsimp only
      rw [hs2]
      exact tq [] []
theorem topAgain_open {H : Type} {enc : TypeId × Value → H} (W : World) (base : Nat) {v0 v1 : Value} {d0 d1 : DataW H} {p0 p1 : List MemPlace} (hv0 : Value.okWide Tryz.prog W .any base 57 v0)
    (h0 : DataW.Trod enc Tryz.prog W 0 (fun _ => true) true 57 v0 d0 p0) (hs0 : SizedCl Tryz.prog 57 d0) (hv1 : Value.okWide Tryz.prog W .any base 3 v1)
    (h1 : DataW.Trod enc Tryz.prog W 0 (fun _ => true) true 3 v1 d1 p1) (_hs1 : SizedCl Tryz.prog 3 d1) : Calls Tryz.prog 13 #[v0, v1] W fun e W' => e = .returned (.bool true) ∧ Below W.heap.size W W' := by
  obtain ⟨l, hl, _, hr⟩ := open_raws hv0 h0 hs0
  obtain ⟨n, rfl, _, _, _⟩ := open_int Tryz.underlying3 hv1 h1
  exact (topAgain_T l n hl).yes ⟨hr, rfl, trivial⟩
end Go.Proofs.YtmidechdlbcepaaGreat