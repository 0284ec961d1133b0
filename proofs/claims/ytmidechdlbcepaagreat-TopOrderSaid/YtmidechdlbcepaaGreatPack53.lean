import Derived.Test.YtmidechdlbcepaaGreatPack52
import Derived.Test.YtmidechdlbcepaaGreatPack51
set_option linter.unusedSimpArgs false
set_option linter.unusedVariables false
namespace Go.Proofs.YtmidechdlbcepaaGreat
open Go.RowKit
set_option maxRecDepth 100000
theorem scr_lenE (l : List De) : scrE l = 0 → (scrR l).length = l.length := by
  unfold scrE scrR
  split
  · intro h; cases h
  · intro _; exact runR_len l fb0
theorem scr_len (l : List De) : (scrR l).length ≤ 300 := by
  unfold scrR
  split
  · simp
  · rw [runR_len]; omega
set_option maxHeartbeats 4000000 in
theorem topRun_T (l : List De) (hl : l.length ≤ 140737488355328) : Fun Tryz.prog 35 [.fv (slOf encDe l)] (.tup [.fv (slOf encRep (scrR l)), .agg ((encCf (scrC l)).map .fv), .fv (.int .i64 (scrE l))]) := by
  have c1 := script_T l (by omega)
  have hE := scr_lenE l
  have hl2 := scr_len l
  generalize scrR l = R at *
  generalize scrC l = c at *
  generalize scrE l = e at *
  have hb : (e == 0 && (R.length : Int) != (l.length : Int)) = false := by
    rw [Bool.and_eq_false_iff]
    by_cases h : e = 0
    · right
      rw [bne_eq_false_iff_eq, hE h]
    · left
      exact beq_eq_false_iff_ne.2 h
  refine Fun.body tbl_ok Tryz.func35 rfl (by kernel_rfl) rfl rfl rfl ?_
  repeat' (first | (apply X.loE; (· exact aR); (· first | exact .callL rfl rfl rfl (c1) rfl | exact bl (c1))) | refine X.loc ?_ | (refine X.cdF ?_ rfl hb) | refine nx ?_ | refine X.cdT ?_ | refine X.cdF ?_ | refine cb ?_ ?_ | (refine cc ?_ ?_ <;> intro hcond) | (apply X.gsE; (· exact aR); (· exact aV); (· exact aW); (· intro hc; first | exact .callG rfl rfl rfl (c1) rfl | exact bg (c1)); (· exact aR)) | refine rb ?_ | refine nd ?_ | refine dk ?_ | fail)
  refine .le (s' := ⟨[(2, .fv (slOf encRep R)), (3, .optr 3 0), (4, .fv (.int .i64 e))], [(3, .box 26 ((encCf c).map .fv))]⟩) ?_ (.fun (.inl rfl) rfl rfl)
  exact tq [] []
set_option maxHeartbeats 8000000 in
theorem wanted_T (c : Cf) (hc : CfOk c) : FunO Tryz.prog 39 [.agg ((encCf c).map .fv)] [] (.osl 7) [(7, .row 74 28 (wantA c).length (((wantA c).flatMap encDe).map .fv))] := by
  have h1 := hc.sl
  have h2 := hc.pl
  have h3 := hc.al
  have hW : wantA c = c.ss.map deSw ++ c.ps.map dePo ++ c.acs.map deAc := rfl
  refine FunO.bodyL tbl_ok Tryz.func39 rfl (by kernel_rfl) rfl rfl rfl ?_
  repeat' (first | refine X.loc ?_ | refine nx ?_ | refine X.cdT ?_ | refine X.cdF ?_ | refine cb ?_ ?_ | (refine cc ?_ ?_ <;> intro hcond) | refine rb ?_ | refine nd ?_ | refine dk ?_ | fail)
  refine WP.loop (ι := Nat) (fun k => ⟨[(1, .optr 1 0), (3, .osl 900), (11, .fv (slOf encSw c.ss)), (12, .fv (.int .i64 c.ss.length)), (13, .fv (.int .i64 k))], [(1, .box 26 ((encCf c).map .fv)), (900, .row 74 28 ((c.ss.take k).map deSw).length ((((c.ss.take k).map deSw).flatMap encDe).map .fv))]⟩) (fun k => k ≤ c.ss.length) (fun k => c.ss.length - k) 0 (by omega) ?_ ?_
  · try dsimp only
    rw [List.take_zero, List.map_nil]
    exact tq [(900, .nil)] []
  rintro k hk
  try dsimp only
  by_cases hlt : k < c.ss.length
  case pos =>
    obtain ⟨x, hx⟩ : ∃ x, c.ss[k]? = some x := ⟨_, List.getElem?_eq_getElem hlt⟩
    have hs : ((c.ss.take (k + 1)).map deSw) = ((c.ss.take k).map deSw) ++ [deSw x] := by
      rw [List.take_add_one, hx, List.map_append]
      rfl
    have hQ : ((c.ss.take k).map deSw).length ≤ 200 := by
      simp only [List.length_append, List.length_map, List.length_take]
      omega
    generalize ((c.ss.take k).map deSw) = Q at *
    repeat' (first | (apply X.loE; (· exact aR); (· first | (exact .eff (.idxS rfl rfl rfl encSw_len hx)))) | refine X.loc ?_ | refine nx ?_ | refine X.cdT ?_ | refine X.cdF ?_ | refine cb ?_ ?_ | (refine cc ?_ ?_ <;> intro hcond) | (apply X.gsE; (· exact aR); (· exact aV); (· exact aW); (· intro hc; first | (exact .eff (.idxS rfl rfl rfl encSw_len hx))); (· exact aR)) | refine rb ?_ | refine nd ?_ | refine dk ?_ | fail)
    refine ⟨k + 1, by omega, by omega, ?_⟩
    try dsimp only
    rw [hs]
    refine St.to [(900, .id 21)] [] rfl rfl ?_ ?_ <;> (repeat' (first | exact tA | refine t1 ?_ | exact tB | refine t2 ?_ ?_ | refine t3 ?_ | refine t4 ?_ ?_ | refine .ofEq ?_ | refine OB.To.cut rfl rfl ?_ ?_ ?_ ?_ | refine OB.To.box rfl rfl ?_ | refine ⟨⟨_, rfl, ?_⟩, ?_⟩ | refine ⟨?_, ?_⟩ | fail))
    all_goals first | omega | (simp; done) | (simp only [List.flatMap_append, List.map_append]; rfl)
  rw [List.take_of_length_le (by omega)]
  have hQl : (c.ss.map deSw).length ≤ 200 := by
    simp only [List.length_append, List.length_map]
    omega
  repeat' (first | refine X.loc ?_ | refine nx ?_ | refine X.cdT ?_ | refine X.cdF ?_ | refine cb ?_ ?_ | (refine cc ?_ ?_ <;> intro hcond) | refine rb ?_ | refine nd ?_ | refine dk ?_ | fail)
  refine WP.loop (ι := Nat) (fun k => ⟨[(1, .optr 1 0), (3, .osl 901), (24, .fv (slOf encPo c.ps)), (25, .fv (.int .i64 c.ps.length)), (26, .fv (.int .i64 k))], [(1, .box 26 ((encCf c).map .fv)), (901, .row 74 28 (c.ss.map deSw ++ (c.ps.take k).map dePo).length (((c.ss.map deSw ++ (c.ps.take k).map dePo).flatMap encDe).map .fv))]⟩) (fun k => k ≤ c.ps.length) (fun k => c.ps.length - k) 0 (by omega) ?_ ?_
  · try dsimp only
    rw [List.take_zero, List.map_nil, List.append_nil]
    exact tq [(901, .id 900)] []
  rintro k hk
  try dsimp only
  by_cases hlt : k < c.ps.length
  case pos =>
    obtain ⟨x, hx⟩ : ∃ x, c.ps[k]? = some x := ⟨_, List.getElem?_eq_getElem hlt⟩
    have hs : (c.ss.map deSw ++ (c.ps.take (k + 1)).map dePo) = (c.ss.map deSw ++ (c.ps.take k).map dePo) ++ [dePo x] := by
      rw [List.take_add_one, hx, List.map_append, ← List.append_assoc]
      rfl
    have hQ : (c.ss.map deSw ++ (c.ps.take k).map dePo).length ≤ 200 := by
      simp only [List.length_append, List.length_map, List.length_take]
      omega
    generalize (c.ss.map deSw ++ (c.ps.take k).map dePo) = Q at *
    repeat' (first | (apply X.loE; (· exact aR); (· first | (exact .eff (.idxS rfl rfl rfl encPo_len hx)))) | refine X.loc ?_ | refine nx ?_ | refine X.cdT ?_ | refine X.cdF ?_ | refine cb ?_ ?_ | (refine cc ?_ ?_ <;> intro hcond) | (apply X.gsE; (· exact aR); (· exact aV); (· exact aW); (· intro hc; first | (exact .eff (.idxS rfl rfl rfl encPo_len hx))); (· exact aR)) | refine rb ?_ | refine nd ?_ | refine dk ?_ | fail)
    refine ⟨k + 1, by omega, by omega, ?_⟩
    try dsimp only
    rw [hs]
    refine St.to [(901, .id 34)] [] rfl rfl ?_ ?_ <;> (repeat' (first | exact tA | refine t1 ?_ | exact tB | refine t2 ?_ ?_ | refine t3 ?_ | refine t4 ?_ ?_ | refine .ofEq ?_ | refine OB.To.cut rfl rfl ?_ ?_ ?_ ?_ | refine OB.To.box rfl rfl ?_ | refine ⟨⟨_, rfl, ?_⟩, ?_⟩ | refine ⟨?_, ?_⟩ | fail))
    all_goals first | omega | (simp; done) | (simp only [List.flatMap_append, List.map_append]; rfl)
  rw [List.take_of_length_le (by omega)]
  have hQl : (c.ss.map deSw ++ c.ps.map dePo).length ≤ 200 := by
    simp only [List.length_append, List.length_map]
    omega
  repeat' (first | refine X.loc ?_ | refine nx ?_ | refine X.cdT ?_ | refine X.cdF ?_ | refine cb ?_ ?_ | (refine cc ?_ ?_ <;> intro hcond) | refine rb ?_ | refine nd ?_ | refine dk ?_ | fail)
  refine WP.loop (ι := Nat) (fun k => ⟨[(1, .optr 1 0), (3, .osl 902), (37, .fv (slOf encAc c.acs)), (38, .fv (.int .i64 c.acs.length)), (39, .fv (.int .i64 k))], [(1, .box 26 ((encCf c).map .fv)), (902, .row 74 28 (c.ss.map deSw ++ c.ps.map dePo ++ (c.acs.take k).map deAc).length (((c.ss.map deSw ++ c.ps.map dePo ++ (c.acs.take k).map deAc).flatMap encDe).map .fv))]⟩) (fun k => k ≤ c.acs.length) (fun k => c.acs.length - k) 0 (by omega) ?_ ?_
  · try dsimp only
    rw [List.take_zero, List.map_nil, List.append_nil]
    exact tq [(902, .id 901)] []
  rintro k hk
  try dsimp only
  by_cases hlt : k < c.acs.length
  case pos =>
    obtain ⟨x, hx⟩ : ∃ x, c.acs[k]? = some x := ⟨_, List.getElem?_eq_getElem hlt⟩
    have hs : (c.ss.map deSw ++ c.ps.map dePo ++ (c.acs.take (k + 1)).map deAc) = (c.ss.map deSw ++ c.ps.map dePo ++ (c.acs.take k).map deAc) ++ [deAc x] := by
      rw [List.take_add_one, hx, List.map_append, ← List.append_assoc]
      rfl
    have hQ : (c.ss.map deSw ++ c.ps.map dePo ++ (c.acs.take k).map deAc).length ≤ 200 := by
      simp only [List.length_append, List.length_map, List.length_take]
      omega
    generalize (c.ss.map deSw ++ c.ps.map dePo ++ (c.acs.take k).map deAc) = Q at *
    repeat' (first | (apply X.loE; (· exact aR); (· first | (exact .eff (.idxS rfl rfl rfl encAc_len hx)))) | refine X.loc ?_ | refine nx ?_ | refine X.cdT ?_ | refine X.cdF ?_ | refine cb ?_ ?_ | (refine cc ?_ ?_ <;> intro hcond) | (apply X.gsE; (· exact aR); (· exact aV); (· exact aW); (· intro hc; first | (exact .eff (.idxS rfl rfl rfl encAc_len hx))); (· exact aR)) | refine rb ?_ | refine nd ?_ | refine dk ?_ | fail)
    refine ⟨k + 1, by omega, by omega, ?_⟩
    try dsimp only
    rw [hs]
    refine St.to [(902, .id 47)] [] rfl rfl ?_ ?_ <;> (repeat' (first | exact tA | refine t1 ?_ | exact tB | refine t2 ?_ ?_ | refine t3 ?_ | refine t4 ?_ ?_ | refine .ofEq ?_ | refine OB.To.cut rfl rfl ?_ ?_ ?_ ?_ | refine OB.To.box rfl rfl ?_ | refine ⟨⟨_, rfl, ?_⟩, ?_⟩ | refine ⟨?_, ?_⟩ | fail))
    all_goals first | omega | (simp; done) | (simp only [List.flatMap_append, List.map_append]; rfl)
  rw [List.take_of_length_le (by omega), ← hW]
  have hQl : (wantA c).length ≤ 200 := by
    simp only [wantA, List.length_append, List.length_map]
    omega
  repeat' (first | refine X.loc ?_ | refine nx ?_ | refine X.cdT ?_ | refine X.cdF ?_ | refine cb ?_ ?_ | (refine cc ?_ ?_ <;> intro hcond) | refine rb ?_ | refine nd ?_ | refine dk ?_ | fail)
  generalize wantA c = W at *
  exact rq ⟨[(2, .osl 7)], [(7, .row 74 28 W.length ((W.flatMap encDe).map .fv))]⟩ (tq [(7, .id 902)] [])
end Go.Proofs.YtmidechdlbcepaaGreat