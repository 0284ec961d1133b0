import Derived.Test.YtmidechdlbcepaaGreatPack22
import Derived.Test.YtmidechdlbcepaaGreatPack33
import Derived.Test.YtmidechdlbcepaaGreatPack26
set_option linter.unusedSimpArgs false
set_option linter.unusedVariables false
namespace Go.Proofs.YtmidechdlbcepaaGreat
open Go.RowKit
set_option maxRecDepth 100000
theorem isNaN_T (n : Int) : Fun Tryz.prog 170 [.fv (.int .i64 n)] (.fv (.bool false)) := by
  refine Fun.body tbl_ok Tryz.func170 rfl (by kernel_rfl) rfl rfl rfl ?_
  repeat' (first | refine X.loc ?_ | refine nx ?_ | refine cb ?_ ?_ | (refine cc ?_ ?_ <;> intro hcond) | refine rb ?_ | refine nd ?_ | refine dk ?_ | fail)
  refine .f1 (.inl rfl) rfl ?_
  simp
theorem compare_T (a b : Int) : Fun Tryz.prog 149 [.fv (.int .i64 a), .fv (.int .i64 b)] (.fv (.int .i64 (cmpI a b))) := by
  refine Fun.body tbl_ok Tryz.func149 rfl (by kernel_rfl) rfl rfl rfl ?_
  by_cases h1 : a < b
  · have e : cmpI a b = -1 := if_pos h1
    rw [e]
    repeat' (first | (apply X.loE; (· exact aR); (· first | exact .callL rfl rfl rfl (by first | exact isNaN_T a | exact isNaN_T b) rfl | exact bl (isNaN_T a) | exact bl (isNaN_T b))) | refine X.loc ?_ | refine nx ?_ | refine X.cdT ?_ | refine X.cdF ?_ | refine cb ?_ ?_ | (refine cc ?_ ?_ <;> intro hcond) | (apply X.gsE; (· exact aR); (· exact aV); (· exact aW); (· intro hc; first | exact .callG rfl rfl rfl (by first | exact isNaN_T a | exact isNaN_T b) rfl | exact bg (isNaN_T a) | exact bg (isNaN_T b)); (· exact aR)) | refine rb ?_ | refine nd ?_ | refine dk ?_ | fail)
    exact .f1 (.inl rfl) rfl rfl
  · by_cases h2 : b < a
    · have e : cmpI a b = 1 := by rw [cmpI, if_neg h1, if_pos h2]
      rw [e]
      repeat' (first | (apply X.loE; (· exact aR); (· first | exact .callL rfl rfl rfl (by first | exact isNaN_T a | exact isNaN_T b) rfl | exact bl (isNaN_T a) | exact bl (isNaN_T b))) | refine X.loc ?_ | refine nx ?_ | refine X.cdT ?_ | refine X.cdF ?_ | refine cb ?_ ?_ | (refine cc ?_ ?_ <;> intro hcond) | (apply X.gsE; (· exact aR); (· exact aV); (· exact aW); (· intro hc; first | exact .callG rfl rfl rfl (by first | exact isNaN_T a | exact isNaN_T b) rfl | exact bg (isNaN_T a) | exact bg (isNaN_T b)); (· exact aR)) | refine rb ?_ | refine nd ?_ | refine dk ?_ | fail)
      exact .f1 (.inl rfl) rfl rfl
    · have e : cmpI a b = 0 := by rw [cmpI, if_neg h1, if_neg h2]
      rw [e]
      repeat' (first | (apply X.loE; (· exact aR); (· first | exact .callL rfl rfl rfl (by first | exact isNaN_T a | exact isNaN_T b) rfl | exact bl (isNaN_T a) | exact bl (isNaN_T b))) | refine X.loc ?_ | refine nx ?_ | refine X.cdT ?_ | refine X.cdF ?_ | refine cb ?_ ?_ | (refine cc ?_ ?_ <;> intro hcond) | (apply X.gsE; (· exact aR); (· exact aV); (· exact aW); (· intro hc; first | exact .callG rfl rfl rfl (by first | exact isNaN_T a | exact isNaN_T b) rfl | exact bg (isNaN_T a) | exact bg (isNaN_T b)); (· exact aR)) | refine rb ?_ | refine nd ?_ | refine dk ?_ | fail)
      exact .f1 (.inl rfl) rfl rfl
theorem compareL_T (l m : List Int) (hl : l.length < 9223372036854775807) (hm : m.length < 9223372036854775807) : Fun Tryz.prog 150 [.fv (slOf encI l), .fv (slOf encI m)] (.fv (.int .i64 (cmpL l m))) := by
  refine Fun.body tbl_ok Tryz.func150 rfl (by kernel_rfl) rfl rfl rfl ?_
  repeat' (first | refine X.loc ?_ | refine nx ?_ | refine cb ?_ ?_ | (refine cc ?_ ?_ <;> intro hcond) | refine rb ?_ | refine nd ?_ | refine dk ?_ | fail)
  refine WP.loop (ι := Nat) (fun k => ⟨[(0, .fv (slOf encI l)), (1, .fv (slOf encI m)), (9, .fv (slOf encI l)), (10, .fv (.int .i64 l.length)), (11, .fv (.int .i64 k))], []⟩) (fun k => k ≤ l.length ∧ k ≤ m.length ∧ cmpL l m = cmpL (l.drop k) (m.drop k)) (fun k => l.length - k) 0 ⟨by omega, by omega, rfl⟩ ?_ ?_
  · exact lq
  rintro k ⟨hk, hkm, he⟩
  try dsimp only
  by_cases hlt : k < l.length
  case neg =>
    have hd : l.drop k = [] := List.drop_eq_nil_of_le (by omega)
    rw [he, hd]
    by_cases h2 : l.length < m.length
    · obtain ⟨y, r, hy⟩ : ∃ y r, m.drop k = y :: r := ⟨_, _, List.drop_eq_getElem_cons (by omega)⟩
      rw [hy, cmpL]
      repeat' (first | refine X.loc ?_ | refine nx ?_ | refine X.cdT ?_ | refine X.cdF ?_ | refine cb ?_ ?_ | (refine cc ?_ ?_ <;> intro hcond) | refine rb ?_ | refine nd ?_ | refine dk ?_ | fail)
      exact .f1 (.inl rfl) rfl rfl
    · rw [List.drop_eq_nil_of_le (show m.length ≤ k by omega), cmpL]
      repeat' (first | refine X.loc ?_ | refine nx ?_ | refine X.cdT ?_ | refine X.cdF ?_ | refine cb ?_ ?_ | (refine cc ?_ ?_ <;> intro hcond) | refine rb ?_ | refine nd ?_ | refine dk ?_ | fail)
      exact .f1 (.inl rfl) rfl rfl
  case pos =>
    obtain ⟨x, hx⟩ : ∃ x, l[k]? = some x := ⟨_, List.getElem?_eq_getElem hlt⟩
    have hdx : l.drop k = x :: l.drop (k + 1) := by rw [List.drop_eq_getElem_cons hlt, (List.getElem?_eq_some_iff.1 hx).2]
    by_cases h2 : k < m.length
    case neg =>
      rw [he, hdx, List.drop_eq_nil_of_le (show m.length ≤ k by omega), cmpL]
      repeat' (first | refine X.loc ?_ | refine nx ?_ | refine X.cdT ?_ | refine X.cdF ?_ | refine cb ?_ ?_ | (refine cc ?_ ?_ <;> intro hcond) | refine rb ?_ | refine nd ?_ | refine dk ?_ | fail)
      exact .f1 (.inl rfl) rfl rfl
    case pos =>
      obtain ⟨y, hy⟩ : ∃ y, m[k]? = some y := ⟨_, List.getElem?_eq_getElem h2⟩
      have hdy : m.drop k = y :: m.drop (k + 1) := by rw [List.drop_eq_getElem_cons h2, (List.getElem?_eq_some_iff.1 hy).2]
      rw [hdx, hdy, cmpL] at he
      have hc := compare_T x y
      generalize cmpI x y = c at *
      by_cases h0 : c = 0
      · rw [if_neg (by omega)] at he
        subst h0
        repeat' (first | (apply X.loE; (· exact aR); (· first | exact .callL rfl rfl rfl (hc) rfl | exact bl (hc))) | refine X.loc ?_ | refine nx ?_ | refine X.cdT ?_ | refine X.cdF ?_ | refine cb ?_ ?_ | (refine cc ?_ ?_ <;> intro hcond) | (apply X.gsE; (· exact aR); (· exact aV); (· exact aW); (· intro hc; first | exact .callG rfl rfl rfl (hc) rfl | exact bg (hc)); (· exact aR)) | refine rb ?_ | refine nd ?_ | refine dk ?_ | fail)
        refine ⟨k + 1, ⟨by omega, by omega, he⟩, by omega, ?_⟩
        exact lq
      · rw [if_pos h0] at he
        rw [he]
        repeat' (first | (apply X.loE; (· exact aR); (· first | exact .callL rfl rfl rfl (hc) rfl | exact bl (hc))) | refine X.loc ?_ | refine nx ?_ | refine X.cdT ?_ | refine X.cdF ?_ | refine cb ?_ ?_ | (refine cc ?_ ?_ <;> intro hcond) | (apply X.gsE; (· exact aR); (· exact aV); (· exact aW); (· intro hc; first | exact .callG rfl rfl rfl (hc) rfl | exact bg (hc)); (· exact aR)) | refine rb ?_ | refine nd ?_ | refine dk ?_ | fail)
        exact .f1 (.inl rfl) rfl rfl
def orR : List Int → Int
  | [] => 0
  | x :: l => if x ≠ 0 then x else orR l
theorem or_T (l : List Int) (hl : l.length < 9223372036854775807) : Fun Tryz.prog 148 [.fv (slOf encI l)] (.fv (.int .i64 (orR l))) := by
  refine Fun.body tbl_ok Tryz.func148 rfl (by kernel_rfl) rfl rfl rfl ?_
  repeat' (first | refine X.loc ?_ | refine nx ?_ | refine cb ?_ ?_ | (refine cc ?_ ?_ <;> intro hcond) | refine rb ?_ | refine nd ?_ | refine dk ?_ | fail)
  refine WP.loop (ι := Nat) (fun k => ⟨[(0, .fv (slOf encI l)), (3, .fv (.int .i64 0)), (6, .fv (slOf encI l)), (7, .fv (.int .i64 l.length)), (8, .fv (.int .i64 k))], []⟩) (fun k => k ≤ l.length ∧ orR l = orR (l.drop k)) (fun k => l.length - k) 0 ⟨by omega, rfl⟩ ?_ ?_
  · exact lq
  rintro k ⟨hk, he⟩
  try dsimp only
  by_cases hlt : k < l.length
  case neg =>
    rw [he, List.drop_eq_nil_of_le (by omega), orR]
    repeat' (first | refine X.loc ?_ | refine nx ?_ | refine X.cdT ?_ | refine X.cdF ?_ | refine cb ?_ ?_ | (refine cc ?_ ?_ <;> intro hcond) | refine rb ?_ | refine nd ?_ | refine dk ?_ | fail)
    exact .f1 (.inl rfl) rfl rfl
  case pos =>
    obtain ⟨x, hx⟩ : ∃ x, l[k]? = some x := ⟨_, List.getElem?_eq_getElem hlt⟩
    have hdx : l.drop k = x :: l.drop (k + 1) := by rw [List.drop_eq_getElem_cons hlt, (List.getElem?_eq_some_iff.1 hx).2]
    rw [hdx, orR] at he
    by_cases h0 : x = 0
    · rw [if_neg (by omega)] at he
      subst h0
      repeat' (first | refine X.loc ?_ | refine nx ?_ | refine X.cdT ?_ | refine X.cdF ?_ | refine cb ?_ ?_ | (refine cc ?_ ?_ <;> intro hcond) | refine rb ?_ | refine nd ?_ | refine dk ?_ | fail)
      refine ⟨k + 1, ⟨by omega, he⟩, by omega, ?_⟩
      exact lq
    · rw [if_pos h0] at he
      rw [he]
      repeat' (first | refine X.loc ?_ | refine nx ?_ | refine X.cdT ?_ | refine X.cdF ?_ | refine cb ?_ ?_ | (refine cc ?_ ?_ <;> intro hcond) | refine rb ?_ | refine nd ?_ | refine dk ?_ | fail)
      exact .f1 (.inl rfl) rfl rfl
def Fl.Fit (f : Fl) : Prop := (2 + 3 * f.ms.length + 3 * f.ds.length) * 8 ≤ 140737488355328
theorem numsOf_len (f : Fl) : (numsOf f).length = 2 + 3 * f.ms.length + 3 * f.ds.length := by
  unfold numsOf
  rw [List.length_append, List.length_append, flat_len (s := 3) (fun _ => rfl), flat_len (s := 3) (fun _ => rfl)]
  rfl
set_option maxHeartbeats 1000000 in
theorem numbersO_T (f : Fl) (hf : f.Fit) : FunO Tryz.prog 151 [.agg ((encFl f).map .fv)] [] (.osl 7) [(7, .row 3 1 (numsOf f).length (((numsOf f).flatMap encI).map .fv))] := by
  unfold Fl.Fit at hf
  refine FunO.bodyL tbl_ok Tryz.func151 rfl (by kernel_rfl) rfl rfl rfl ?_
  repeat' (first | refine X.loc ?_ | refine nx ?_ | refine cb ?_ ?_ | (refine cc ?_ ?_ <;> intro hcond) | refine rb ?_ | refine nd ?_ | refine dk ?_ | fail)
  refine WP.loop (ι := Nat) (fun k => ⟨[(1, .optr 1 0), (3, .osl 900), (16, .fv (slOf encMx f.ms)), (17, .fv (.int .i64 f.ms.length)), (18, .fv (.int .i64 k))], [(1, .box 108 ((encFl f).map .fv)), (900, .row 3 1 (2 + 3 * k) ((([(f.ms.length : Int), (f.ds.length : Int)] ++ (f.ms.take k).flatMap mx3).flatMap encI).map .fv))]⟩) (fun k => k ≤ f.ms.length) (fun k => f.ms.length - k) 0 (by omega) ?_ ?_
  · exact tq [(900, .id 14)] []
  rintro k hk
  try dsimp only
  by_cases hlt : k < f.ms.length
  case pos =>
    obtain ⟨x, hx⟩ : ∃ x, f.ms[k]? = some x := ⟨_, List.getElem?_eq_getElem hlt⟩
    have hs : [(f.ms.length : Int), (f.ds.length : Int)] ++ (f.ms.take (k + 1)).flatMap mx3 = ([(f.ms.length : Int), (f.ds.length : Int)] ++ (f.ms.take k).flatMap mx3) ++ [x.field, x.mask, x.value] := by
      rw [List.take_add_one, hx]
      simp [mx3]
    generalize [(f.ms.length : Int), (f.ds.length : Int)] ++ (f.ms.take k).flatMap mx3 = L at *
    repeat' (first | refine X.loc ?_ | refine nx ?_ | refine X.cdT ?_ | refine X.cdF ?_ | refine cb ?_ ?_ | (refine cc ?_ ?_ <;> intro hcond) | refine rb ?_ | refine nd ?_ | refine dk ?_ | fail)
    refine ⟨k + 1, by omega, by omega, ?_⟩
    try dsimp only
    rw [hs]
    refine St.to [(900, .id 30)] [] rfl rfl ?_ ?_ <;> (repeat' (first | exact tA | refine t1 ?_ | exact tB | refine t2 ?_ ?_ | refine t3 ?_ | refine t4 ?_ ?_ | refine .ofEq ?_ | refine OB.To.cut rfl rfl ?_ ?_ ?_ ?_ | refine OB.To.box rfl rfl ?_ | refine ⟨⟨_, rfl, ?_⟩, ?_⟩ | refine ⟨?_, ?_⟩ | fail))
    all_goals first | omega | (simp; done) | (simp; omega) | (simp only [List.flatMap_append, List.map_append]; rfl)
  case neg =>
    obtain rfl : k = f.ms.length := by omega
    rw [List.take_length]
    repeat' (first | refine X.loc ?_ | refine nx ?_ | refine X.cdT ?_ | refine X.cdF ?_ | refine cb ?_ ?_ | (refine cc ?_ ?_ <;> intro hcond) | refine rb ?_ | refine nd ?_ | refine dk ?_ | fail)
    refine WP.loop (ι := Nat) (fun k => ⟨[(1, .optr 1 0), (3, .osl 900), (33, .fv (slOf encDx f.ds)), (34, .fv (.int .i64 f.ds.length)), (35, .fv (.int .i64 k))], [(1, .box 108 ((encFl f).map .fv)), (900, .row 3 1 (2 + 3 * f.ms.length + 3 * k) ((([(f.ms.length : Int), (f.ds.length : Int)] ++ f.ms.flatMap mx3 ++ (f.ds.take k).flatMap dx3).flatMap encI).map .fv))]⟩) (fun k => k ≤ f.ds.length) (fun k => f.ds.length - k) 0 (by omega) ?_ ?_
    · rw [List.take_zero, List.flatMap_nil, List.append_nil]
      refine St.to [(900, .id 900)] [] rfl rfl ?_ ?_ <;> (repeat' (first | exact tA | refine t1 ?_ | exact tB | refine t2 ?_ ?_ | refine t3 ?_ | refine t4 ?_ ?_ | refine .ofEq ?_ | refine OB.To.cut rfl rfl ?_ ?_ ?_ ?_ | refine OB.To.box rfl rfl ?_ | refine ⟨⟨_, rfl, ?_⟩, ?_⟩ | refine ⟨?_, ?_⟩ | fail))
      all_goals omega
    rintro k hk
    try dsimp only
    by_cases hlt : k < f.ds.length
    case pos =>
      obtain ⟨x, hx⟩ : ∃ x, f.ds[k]? = some x := ⟨_, List.getElem?_eq_getElem hlt⟩
      have hs : [(f.ms.length : Int), (f.ds.length : Int)] ++ f.ms.flatMap mx3 ++ (f.ds.take (k + 1)).flatMap dx3 = ([(f.ms.length : Int), (f.ds.length : Int)] ++ f.ms.flatMap mx3 ++ (f.ds.take k).flatMap dx3) ++ [x.kind, x.a, x.n] := by
        rw [List.take_add_one, hx]
        simp [dx3]
      generalize [(f.ms.length : Int), (f.ds.length : Int)] ++ f.ms.flatMap mx3 ++ (f.ds.take k).flatMap dx3 = L at *
      repeat' (first | refine X.loc ?_ | refine nx ?_ | refine X.cdT ?_ | refine X.cdF ?_ | refine cb ?_ ?_ | (refine cc ?_ ?_ <;> intro hcond) | refine rb ?_ | refine nd ?_ | refine dk ?_ | fail)
      refine ⟨k + 1, by omega, by omega, ?_⟩
      try dsimp only
      rw [hs]
      refine St.to [(900, .id 47)] [] rfl rfl ?_ ?_ <;> (repeat' (first | exact tA | refine t1 ?_ | exact tB | refine t2 ?_ ?_ | refine t3 ?_ | refine t4 ?_ ?_ | refine .ofEq ?_ | refine OB.To.cut rfl rfl ?_ ?_ ?_ ?_ | refine OB.To.box rfl rfl ?_ | refine ⟨⟨_, rfl, ?_⟩, ?_⟩ | refine ⟨?_, ?_⟩ | fail))
      all_goals first | omega | (simp; done) | (simp; omega) | (simp only [List.flatMap_append, List.map_append]; rfl)
    case neg =>
      obtain rfl : k = f.ds.length := by omega
      rw [List.take_length]
      have hn : [(f.ms.length : Int), (f.ds.length : Int)] ++ f.ms.flatMap mx3 ++ f.ds.flatMap dx3 = numsOf f := rfl
      have hlen := numsOf_len f
      rw [hn]
      generalize numsOf f = L at *
      repeat' (first | refine X.loc ?_ | refine nx ?_ | refine X.cdT ?_ | refine X.cdF ?_ | refine cb ?_ ?_ | (refine cc ?_ ?_ <;> intro hcond) | refine rb ?_ | refine nd ?_ | refine dk ?_ | fail)
      rw [← hlen]
      exact rq ⟨[(2, .osl 7)], [(7, .row 3 1 L.length ((L.flatMap encI).map .fv))]⟩ (tq [(7, .id 900)] [])
theorem numbers_T (f : Fl) (hf : f.Fit) : Fun Tryz.prog 151 [.agg ((encFl f).map .fv)] (.fv (slOf encI (numsOf f))) :=
  (numbersO_T f hf).froz [7] (.frz rfl rfl rfl)
theorem orR_ord (x y : Fl) : orR [cmpI x.table y.table, cmpI y.prio x.prio, cmpL (numsOf x) (numsOf y)] = ordF x y := by
  unfold ordF keyOf
  rw [cmpL, cmpL, cmpI_swap, orR, orR, orR, orR]
  split
  · rfl
  · split
    · rfl
    · split
      · rfl
      · omega
set_option maxHeartbeats 1000000 in
theorem order_T (x y : Fl) (hx : x.Fit) (hy : y.Fit) : Fun Tryz.prog 116 [.agg ((encFl x).map .fv), .agg ((encFl y).map .fv)] (.fv (.int .i64 (ordF x y))) := by
  have c1 := compare_T x.table y.table
  have c2 := compare_T y.prio x.prio
  have n1 := numbers_T x hx
  have n2 := numbers_T y hy
  have c3 := compareL_T (numsOf x) (numsOf y) (by rw [numsOf_len]; unfold Fl.Fit at hx; omega) (by rw [numsOf_len]; unfold Fl.Fit at hy; omega)
  have c4 := or_T [cmpI x.table y.table, cmpI y.prio x.prio, cmpL (numsOf x) (numsOf y)] (by simp)
  rw [orR_ord] at c4
  generalize ordF x y = o at *
  generalize cmpL (numsOf x) (numsOf y) = o3 at *
  generalize cmpI x.table y.table = o1 at *
  generalize cmpI y.prio x.prio = o2 at *
  refine Fun.body tbl_ok Tryz.func116 rfl (by kernel_rfl) rfl rfl rfl ?_
  repeat' (first | (apply X.loE; (· exact aR); (· first | exact .eff (.bsliceFS rfl rfl rfl rfl rfl rfl) | exact .callL rfl rfl rfl (by first | exact c1 | exact c2 | exact n1 | exact n2 | exact c3 | exact c4) rfl | exact bl (c1) | exact bl (c2) | exact bl (n1) | exact bl (n2) | exact bl (c3) | exact bl (c4))) | refine X.loc ?_ | refine nx ?_ | refine X.cdT ?_ | refine X.cdF ?_ | refine cb ?_ ?_ | (refine cc ?_ ?_ <;> intro hcond) | (apply X.gsE; (· exact aR); (· exact aV); (· exact aW); (· intro hc; first | exact .eff (.bsliceFS rfl rfl rfl rfl rfl rfl) | exact .callG rfl rfl rfl (by first | exact c1 | exact c2 | exact n1 | exact n2 | exact c3 | exact c4) rfl | exact bg (c1) | exact bg (c2) | exact bg (n1) | exact bg (n2) | exact bg (c3) | exact bg (c4)); (· exact aR)) | refine rb ?_ | refine nd ?_ | refine dk ?_ | fail)
  exact .f1 (.inl rfl) rfl rfl
theorem addPort1_T (p q : Po) : Fun Tryz.prog 96 [.agg ((encPo q).map .fv), .fptr (encPo p)] (.fv (.bool (q.id == p.id || (q.sw == p.sw && q.mac == p.mac)))) := by
  refine Fun.body tbl_ok Tryz.func96 rfl (by kernel_rfl) rfl rfl rfl ?_
  repeat' (first | refine X.loc ?_ | refine nx ?_ | refine cb ?_ ?_ | (refine cc ?_ ?_ <;> intro hcond) | refine rb ?_ | refine nd ?_ | refine dk ?_ | fail)
  exact .f1 (.inl rfl) rfl rfl
set_option maxHeartbeats 2000000 in
theorem addSwitch_T (c : Cf) (s : Sw) (hl : c.Small) (hw : c.Wf) (hn : c.ss.length ≤ 12) : Fun Tryz.prog 63 [.agg ((encCf c).map .fv), .agg ((encSw s).map .fv)] (.fv (.int .i64 (swFault c s))) := by
  have hl1 := hl.1
  have hix := idxB_any (fun x : Sw => x.id == s.id) c.ss
  have hsec : 0 ≤ s.gate → ((decide (idxB (fun x : Sw => x.id == s.id) c.ss ≥ 0) || (s.gate != 0 && takenB c s.tenant s.gate)) = true ↔ (c.ss.any (fun x => x.id == s.id) = true ∨ (0 < s.gate ∧ takenB c s.tenant s.gate = true))) := fun hg => by
    rw [Bool.or_eq_true, decide_eq_true_iff, Bool.and_eq_true, bne_iff_ne]
    refine or_congr ?_ (and_congr (by omega) Iff.rfl)
    rw [← Bool.not_eq_false, ← hix]
    omega
  refine Fun.body tbl_ok Tryz.func63 rfl (by kernel_rfl) rfl rfl rfl ?_
  repeat' (first | (apply X.loE; (· exact aR); (· first | exact .callL rfl rfl rfl (by first | exact within_T _ _ _ | exact place_T c _ hl1 | exact taken_T c _ _ hl hw) rfl | exact bl (within_T _ _ _) | exact bl (place_T c _ hl1) | exact bl (taken_T c _ _ hl hw))) | refine X.loc ?_ | refine nx ?_ | refine cb ?_ ?_ | (refine cc ?_ ?_ <;> intro hcond) | (apply X.gsE; (· exact aR); (· exact aV); (· exact aW); (· intro hc; first | exact .callG rfl rfl rfl (by first | exact within_T _ _ _ | exact place_T c _ hl1 | exact taken_T c _ _ hl hw) rfl | exact bg (within_T _ _ _) | exact bg (place_T c _ hl1) | exact bg (taken_T c _ _ hl hw)); (· exact aR)) | refine rb ?_ | refine nd ?_ | refine dk ?_ | fail)
  · refine .f1 (.inl rfl) rfl ?_
    rw [swFault, if_pos (by simpa [or_assoc] using hcond)]
  · refine .f1 (.inl rfl) rfl ?_
    rename_i h1
    have h1 : ¬ (inR s.id 1 500 = false ∨ inR s.tenant 1 9 = false ∨ inR s.gate 0 65535 = false) := by simpa [and_assoc] using h1
    have hg : 0 ≤ s.gate := (inR_iff.1 (show inR s.gate 0 65535 = true by simp at h1; exact h1.2.2)).1
    rw [swFault, if_neg h1, if_pos ((hsec hg).1 hcond)]
  · refine .f1 (.inl rfl) rfl ?_
    rename_i h1 h2
    have h1 : ¬ (inR s.id 1 500 = false ∨ inR s.tenant 1 9 = false ∨ inR s.gate 0 65535 = false) := by simpa [and_assoc] using h1
    have hg : 0 ≤ s.gate := (inR_iff.1 (show inR s.gate 0 65535 = true by simp at h1; exact h1.2.2)).1
    rw [swFault, if_neg h1, if_neg (fun h => by rw [(hsec hg).2 h] at h2; cases h2), if_pos (by simp at hcond; omega)]
  · refine .f1 (.inl rfl) rfl ?_
    rename_i h1 h2
    have h1 : ¬ (inR s.id 1 500 = false ∨ inR s.tenant 1 9 = false ∨ inR s.gate 0 65535 = false) := by simpa [and_assoc] using h1
    have hg : 0 ≤ s.gate := (inR_iff.1 (show inR s.gate 0 65535 = true by simp at h1; exact h1.2.2)).1
    rw [swFault, if_neg h1, if_neg (fun h => by rw [(hsec hg).2 h] at h2; cases h2), if_neg (by simp at hcond; omega)]
set_option maxHeartbeats 2000000 in
theorem addPort_T (c : Cf) (p : Po) (hl : c.Small) (hw : c.Wf) (hn : c.ps.length ≤ 40) : Fun Tryz.prog 64 [.agg ((encCf c).map .fv), .agg ((encPo p).map .fv)] (.fv (.int .i64 (poFault c p))) := by
  have hl1 := hl.1
  have hix := idxB_any (fun x : Sw => x.id == p.sw) c.ss
  have hpl := place_T c p.sw hl1
  have hr : ∀ {b : Bool}, (!inR p.id 1 999 || !inR p.mac 1 59999 || !inR p.ip 1 65535 || !inR p.ch (-1) 5) = false → ¬ (inR p.id 1 999 = false ∨ inR p.mac 1 59999 = false ∨ inR p.ip 1 65535 = false ∨ inR p.ch (-1) 5 = false) := fun {_} h => by simpa [and_assoc] using h
  refine Fun.body tbl_ok Tryz.func64 rfl (by kernel_rfl) rfl rfl rfl ?_
  cases hany : c.ss.any (fun x => x.id == p.sw) with
  | false =>
    have : idxB (fun x : Sw => x.id == p.sw) c.ss = -1 := by
      have := idxB_ge (fun x : Sw => x.id == p.sw) c.ss
      have := hix.2 hany
      omega
    rw [this] at hpl
    repeat' (first | (apply X.loE; (· exact aR); (· first | exact .callL rfl rfl rfl (by first | exact within_T _ _ _ | exact hpl) rfl | exact bl (within_T _ _ _) | exact bl (hpl))) | refine X.loc ?_ | refine nx ?_ | refine cb ?_ ?_ | (refine cc ?_ ?_ <;> intro hcond) | (apply X.gsE; (· exact aR); (· exact aV); (· exact aW); (· intro hc; first | exact .callG rfl rfl rfl (by first | exact within_T _ _ _ | exact hpl) rfl | exact bg (within_T _ _ _) | exact bg (hpl)); (· exact aR)) | refine rb ?_ | refine nd ?_ | refine dk ?_ | fail)
    · refine .f1 (.inl rfl) rfl ?_
      rw [poFault, if_pos (by simpa [or_assoc] using hcond)]
    · refine .f1 (.inl rfl) rfl ?_
      rw [poFault, if_neg (hr (b := true) (by assumption)), if_pos hany]
  | true =>
    obtain ⟨k, hk⟩ := idxB_some hany
    obtain ⟨x, hx, ht⟩ := tenantAt_at hk
    rw [hk] at hpl
    have hnf : ¬ (c.ss.any (fun x => x.id == p.sw) = false) := by rw [hany]; simp
    repeat' (first | (apply X.loE; (· exact aR); (· first | (exact .eff (.idxS rfl rfl rfl encSw_len hx)) | exact .callL rfl rfl rfl (by first | exact within_T _ _ _ | exact hpl | exact containsPo_T c.ps _ [.fptr (encPo p)] (fun q => q.id == p.id || (q.sw == p.sw && q.mac == p.mac)) hl.2.1 (fun q _ => addPort1_T p q) | exact taken_T c _ _ hl hw) rfl | exact bl (within_T _ _ _) | exact bl (hpl) | exact bl (containsPo_T c.ps _ [.fptr (encPo p)] (fun q => q.id == p.id || (q.sw == p.sw && q.mac == p.mac)) hl.2.1 (fun q _ => addPort1_T p q)) | exact bl (taken_T c _ _ hl hw))) | refine X.loc ?_ | refine nx ?_ | refine cb ?_ ?_ | (refine cc ?_ ?_ <;> intro hcond) | (apply X.gsE; (· exact aR); (· exact aV); (· exact aW); (· intro hc; first | (exact .eff (.idxS rfl rfl rfl encSw_len hx)) | exact .callG rfl rfl rfl (by first | exact within_T _ _ _ | exact hpl | exact containsPo_T c.ps _ [.fptr (encPo p)] (fun q => q.id == p.id || (q.sw == p.sw && q.mac == p.mac)) hl.2.1 (fun q _ => addPort1_T p q) | exact taken_T c _ _ hl hw) rfl | exact bg (within_T _ _ _) | exact bg (hpl) | exact bg (containsPo_T c.ps _ [.fptr (encPo p)] (fun q => q.id == p.id || (q.sw == p.sw && q.mac == p.mac)) hl.2.1 (fun q _ => addPort1_T p q)) | exact bg (taken_T c _ _ hl hw)); (· exact aR)) | refine rb ?_ | refine nd ?_ | refine dk ?_ | fail)
    · refine .f1 (.inl rfl) rfl ?_
      rw [poFault, if_pos (by simpa [or_assoc] using hcond)]
    · refine .f1 (.inl rfl) rfl ?_
      rw [poFault, if_neg (hr (b := true) (by assumption)), if_neg hnf, if_pos hcond]
    · refine .f1 (.inl rfl) rfl ?_
      rename_i h2
      rw [poFault, if_neg (hr (b := true) (by assumption)), if_neg hnf, if_neg (fun h => by rw [h] at h2; cases h2), ht, if_pos hcond]
    · refine .f1 (.inl rfl) rfl ?_
      rename_i h2 h3
      rw [poFault, if_neg (hr (b := true) (by assumption)), if_neg hnf, if_neg (fun h => by rw [h] at h2; cases h2), ht, if_neg (fun h => by rw [h] at h3; cases h3), if_pos (by simp at hcond; omega)]
    · refine .f1 (.inl rfl) rfl ?_
      rename_i h2 h3
      rw [poFault, if_neg (hr (b := true) (by assumption)), if_neg hnf, if_neg (fun h => by rw [h] at h2; cases h2), ht, if_neg (fun h => by rw [h] at h3; cases h3), if_neg (by simp at hcond; omega)]
theorem unitOf_nat (b : Nat) : unitOf (b : Int) = ((2 ^ (16 - b) : Nat) : Int) := by
  unfold unitOf
  rw [Int.toNat_natCast]
  simp
set_option maxHeartbeats 4000000 in
theorem addAcl_T (c : Cf) (a : Ac) (hl : c.Small) (hn : c.acs.length ≤ 40) : Fun Tryz.prog 65 [.agg ((encCf c).map .fv), .agg ((encAc a).map .fv)] (.fv (.int .i64 (acFault c a))) := by
  have hl1 := hl.1
  have hix := idxB_any (fun x : Sw => x.id == a.sw) c.ss
  have hpl := place_T c a.sw hl1
  refine Fun.body tbl_ok Tryz.func65 rfl (by kernel_rfl) rfl rfl rfl ?_
  repeat' (first | (apply X.loE; (· exact aR); (· first | exact .callL rfl rfl rfl (within_T _ _ _) rfl | exact bl (within_T _ _ _))) | refine X.loc ?_ | refine nx ?_ | refine cb ?_ ?_ | (refine cc ?_ ?_ <;> intro hcond) | (apply X.gsE; (· exact aR); (· exact aV); (· exact aW); (· intro hc; first | exact .callG rfl rfl rfl (within_T _ _ _) rfl | exact bg (within_T _ _ _)); (· exact aR)) | refine rb ?_ | refine dk ?_ | fail)
  · refine .f1 (.inl rfl) rfl ?_
    rw [acFault, if_pos (by simpa [or_assoc] using hcond)]
  have h1 : ¬ (inR a.prio 0 1000 = false ∨ inR a.src 0 65535 = false ∨ inR a.dst 0 65535 = false ∨ inR a.srcBits 0 16 = false ∨ inR a.dstBits 0 16 = false ∨ inR a.port (-1) 65535 = false) := by simpa [and_assoc] using hcond
  have g1 := inR_iff.1 (show inR a.src 0 65535 = true by simp_all)
  have g2 := inR_iff.1 (show inR a.dst 0 65535 = true by simp_all)
  have g3 := inR_iff.1 (show inR a.srcBits 0 16 = true by simp_all)
  have g4 := inR_iff.1 (show inR a.dstBits 0 16 = true by simp_all)
  obtain ⟨sb, hsb⟩ := Int.eq_ofNat_of_zero_le g3.1
  obtain ⟨db, hdb⟩ := Int.eq_ofNat_of_zero_le g4.1
  obtain ⟨sr, hsr⟩ := Int.eq_ofNat_of_zero_le g1.1
  obtain ⟨ds, hds⟩ := Int.eq_ofNat_of_zero_le g2.1
  have m1 := mask_T sb (by omega)
  have m2 := mask_T db (by omega)
  rw [← hsb] at m1
  rw [← hdb] at m2
  have n1 := andNot_mask sr sb (by omega) (by omega)
  have n2 := andNot_mask ds db (by omega) (by omega)
  rw [← hsr] at n1
  rw [← hds] at n2
  have hsec : (bits .andNot .i64 a.src ((65536 - 2 ^ (16 - sb) : Nat) : Int) != 0 || bits .andNot .i64 a.dst ((65536 - 2 ^ (16 - db) : Nat) : Int) != 0) = true ↔ (a.src % unitOf a.srcBits ≠ 0 ∨ a.dst % unitOf a.dstBits ≠ 0) := by
    rw [n1, n2, hsb, hdb, unitOf_nat, unitOf_nat, hsr, hds, Bool.or_eq_true, bne_iff_ne, bne_iff_ne, Int.natCast_emod, Int.natCast_emod]
  clear hcond
  repeat' (first | (apply X.loE; (· exact aR); (· first | exact .callL rfl rfl rfl (by first | exact m1 | exact m2 | exact hpl) rfl | exact bl (m1) | exact bl (m2) | exact bl (hpl))) | refine X.loc ?_ | refine nx ?_ | refine cb ?_ ?_ | (refine cc ?_ ?_ <;> intro hcond) | (apply X.gsE; (· exact aR); (· exact aV); (· exact aW); (· intro hc; first | exact .callG rfl rfl rfl (by first | exact m1 | exact m2 | exact hpl) rfl | exact bg (m1) | exact bg (m2) | exact bg (hpl)); (· exact aR)) | refine rb ?_ | refine nd ?_ | refine dk ?_ | fail)
  · refine .f1 (.inl rfl) rfl ?_
    rw [acFault, if_neg h1, if_pos (hsec.1 hcond)]
  · refine .f1 (.inl rfl) rfl ?_
    rename_i h2
    rw [acFault, if_neg h1, if_neg (fun h => by rw [hsec.2 h] at h2; cases h2), if_pos (hix.1 (by simpa using hcond))]
  · refine .f1 (.inl rfl) rfl ?_
    rename_i h2 h3
    have h3 : ¬ (c.ss.any (fun x => x.id == a.sw) = false) := fun h => by simp at h3; have := hix.2 h; omega
    rw [acFault, if_neg h1, if_neg (fun h => by rw [hsec.2 h] at h2; cases h2), if_neg h3, if_pos (by simp at hcond; omega)]
  · refine .f1 (.inl rfl) rfl ?_
    rename_i h2 h3
    have h3 : ¬ (c.ss.any (fun x => x.id == a.sw) = false) := fun h => by simp at h3; have := hix.2 h; omega
    rw [acFault, if_neg h1, if_neg (fun h => by rw [hsec.2 h] at h2; cases h2), if_neg h3, if_neg (by simp at hcond; omega)]
theorem take_all {α : Type} {p : α → Prop} {l : List α} {k : Nat} {x : α} (hx : l[k]? = some x) (h : ∀ y ∈ l.take k, p y) (h' : p x) : ∀ y ∈ l.take (k + 1), p y := by
  rw [List.take_add_one, hx]
  intro y hy
  simp at hy
  rcases hy with hy | rfl
  · exact h y hy
  · exact h'

theorem take_snoc {α : Type} {l : List α} {k : Nat} {x : α} (h : l[k]? = some x) : l.take (k + 1) = l.take k ++ [x] := by
  rw [List.take_add_one, h]
  rfl
theorem drop_at {α : Type} {l : List α} {k : Nat} {x : α} (hx : l[k]? = some x) : l.drop k = x :: l.drop (k + 1) := by
  have hlt := (List.getElem?_eq_some_iff.1 hx).1
  rw [List.drop_eq_getElem_cons hlt, (List.getElem?_eq_some_iff.1 hx).2]
theorem sws_at {l : List Sw} {k : Nat} {x : Sw} {ps : List Po} {acs : List Ac} (hx : l[k]? = some x) : swsMay ⟨l.take k, ps, acs⟩ (l.drop k) = (decide (swFault ⟨l.take k, ps, acs⟩ x = 0) && swsMay ⟨l.take (k + 1), ps, acs⟩ (l.drop (k + 1))) := by
  rw [drop_at hx, swsMay, take_snoc hx]
theorem pos_at {l : List Po} {k : Nat} {x : Po} {ss : List Sw} {acs : List Ac} (hx : l[k]? = some x) : posMay ⟨ss, l.take k, acs⟩ (l.drop k) = (decide (poFault ⟨ss, l.take k, acs⟩ x = 0) && posMay ⟨ss, l.take (k + 1), acs⟩ (l.drop (k + 1))) := by
  rw [drop_at hx, posMay, take_snoc hx]
theorem acs_at {l : List Ac} {k : Nat} {x : Ac} {ss : List Sw} {ps : List Po} (hx : l[k]? = some x) : acsMay ⟨ss, ps, l.take k⟩ (l.drop k) = (decide (acFault ⟨ss, ps, l.take k⟩ x = 0) && acsMay ⟨ss, ps, l.take (k + 1)⟩ (l.drop (k + 1))) := by
  rw [drop_at hx, acsMay, take_snoc hx]
theorem cut_small {c : Cf} (hl : c.Small) (i j k : Nat) : Cf.Small ⟨c.ss.take i, c.ps.take j, c.acs.take k⟩ :=
  ⟨Nat.lt_of_le_of_lt (List.length_take_le' _ _) hl.1, Nat.lt_of_le_of_lt (List.length_take_le' _ _) hl.2.1, Nat.lt_of_le_of_lt (List.length_take_le' _ _) hl.2.2⟩
theorem int_ne {a : Int} (h : (a != 0) = true) : a ≠ 0 := by simpa using h
theorem int_eq {a : Int} (h : (a != 0) = false) : a = 0 := by simpa using h

set_option maxHeartbeats 4000000 in
theorem confCheck_T (c : Cf) (hl : c.Small) : Fun Tryz.prog 36 [.agg ((encCf c).map .fv)] (.fv (.int .i64 (if cfMay c = true then 0 else 8))) := by
  have hl1 := hl.1
  have hl2 := hl.2.1
  have hl3 := hl.2.2
  refine Fun.body tbl_ok Tryz.func36 rfl (by kernel_rfl) rfl rfl rfl ?_
  repeat' (first | refine X.loc ?_ | refine nx ?_ | refine cb ?_ ?_ | (refine cc ?_ ?_ <;> intro hcond) | refine rb ?_ | refine nd ?_ | refine dk ?_ | fail)
  refine WP.loop (ι := Nat) (fun k => ⟨[(1, .optr 1 0), (3, .optr 3 0), (12, .fv (slOf encSw c.ss)), (13, .fv (.int .i64 c.ss.length)), (14, .fv (.int .i64 k))], [ (1, .box 26 ((encCf c).map .fv)), (3, .box 26 [.osl 900, .nil, .nil]), (900, .row 44 3 (c.ss.take k).length (((c.ss.take k).flatMap encSw).map .fv))]⟩)
    (fun k => k ≤ c.ss.length ∧ k ≤ 12 ∧ swsMay ⟨[], [], []⟩ c.ss = swsMay ⟨c.ss.take k, [], []⟩ (c.ss.drop k)) (fun k => c.ss.length - k) 0 ⟨by omega, by omega, rfl⟩ ?_ ?_
  · exact tq [(900, .nil)] []
  rintro k ⟨hk, hk12, hd⟩
  try dsimp only
  have hlen : (c.ss.take k).length ≤ 12 := by simp; omega
  by_cases hlt : k < c.ss.length
  case pos =>
    obtain ⟨x, hx⟩ : ∃ x, c.ss[k]? = some x := ⟨_, List.getElem?_eq_getElem hlt⟩
    have hat := sws_at (ps := []) (acs := []) hx
    have hsm : Cf.Small ⟨c.ss.take k, [], []⟩ := by have := cut_small hl k 0 0; simpa using this
    repeat' (first | (apply X.loE; (· exact aR); (· first | (exact .eff (.idxS rfl rfl rfl encSw_len hx)) | exact .callL rfl rfl rfl (addSwitch_T ⟨c.ss.take k, [], []⟩ x hsm (by intro p hp; simp at hp) hlen) rfl | exact bl (addSwitch_T ⟨c.ss.take k, [], []⟩ x hsm (by intro p hp; simp at hp) hlen))) | refine X.loc ?_ | refine nx ?_ | refine cb ?_ ?_ | (refine cc ?_ ?_ <;> intro hcond) | (apply X.gsE; (· exact aR); (· exact aV); (· exact aW); (· intro hc; first | (exact .eff (.idxS rfl rfl rfl encSw_len hx)) | exact .callG rfl rfl rfl (addSwitch_T ⟨c.ss.take k, [], []⟩ x hsm (by intro p hp; simp at hp) hlen) rfl | exact bg (addSwitch_T ⟨c.ss.take k, [], []⟩ x hsm (by intro p hp; simp at hp) hlen)); (· exact aR)) | refine rb ?_ | refine nd ?_ | refine dk ?_ | fail)
    · refine .f1 (.inl rfl) rfl ?_
      have : cfMay c = false := by
        unfold cfMay
        rw [hd, hat, decide_eq_false (int_ne hcond)]
        rfl
      rw [this]
      rfl
    · have h0 := int_eq hcond
      have := swFault_lt h0
      refine ⟨k + 1, ⟨by omega, by simp at this; omega, ?_⟩, by omega, ?_⟩
      · rw [hd, hat, decide_eq_true h0]
        rfl
      · skip
        refine St.to [(900, .id 26)] [] rfl rfl ?_ ?_ <;> (repeat' (first | exact tA | refine t1 ?_ | exact tB | refine t2 ?_ ?_ | refine t3 ?_ | refine t4 ?_ ?_ | refine .ofEq ?_ | refine OB.To.cut rfl rfl ?_ ?_ ?_ ?_ | refine OB.To.box rfl rfl ?_ | refine ⟨⟨_, rfl, ?_⟩, ?_⟩ | refine ⟨?_, ?_⟩ | fail))
        all_goals first | exact (take_len hx).symm | (rw [take_flat hx, List.map_append]; rfl)
    · exfalso
      simp at hcond
      omega
  case neg =>
    have hek : k = c.ss.length := by omega
    subst hek
    rw [List.drop_of_length_le (Nat.le_refl _)] at hd
    have hsw : swsMay ⟨[], [], []⟩ c.ss = true := hd
    repeat' (first | refine X.loc ?_ | refine nx ?_ | refine cb ?_ ?_ | (refine cc ?_ ?_ <;> intro hcond) | refine rb ?_ | refine nd ?_ | refine dk ?_ | fail)
    · exfalso
      simp at hcond
    refine WP.loop (ι := Nat) (fun k => ⟨[(1, .optr 1 0), (3, .optr 3 0), (30, .fv (slOf encPo c.ps)), (31, .fv (.int .i64 c.ps.length)), (32, .fv (.int .i64 k))], [ (1, .box 26 ((encCf c).map .fv)), (3, .box 26 [.osl 900, .osl 901, .nil]), (900, .row 44 3 c.ss.length ((c.ss.flatMap encSw).map .fv)), (901, .row 69 5 (c.ps.take k).length (((c.ps.take k).flatMap encPo).map .fv))]⟩)
      (fun k => k ≤ c.ps.length ∧ k ≤ 40 ∧ Cf.Wf ⟨c.ss, c.ps.take k, []⟩ ∧ posMay ⟨c.ss, [], []⟩ c.ps = posMay ⟨c.ss, c.ps.take k, []⟩ (c.ps.drop k)) (fun k => c.ps.length - k) 0 ⟨by omega, by omega, (by intro p hp; simp at hp), rfl⟩ ?_ ?_
    · skip
      refine St.to [(901, .nil)] [] rfl rfl ?_ ?_ <;> (repeat' (first | exact tA | refine t1 ?_ | exact tB | refine t2 ?_ ?_ | refine t3 ?_ | refine t4 ?_ ?_ | refine .ofEq ?_ | refine OB.To.cut rfl rfl ?_ ?_ ?_ ?_ | refine OB.To.box rfl rfl ?_ | refine ⟨⟨_, rfl, ?_⟩, ?_⟩ | refine ⟨?_, ?_⟩ | fail))
      all_goals rw [List.take_of_length_le (Nat.le_refl _)]
    rintro k ⟨hk, hk40, hwf, hd⟩
    try dsimp only
    have hlen : (c.ps.take k).length ≤ 40 := by simp; omega
    by_cases hlt : k < c.ps.length
    case pos =>
      obtain ⟨x, hx⟩ : ∃ x, c.ps[k]? = some x := ⟨_, List.getElem?_eq_getElem hlt⟩
      have hat := pos_at (ss := c.ss) (acs := []) hx
      have hsm : Cf.Small ⟨c.ss, c.ps.take k, []⟩ := by have := cut_small hl c.ss.length k 0; simpa using this
      repeat' (first | (apply X.loE; (· exact aR); (· first | (exact .eff (.idxS rfl rfl rfl encPo_len hx)) | exact .callL rfl rfl rfl (addPort_T ⟨c.ss, c.ps.take k, []⟩ x hsm hwf hlen) rfl | exact bl (addPort_T ⟨c.ss, c.ps.take k, []⟩ x hsm hwf hlen))) | refine X.loc ?_ | refine nx ?_ | refine cb ?_ ?_ | (refine cc ?_ ?_ <;> intro hcond) | (apply X.gsE; (· exact aR); (· exact aV); (· exact aW); (· intro hc; first | (exact .eff (.idxS rfl rfl rfl encPo_len hx)) | exact .callG rfl rfl rfl (addPort_T ⟨c.ss, c.ps.take k, []⟩ x hsm hwf hlen) rfl | exact bg (addPort_T ⟨c.ss, c.ps.take k, []⟩ x hsm hwf hlen)); (· exact aR)) | refine rb ?_ | refine nd ?_ | refine dk ?_ | fail)
      · refine .f1 (.inl rfl) rfl ?_
        have : cfMay c = false := by
          unfold cfMay
          rw [hd, hat, decide_eq_false (int_ne hcond), hsw]
          rfl
        rw [this]
        rfl
      · have h0 := int_eq hcond
        have := poFault_lt h0
        refine ⟨k + 1, ⟨by omega, by have := this.1; simp at this; omega, ?_, ?_⟩, by omega, ?_⟩
        · exact take_all (p := fun p : Po => c.ss.any (fun x => x.id == p.sw) = true) hx hwf this.2
        · rw [hd, hat, decide_eq_true h0]
          rfl
        · skip
          refine St.to [(901, .id 44)] [] rfl rfl ?_ ?_ <;> (repeat' (first | exact tA | refine t1 ?_ | exact tB | refine t2 ?_ ?_ | refine t3 ?_ | refine t4 ?_ ?_ | refine .ofEq ?_ | refine OB.To.cut rfl rfl ?_ ?_ ?_ ?_ | refine OB.To.box rfl rfl ?_ | refine ⟨⟨_, rfl, ?_⟩, ?_⟩ | refine ⟨?_, ?_⟩ | fail))
          all_goals first | exact (take_len hx).symm | (rw [take_flat hx, List.map_append]; rfl)
      · exfalso
        simp at hcond
        omega
    case neg =>
      have hek : k = c.ps.length := by omega
      subst hek
      rw [List.drop_of_length_le (Nat.le_refl _)] at hd
      have hpo : posMay ⟨c.ss, [], []⟩ c.ps = true := hd
      repeat' (first | refine X.loc ?_ | refine nx ?_ | refine cb ?_ ?_ | (refine cc ?_ ?_ <;> intro hcond) | refine rb ?_ | refine nd ?_ | refine dk ?_ | fail)
      · exfalso
        simp at hcond
      refine WP.loop (ι := Nat) (fun k => ⟨[(1, .optr 1 0), (3, .optr 3 0), (48, .fv (slOf encAc c.acs)), (49, .fv (.int .i64 c.acs.length)), (50, .fv (.int .i64 k))], [ (1, .box 26 ((encCf c).map .fv)), (3, .box 26 [.osl 900, .osl 901, .osl 902]), (900, .row 44 3 c.ss.length ((c.ss.flatMap encSw).map .fv)), (901, .row 69 5 c.ps.length ((c.ps.flatMap encPo).map .fv)), (902, .row 38 9 (c.acs.take k).length (((c.acs.take k).flatMap encAc).map .fv))]⟩)
        (fun k => k ≤ c.acs.length ∧ k ≤ 40 ∧ acsMay ⟨c.ss, c.ps, []⟩ c.acs = acsMay ⟨c.ss, c.ps, c.acs.take k⟩ (c.acs.drop k)) (fun k => c.acs.length - k) 0 ⟨by omega, by omega, rfl⟩ ?_ ?_
      · skip
        refine St.to [(902, .nil)] [] rfl rfl ?_ ?_ <;> (repeat' (first | exact tA | refine t1 ?_ | exact tB | refine t2 ?_ ?_ | refine t3 ?_ | refine t4 ?_ ?_ | refine .ofEq ?_ | refine OB.To.cut rfl rfl ?_ ?_ ?_ ?_ | refine OB.To.box rfl rfl ?_ | refine ⟨⟨_, rfl, ?_⟩, ?_⟩ | refine ⟨?_, ?_⟩ | fail))
        all_goals rw [List.take_of_length_le (Nat.le_refl _)]
      rintro k ⟨hk, hk40, hd⟩
      try dsimp only
      have hlen : (c.acs.take k).length ≤ 40 := by simp; omega
      by_cases hlt : k < c.acs.length
      case pos =>
        obtain ⟨x, hx⟩ : ∃ x, c.acs[k]? = some x := ⟨_, List.getElem?_eq_getElem hlt⟩
        have hat := acs_at (ss := c.ss) (ps := c.ps) hx
        have hsm : Cf.Small ⟨c.ss, c.ps, c.acs.take k⟩ := by have := cut_small hl c.ss.length c.ps.length k; simpa using this
        repeat' (first | (apply X.loE; (· exact aR); (· first | (exact .eff (.idxS rfl rfl rfl encAc_len hx)) | exact .callL rfl rfl rfl (addAcl_T ⟨c.ss, c.ps, c.acs.take k⟩ x hsm hlen) rfl | exact bl (addAcl_T ⟨c.ss, c.ps, c.acs.take k⟩ x hsm hlen))) | refine X.loc ?_ | refine nx ?_ | refine cb ?_ ?_ | (refine cc ?_ ?_ <;> intro hcond) | (apply X.gsE; (· exact aR); (· exact aV); (· exact aW); (· intro hc; first | (exact .eff (.idxS rfl rfl rfl encAc_len hx)) | exact .callG rfl rfl rfl (addAcl_T ⟨c.ss, c.ps, c.acs.take k⟩ x hsm hlen) rfl | exact bg (addAcl_T ⟨c.ss, c.ps, c.acs.take k⟩ x hsm hlen)); (· exact aR)) | refine rb ?_ | refine nd ?_ | refine dk ?_ | fail)
        · refine .f1 (.inl rfl) rfl ?_
          have : cfMay c = false := by
            unfold cfMay
            rw [hd, hat, decide_eq_false (int_ne hcond), hsw, hpo]
            rfl
          rw [this]
          rfl
        · have h0 := int_eq hcond
          have := acFault_lt h0
          refine ⟨k + 1, ⟨by omega, by simp at this; omega, ?_⟩, by omega, ?_⟩
          · rw [hd, hat, decide_eq_true h0]
            rfl
          · skip
            refine St.to [(902, .id 62)] [] rfl rfl ?_ ?_ <;> (repeat' (first | exact tA | refine t1 ?_ | exact tB | refine t2 ?_ ?_ | refine t3 ?_ | refine t4 ?_ ?_ | refine .ofEq ?_ | refine OB.To.cut rfl rfl ?_ ?_ ?_ ?_ | refine OB.To.box rfl rfl ?_ | refine ⟨⟨_, rfl, ?_⟩, ?_⟩ | refine ⟨?_, ?_⟩ | fail))
            all_goals first | exact (take_len hx).symm | (rw [take_flat hx, List.map_append]; rfl)
        · exfalso
          simp at hcond
          omega
      case neg =>
        have hek : k = c.acs.length := by omega
        subst hek
        rw [List.drop_of_length_le (Nat.le_refl _)] at hd
        have hac : acsMay ⟨c.ss, c.ps, []⟩ c.acs = true := hd
        have hall : cfMay c = true := by
          unfold cfMay
          rw [hsw, hpo, hac]
          rfl
        repeat' (first | refine X.loc ?_ | refine nx ?_ | refine cb ?_ ?_ | (refine cc ?_ ?_ <;> intro hcond) | refine rb ?_ | refine nd ?_ | refine dk ?_ | fail)
        · exfalso
          simp at hcond
        · refine .f1 (.inl rfl) rfl ?_
          rw [hall]
          rfl
end Go.Proofs.YtmidechdlbcepaaGreat