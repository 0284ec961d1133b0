/- Flows of raw numbers, as the program makes them. -/
import Derived.Test.YtdbbmjdeeenlhaaPack25
import Derived.Test.YtdbbmjdeeenlhaaPack19
import Derived.Test.YtdbbmjdeeenlhaaPack21
set_option linter.unusedSimpArgs false
set_option linter.unusedVariables false
namespace Go.Proofs.Ytdbbmjdeeenlhaa
open Go.RowKit
set_option maxRecDepth 100000

set_option maxHeartbeats 8000000 in
theorem flowsOf_T (l : List Rq) (m : Nat) (hok : ∀ r ∈ l, r.Ok) (hm : m ≤ 100) : FunO Try.prog 19 [.fv (slOf encRq l), .fv (.int .i64 (m : Int))] [] (.osl 7) [(7, .row 36 4 (flowsOf l m).length (((flowsOf l m).flatMap encFl).map .fv))] := by
  refine FunO.bodyL tbl_ok Try.func19 rfl (by kernel_rfl) rfl rfl rfl ?_
  repeat' (first
    | refine X.loc ?_
    | refine nx ?_
    | refine X.cdT ?_
    | refine X.cdF ?_
    | (refine WP.condBit rfl ?_ ?_)
    | (refine WP.cond rfl ?_ ?_ <;> intro hcond)
    | refine X.gst ?_ | refine X.gld ?_ | refine X.new ?_ | refine X.app ?_ | refine X.appS ?_ | refine X.stoW ?_ | refine X.stoB ?_ | refine X.stoR ?_ | refine X.gand ?_ | refine X.gor ?_
    | refine nd ?_
    | ((with_reducible apply drwK.mk); (· kernel_rfl); (· exact aF))
    | fail)
  refine WP.loop (ι := Nat) (fun k => ⟨[(0, .fv (slOf encRq l)), (1, .fv (.int .i64 (m : Int))), (5, .osl 900), (6, .fv (.int .i64 k))], [(900, .row 36 4 (flowsOf l k).length (((flowsOf l k).flatMap encFl).map .fv))]⟩) (fun k => k ≤ l.length ∧ k ≤ m) (fun k => m - k) 0 (by omega) ?_ ?_
  · skip
    refine St.to [(900, .nil)] [] rfl rfl ?_ ?_ <;> (repeat' (first | exact tA | refine t1 ?_ | exact tB | refine t2 ?_ ?_ | refine t3 ?_ | refine t4 ?_ ?_ | refine .ofEq ?_ | refine OB.To.cut rfl rfl ?_ ?_ ?_ ?_ | refine OB.To.box rfl rfl ?_ | refine ⟨⟨_, rfl, ?_⟩, ?_⟩ | refine ⟨?_, ?_⟩ | fail))
  rintro k ⟨hk, hkm⟩
  try dsimp only
  have hfl := flowsOf_len l k
  by_cases hlt : k < l.length ∧ k < m
  case neg =>
    have e : flowsOf l m = flowsOf l k := by
      unfold flowsOf
      rcases Nat.lt_or_ge k l.length with h | h
      · rw [show k = m by omega]
      · rw [List.take_of_length_le h, List.take_of_length_le (by omega)]
    rw [e]
    repeat' (first
      | refine X.loc ?_
      | refine nx ?_
      | refine X.cdT ?_
      | refine X.cdF ?_
      | (refine WP.condBit rfl ?_ ?_)
      | (refine WP.cond rfl ?_ ?_ <;> intro hcond)
      | refine X.gst ?_ | refine X.gld ?_ | refine X.new ?_ | refine X.app ?_ | refine X.appS ?_ | refine X.stoW ?_ | refine X.stoB ?_ | refine X.stoR ?_ | refine X.gand ?_ | refine X.gor ?_
      | refine nd ?_
      | ((with_reducible apply drwK.mk); (· kernel_rfl); (· exact aF))
      | fail)
    refine .ofL (s' := ⟨[(4, .osl 7)], [(7, .row 36 4 (flowsOf l k).length (((flowsOf l k).flatMap encFl).map .fv))]⟩) (by first | exact .inl rfl | exact .inr rfl) ?_ rfl rfl (by repeat' (first | exact trivial | refine ⟨⟨_, rfl, fun _ _ _ _ h => h⟩, ?_⟩))
    refine St.to [(7, .id 900)] [] rfl rfl ?_ ?_ <;> (repeat' (first | exact tA | refine t1 ?_ | exact tB | refine t2 ?_ ?_ | refine t3 ?_ | refine t4 ?_ ?_ | refine .ofEq ?_ | refine OB.To.cut rfl rfl ?_ ?_ ?_ ?_ | refine OB.To.box rfl rfl ?_ | refine ⟨⟨_, rfl, ?_⟩, ?_⟩ | refine ⟨?_, ?_⟩ | fail))
  case pos =>
    obtain ⟨x, hx⟩ : ∃ x, l[k]? = some x := ⟨_, List.getElem?_eq_getElem hlt.1⟩
    have hxo := hok x (List.mem_of_getElem? hx)
    obtain ⟨o1, o2, o3, o4⟩ := hxo
    have q1 := quoT_bd o3 (m := 3) (by omega)
    have q2 := quoT_bd o2 (m := 4) (by omega)
    have q3 := quoT_bd o4 (m := 4) (by omega)
    have q4 := quoT_bd o2 (m := 16) (by omega)
    have q5 := quoT_bd o3 (m := 9) (by omega)
    have q6 := quoT_bd o1 (m := 4) (by omega)
    have q7 := quoT_bd o1 (m := 8) (by omega)
    have n1 := o1
    have n2 := o2
    have n3 := o3
    have n4 := o4
    unfold N64 at n1 n2 n3 n4
    have hsn : flowsOf l (k + 1) = flowsOf l k ++ [flOf x] := by
      unfold flowsOf
      rw [List.take_add_one, hx, List.map_append]
      rfl
    generalize flowsOf l k = L at *
    obtain ⟨nb, hnb⟩ : ∃ nb : Nat, pick x.b 3 = nb := ⟨(pick x.b 3).toNat, (Int.toNat_of_nonneg (pick_le (by omega)).1).symm⟩
    obtain ⟨nc, hnc⟩ : ∃ nc : Nat, pick x.c 4 = nc := ⟨(pick x.c 4).toNat, (Int.toNat_of_nonneg (pick_le (by omega)).1).symm⟩
    have hnb2 := pick_le (n := x.b) (m := 3) (by omega)
    have hnc2 := pick_le (n := x.c) (m := 4) (by omega)
    rw [hnb] at hnb2
    rw [hnc] at hnc2
    have cb := picked_T x.b 3 n3.1 n3.2 (by omega)
    have cc := picked_T x.c 4 n4.1 n4.2 (by omega)
    rw [hnb] at cb
    rw [hnc] at cc
    repeat' (first
      | (apply X.loE; (· exact aR); (· first | (exact .eff (.idxS rfl rfl rfl encRq_len hx)) | exact .callL rfl rfl rfl (by first | exact cb | exact (picked_T _ _ (by omega) (by omega) (by omega))) rfl | (apply LEff.callBL; (· rfl); (· rfl); (· exact cb); (· exact aB); (· rfl)) | (apply LEff.callBL; (· rfl); (· rfl); (· exact (picked_T _ _ (by omega) (by omega) (by omega))); (· exact aB); (· rfl))))
      | refine X.loc ?_
      | refine nx ?_
      | refine X.cdT ?_
      | refine X.cdF ?_
      | (refine WP.condBit rfl ?_ ?_)
      | (refine WP.cond rfl ?_ ?_ <;> intro hcond)
      | (apply X.gsE; (· exact aR); (· exact aV); (· exact aW); (· intro hc; first | (exact .eff (.idxS rfl rfl rfl encRq_len hx)) | exact .callG rfl rfl rfl (by first | exact cb | exact (picked_T _ _ (by omega) (by omega) (by omega))) rfl | (apply LEff.callBG; (· rfl); (· rfl); (· exact cb); (· exact aB); (· rfl)) | (apply LEff.callBG; (· rfl); (· rfl); (· exact (picked_T _ _ (by omega) (by omega) (by omega))); (· exact aB); (· rfl))); (· exact aR))
      | refine X.gst ?_ | refine X.gld ?_ | refine X.new ?_ | refine X.app ?_ | refine X.appS ?_ | refine X.stoW ?_ | refine X.stoB ?_ | refine X.stoR ?_ | refine X.gand ?_ | refine X.gor ?_
      | refine nd ?_
      | ((with_reducible apply drwK.mk); (· kernel_rfl); (· exact aF))
      | fail)
    refine WP.loop (ι := Nat) (fun j => ⟨[(0, .fv (slOf encRq l)), (1, .fv (.int .i64 (m : Int))), (5, .osl 900), (6, .fv (.int .i64 k)), (7, .optr 7 0), (8, .optr 8 0), (37, .fv (.int .i64 nb)), (38, .fv (.int .i64 j))], [(900, .row 36 4 L.length ((L.flatMap encFl).map .fv)), (7, .box 67 ((encRq x).map .fv)), (8, .box 36 [.fv (.int .i64 (pick x.kind 4)), .fv (.int .i64 (pick x.a 4)), .osl 901, .nil]), (901, .row 30 3 ((List.range j).map (mxOf x)).length ((((List.range j).map (mxOf x)).flatMap encMx).map .fv))]⟩) (fun j => j ≤ nb) (fun j => nb - j) 0 (by omega) ?_ ?_
    · skip
      refine St.to [(901, .nil)] [] rfl rfl ?_ ?_ <;> (repeat' (first | exact tA | refine t1 ?_ | exact tB | refine t2 ?_ ?_ | refine t3 ?_ | refine t4 ?_ ?_ | refine .ofEq ?_ | refine OB.To.cut rfl rfl ?_ ?_ ?_ ?_ | refine OB.To.box rfl rfl ?_ | refine ⟨⟨_, rfl, ?_⟩, ?_⟩ | refine ⟨?_, ?_⟩ | fail))
    rintro j hj
    try dsimp only
    by_cases hjl : j < nb
    case pos =>
      have hs1 : (List.range (j + 1)).map (mxOf x) = (List.range j).map (mxOf x) ++ [mxOf x j] := by rw [List.range_succ, List.map_append]; rfl
      have hl1 : ((List.range j).map (mxOf x)).length = j := by rw [List.length_map, List.length_range]
      generalize (List.range j).map (mxOf x) = M at *
      have hpi := pick_le (n := x.c) (m := 3) (by omega)
      repeat' (first
        | (apply X.loE; (· exact aR); (· first | (exact .eff (.bsliceFS (t := 115) rfl rfl rfl rfl rfl rfl)) | (exact .eff (.idxD (enc := encI) (l := [3, 1, 65535]) (0 : Int) rfl rfl rfl (fun _ => rfl) (show 0 ≤ _ ∧ _ < (3 : Int) by omega))) | (refine .eff (.quoT rfl rfl ?_ ?_) <;> first | assumption | omega) | exact .callL rfl rfl rfl ((picked_T _ _ (by omega) (by omega) (by omega))) rfl | (apply LEff.callBL; (· rfl); (· rfl); (· exact (picked_T _ _ (by omega) (by omega) (by omega))); (· exact aB); (· rfl))))
        | refine X.loc ?_
        | refine nx ?_
        | refine X.cdT ?_
        | refine X.cdF ?_
        | (refine WP.condBit rfl ?_ ?_)
        | (refine WP.cond rfl ?_ ?_ <;> intro hcond)
        | (apply X.gsE; (· exact aR); (· exact aV); (· exact aW); (· intro hc; first | (exact .eff (.bsliceFS (t := 115) rfl rfl rfl rfl rfl rfl)) | (exact .eff (.idxD (enc := encI) (l := [3, 1, 65535]) (0 : Int) rfl rfl rfl (fun _ => rfl) (show 0 ≤ _ ∧ _ < (3 : Int) by omega))) | (refine .eff (.quoT rfl rfl ?_ ?_) <;> first | assumption | omega) | exact .callG rfl rfl rfl ((picked_T _ _ (by omega) (by omega) (by omega))) rfl | (apply LEff.callBG; (· rfl); (· rfl); (· exact (picked_T _ _ (by omega) (by omega) (by omega))); (· exact aB); (· rfl))); (· exact aR))
        | refine X.gst ?_ | refine X.gld ?_ | refine X.new ?_ | refine X.app ?_ | refine X.appS ?_ | refine X.stoW ?_ | refine X.stoB ?_ | refine X.stoR ?_ | refine X.gand ?_ | refine X.gor ?_
        | refine nd ?_
        | ((with_reducible apply drwK.mk); (· kernel_rfl); (· exact aF))
        | fail)
      refine ⟨j + 1, by omega, by omega, ?_⟩
      try dsimp only
      rw [hs1]
      refine St.to [(901, .id 66)] [] rfl rfl ?_ ?_ <;> (repeat' (first | exact tA | refine t1 ?_ | exact tB | refine t2 ?_ ?_ | refine t3 ?_ | refine t4 ?_ ?_ | refine .ofEq ?_ | refine OB.To.cut rfl rfl ?_ ?_ ?_ ?_ | refine OB.To.box rfl rfl ?_ | refine ⟨⟨_, rfl, ?_⟩, ?_⟩ | refine ⟨?_, ?_⟩ | fail))
      all_goals first | (simp; done) | (simp only [List.flatMap_append, List.map_append]; rfl)
    case neg =>
      obtain rfl : j = nb := by omega
      have hms : (flOf x).ms = (List.range j).map (mxOf x) := by rw [flOf, hnb, Int.toNat_natCast]
      have hml : ((List.range j).map (mxOf x)).length = j := by rw [List.length_map, List.length_range]
      generalize (List.range j).map (mxOf x) = M at *
      repeat' (first
        | (apply X.loE; (· exact aR); (· first | exact .callL rfl rfl rfl (by first | exact cc | exact (picked_T _ _ (by omega) (by omega) (by omega))) rfl | (apply LEff.callBL; (· rfl); (· rfl); (· exact cc); (· exact aB); (· rfl)) | (apply LEff.callBL; (· rfl); (· rfl); (· exact (picked_T _ _ (by omega) (by omega) (by omega))); (· exact aB); (· rfl))))
        | refine X.loc ?_
        | refine nx ?_
        | refine X.cdT ?_
        | refine X.cdF ?_
        | (refine WP.condBit rfl ?_ ?_)
        | (refine WP.cond rfl ?_ ?_ <;> intro hcond)
        | (apply X.gsE; (· exact aR); (· exact aV); (· exact aW); (· intro hc; first | exact .callG rfl rfl rfl (by first | exact cc | exact (picked_T _ _ (by omega) (by omega) (by omega))) rfl | (apply LEff.callBG; (· rfl); (· rfl); (· exact cc); (· exact aB); (· rfl)) | (apply LEff.callBG; (· rfl); (· rfl); (· exact (picked_T _ _ (by omega) (by omega) (by omega))); (· exact aB); (· rfl))); (· exact aR))
        | refine X.gst ?_ | refine X.gld ?_ | refine X.new ?_ | refine X.app ?_ | refine X.appS ?_ | refine X.stoW ?_ | refine X.stoB ?_ | refine X.stoR ?_ | refine X.gand ?_ | refine X.gor ?_
        | refine nd ?_
        | ((with_reducible apply drwK.mk); (· kernel_rfl); (· exact aF))
        | fail)
      refine WP.loop (ι := Nat) (fun i => ⟨[(0, .fv (slOf encRq l)), (1, .fv (.int .i64 (m : Int))), (5, .osl 900), (6, .fv (.int .i64 k)), (7, .optr 7 0), (8, .optr 8 0), (71, .fv (.int .i64 nc)), (72, .fv (.int .i64 i))], [(900, .row 36 4 L.length ((L.flatMap encFl).map .fv)), (7, .box 67 ((encRq x).map .fv)), (8, .box 36 [.fv (.int .i64 (pick x.kind 4)), .fv (.int .i64 (pick x.a 4)), .osl 901, .osl 902]), (901, .row 30 3 M.length ((M.flatMap encMx).map .fv)), (902, .row 33 3 ((List.range i).map (dxOf x)).length ((((List.range i).map (dxOf x)).flatMap encDx).map .fv))]⟩) (fun i => i ≤ nc) (fun i => nc - i) 0 (by omega) ?_ ?_
      · skip
        refine St.to [(902, .nil)] [] rfl rfl ?_ ?_ <;> (repeat' (first | exact tA | refine t1 ?_ | exact tB | refine t2 ?_ ?_ | refine t3 ?_ | refine t4 ?_ ?_ | refine .ofEq ?_ | refine OB.To.cut rfl rfl ?_ ?_ ?_ ?_ | refine OB.To.box rfl rfl ?_ | refine ⟨⟨_, rfl, ?_⟩, ?_⟩ | refine ⟨?_, ?_⟩ | fail))
      rintro i hi
      try dsimp only
      by_cases hil : i < nc
      case pos =>
        have hs1 : (List.range (i + 1)).map (dxOf x) = (List.range i).map (dxOf x) ++ [dxOf x i] := by rw [List.range_succ, List.map_append]; rfl
        have hl1 : ((List.range i).map (dxOf x)).length = i := by rw [List.length_map, List.length_range]
        generalize (List.range i).map (dxOf x) = D at *
        have hpi := pick_le (n := x.c.tdiv 4 + i) (m := 6) (by omega)
        have hcd := picked_T (x.c.tdiv 4 + i) 6 (by omega) (by omega) (by omega)
        have hdx : dxOf x i = match (pick (x.c.tdiv 4 + i) 6).toNat with
          | 0 => ⟨1, pick (x.a.tdiv 16) 10, pick (x.b.tdiv 9) 10⟩
          | 1 => ⟨2, pick (x.a.tdiv 16) 10, pick (x.b.tdiv 9) 10⟩
          | 2 => ⟨3, pick (x.a.tdiv 16) 10, 0⟩
          | 3 => ⟨5, 0, 9⟩
          | 4 => ⟨5, 0, pick x.b 6⟩
          | _ => ⟨6, 0, pick x.b 6⟩ := rfl
        generalize pick (x.c.tdiv 4 + i) 6 = kd at *
        obtain ⟨kn, rfl⟩ : ∃ n : Nat, kd = n := ⟨kd.toNat, by omega⟩
        rw [Int.toNat_natCast] at hdx
        rcases (show kn = 0 ∨ kn = 1 ∨ kn = 2 ∨ kn = 3 ∨ kn = 4 ∨ kn = 5 by omega) with rfl | rfl | rfl | rfl | rfl | rfl
        · replace hdx : dxOf x i = _ := hdx
          rw [hdx] at hs1
          repeat' (first
            | (apply X.loE; (· exact aR); (· first | (refine .eff (.quoT rfl rfl ?_ ?_) <;> first | assumption | omega) | exact .callL rfl rfl rfl (by first | exact hcd | exact (picked_T _ _ (by omega) (by omega) (by omega))) rfl | (apply LEff.callBL; (· rfl); (· rfl); (· exact hcd); (· exact aB); (· rfl)) | (apply LEff.callBL; (· rfl); (· rfl); (· exact (picked_T _ _ (by omega) (by omega) (by omega))); (· exact aB); (· rfl))))
            | refine X.loc ?_
            | refine nx ?_
            | refine X.cdT ?_
            | refine X.cdF ?_
            | (refine WP.condBit rfl ?_ ?_)
            | (refine WP.cond rfl ?_ ?_ <;> intro hcond)
            | (apply X.gsE; (· exact aR); (· exact aV); (· exact aW); (· intro hc; first | (refine .eff (.quoT rfl rfl ?_ ?_) <;> first | assumption | omega) | exact .callG rfl rfl rfl (by first | exact hcd | exact (picked_T _ _ (by omega) (by omega) (by omega))) rfl | (apply LEff.callBG; (· rfl); (· rfl); (· exact hcd); (· exact aB); (· rfl)) | (apply LEff.callBG; (· rfl); (· rfl); (· exact (picked_T _ _ (by omega) (by omega) (by omega))); (· exact aB); (· rfl))); (· exact aR))
            | refine X.gst ?_ | refine X.gld ?_ | refine X.new ?_ | refine X.app ?_ | refine X.appS ?_ | refine X.stoW ?_ | refine X.stoB ?_ | refine X.stoR ?_ | refine X.gand ?_ | refine X.gor ?_
            | refine nd ?_
            | ((with_reducible apply drwK.mk); (· kernel_rfl); (· exact aF))
            | fail)
          refine ⟨i + 1, by omega, by omega, ?_⟩
          try dsimp only
          rw [hs1]
          refine St.to [(902, .id 116)] [] rfl rfl ?_ ?_ <;> (repeat' (first | exact tA | refine t1 ?_ | exact tB | refine t2 ?_ ?_ | refine t3 ?_ | refine t4 ?_ ?_ | refine .ofEq ?_ | refine OB.To.cut rfl rfl ?_ ?_ ?_ ?_ | refine OB.To.box rfl rfl ?_ | refine ⟨⟨_, rfl, ?_⟩, ?_⟩ | refine ⟨?_, ?_⟩ | fail))
          all_goals first | (simp; done) | (simp only [List.flatMap_append, List.map_append]; rfl)
        · replace hdx : dxOf x i = _ := hdx
          rw [hdx] at hs1
          repeat' (first
            | (apply X.loE; (· exact aR); (· first | (refine .eff (.quoT rfl rfl ?_ ?_) <;> first | assumption | omega) | exact .callL rfl rfl rfl (by first | exact hcd | exact (picked_T _ _ (by omega) (by omega) (by omega))) rfl | (apply LEff.callBL; (· rfl); (· rfl); (· exact hcd); (· exact aB); (· rfl)) | (apply LEff.callBL; (· rfl); (· rfl); (· exact (picked_T _ _ (by omega) (by omega) (by omega))); (· exact aB); (· rfl))))
            | refine X.loc ?_
            | refine nx ?_
            | refine X.cdT ?_
            | refine X.cdF ?_
            | (refine WP.condBit rfl ?_ ?_)
            | (refine WP.cond rfl ?_ ?_ <;> intro hcond)
            | (apply X.gsE; (· exact aR); (· exact aV); (· exact aW); (· intro hc; first | (refine .eff (.quoT rfl rfl ?_ ?_) <;> first | assumption | omega) | exact .callG rfl rfl rfl (by first | exact hcd | exact (picked_T _ _ (by omega) (by omega) (by omega))) rfl | (apply LEff.callBG; (· rfl); (· rfl); (· exact hcd); (· exact aB); (· rfl)) | (apply LEff.callBG; (· rfl); (· rfl); (· exact (picked_T _ _ (by omega) (by omega) (by omega))); (· exact aB); (· rfl))); (· exact aR))
            | refine X.gst ?_ | refine X.gld ?_ | refine X.new ?_ | refine X.app ?_ | refine X.appS ?_ | refine X.stoW ?_ | refine X.stoB ?_ | refine X.stoR ?_ | refine X.gand ?_ | refine X.gor ?_
            | refine nd ?_
            | ((with_reducible apply drwK.mk); (· kernel_rfl); (· exact aF))
            | fail)
          refine ⟨i + 1, by omega, by omega, ?_⟩
          try dsimp only
          rw [hs1]
          refine St.to [(902, .id 116)] [] rfl rfl ?_ ?_ <;> (repeat' (first | exact tA | refine t1 ?_ | exact tB | refine t2 ?_ ?_ | refine t3 ?_ | refine t4 ?_ ?_ | refine .ofEq ?_ | refine OB.To.cut rfl rfl ?_ ?_ ?_ ?_ | refine OB.To.box rfl rfl ?_ | refine ⟨⟨_, rfl, ?_⟩, ?_⟩ | refine ⟨?_, ?_⟩ | fail))
          all_goals first | (simp; done) | (simp only [List.flatMap_append, List.map_append]; rfl)
        · replace hdx : dxOf x i = _ := hdx
          rw [hdx] at hs1
          repeat' (first
            | (apply X.loE; (· exact aR); (· first | (refine .eff (.quoT rfl rfl ?_ ?_) <;> first | assumption | omega) | exact .callL rfl rfl rfl (by first | exact hcd | exact (picked_T _ _ (by omega) (by omega) (by omega))) rfl | (apply LEff.callBL; (· rfl); (· rfl); (· exact hcd); (· exact aB); (· rfl)) | (apply LEff.callBL; (· rfl); (· rfl); (· exact (picked_T _ _ (by omega) (by omega) (by omega))); (· exact aB); (· rfl))))
            | refine X.loc ?_
            | refine nx ?_
            | refine X.cdT ?_
            | refine X.cdF ?_
            | (refine WP.condBit rfl ?_ ?_)
            | (refine WP.cond rfl ?_ ?_ <;> intro hcond)
            | (apply X.gsE; (· exact aR); (· exact aV); (· exact aW); (· intro hc; first | (refine .eff (.quoT rfl rfl ?_ ?_) <;> first | assumption | omega) | exact .callG rfl rfl rfl (by first | exact hcd | exact (picked_T _ _ (by omega) (by omega) (by omega))) rfl | (apply LEff.callBG; (· rfl); (· rfl); (· exact hcd); (· exact aB); (· rfl)) | (apply LEff.callBG; (· rfl); (· rfl); (· exact (picked_T _ _ (by omega) (by omega) (by omega))); (· exact aB); (· rfl))); (· exact aR))
            | refine X.gst ?_ | refine X.gld ?_ | refine X.new ?_ | refine X.app ?_ | refine X.appS ?_ | refine X.stoW ?_ | refine X.stoB ?_ | refine X.stoR ?_ | refine X.gand ?_ | refine X.gor ?_
            | refine nd ?_
            | ((with_reducible apply drwK.mk); (· kernel_rfl); (· exact aF))
            | fail)
          refine ⟨i + 1, by omega, by omega, ?_⟩
          try dsimp only
          rw [hs1]
          refine St.to [(902, .id 116)] [] rfl rfl ?_ ?_ <;> (repeat' (first | exact tA | refine t1 ?_ | exact tB | refine t2 ?_ ?_ | refine t3 ?_ | refine t4 ?_ ?_ | refine .ofEq ?_ | refine OB.To.cut rfl rfl ?_ ?_ ?_ ?_ | refine OB.To.box rfl rfl ?_ | refine ⟨⟨_, rfl, ?_⟩, ?_⟩ | refine ⟨?_, ?_⟩ | fail))
          all_goals first | (simp; done) | (simp only [List.flatMap_append, List.map_append]; rfl)
        · replace hdx : dxOf x i = _ := hdx
          rw [hdx] at hs1
          repeat' (first
            | (apply X.loE; (· exact aR); (· first | (refine .eff (.quoT rfl rfl ?_ ?_) <;> first | assumption | omega) | exact .callL rfl rfl rfl (by first | exact hcd | exact (picked_T _ _ (by omega) (by omega) (by omega))) rfl | (apply LEff.callBL; (· rfl); (· rfl); (· exact hcd); (· exact aB); (· rfl)) | (apply LEff.callBL; (· rfl); (· rfl); (· exact (picked_T _ _ (by omega) (by omega) (by omega))); (· exact aB); (· rfl))))
            | refine X.loc ?_
            | refine nx ?_
            | refine X.cdT ?_
            | refine X.cdF ?_
            | (refine WP.condBit rfl ?_ ?_)
            | (refine WP.cond rfl ?_ ?_ <;> intro hcond)
            | (apply X.gsE; (· exact aR); (· exact aV); (· exact aW); (· intro hc; first | (refine .eff (.quoT rfl rfl ?_ ?_) <;> first | assumption | omega) | exact .callG rfl rfl rfl (by first | exact hcd | exact (picked_T _ _ (by omega) (by omega) (by omega))) rfl | (apply LEff.callBG; (· rfl); (· rfl); (· exact hcd); (· exact aB); (· rfl)) | (apply LEff.callBG; (· rfl); (· rfl); (· exact (picked_T _ _ (by omega) (by omega) (by omega))); (· exact aB); (· rfl))); (· exact aR))
            | refine X.gst ?_ | refine X.gld ?_ | refine X.new ?_ | refine X.app ?_ | refine X.appS ?_ | refine X.stoW ?_ | refine X.stoB ?_ | refine X.stoR ?_ | refine X.gand ?_ | refine X.gor ?_
            | refine nd ?_
            | ((with_reducible apply drwK.mk); (· kernel_rfl); (· exact aF))
            | fail)
          refine ⟨i + 1, by omega, by omega, ?_⟩
          try dsimp only
          rw [hs1]
          refine St.to [(902, .id 116)] [] rfl rfl ?_ ?_ <;> (repeat' (first | exact tA | refine t1 ?_ | exact tB | refine t2 ?_ ?_ | refine t3 ?_ | refine t4 ?_ ?_ | refine .ofEq ?_ | refine OB.To.cut rfl rfl ?_ ?_ ?_ ?_ | refine OB.To.box rfl rfl ?_ | refine ⟨⟨_, rfl, ?_⟩, ?_⟩ | refine ⟨?_, ?_⟩ | fail))
          all_goals first | (simp; done) | (simp only [List.flatMap_append, List.map_append]; rfl)
        · replace hdx : dxOf x i = _ := hdx
          rw [hdx] at hs1
          repeat' (first
            | (apply X.loE; (· exact aR); (· first | (refine .eff (.quoT rfl rfl ?_ ?_) <;> first | assumption | omega) | exact .callL rfl rfl rfl (by first | exact hcd | exact (picked_T _ _ (by omega) (by omega) (by omega))) rfl | (apply LEff.callBL; (· rfl); (· rfl); (· exact hcd); (· exact aB); (· rfl)) | (apply LEff.callBL; (· rfl); (· rfl); (· exact (picked_T _ _ (by omega) (by omega) (by omega))); (· exact aB); (· rfl))))
            | refine X.loc ?_
            | refine nx ?_
            | refine X.cdT ?_
            | refine X.cdF ?_
            | (refine WP.condBit rfl ?_ ?_)
            | (refine WP.cond rfl ?_ ?_ <;> intro hcond)
            | (apply X.gsE; (· exact aR); (· exact aV); (· exact aW); (· intro hc; first | (refine .eff (.quoT rfl rfl ?_ ?_) <;> first | assumption | omega) | exact .callG rfl rfl rfl (by first | exact hcd | exact (picked_T _ _ (by omega) (by omega) (by omega))) rfl | (apply LEff.callBG; (· rfl); (· rfl); (· exact hcd); (· exact aB); (· rfl)) | (apply LEff.callBG; (· rfl); (· rfl); (· exact (picked_T _ _ (by omega) (by omega) (by omega))); (· exact aB); (· rfl))); (· exact aR))
            | refine X.gst ?_ | refine X.gld ?_ | refine X.new ?_ | refine X.app ?_ | refine X.appS ?_ | refine X.stoW ?_ | refine X.stoB ?_ | refine X.stoR ?_ | refine X.gand ?_ | refine X.gor ?_
            | refine nd ?_
            | ((with_reducible apply drwK.mk); (· kernel_rfl); (· exact aF))
            | fail)
          refine ⟨i + 1, by omega, by omega, ?_⟩
          try dsimp only
          rw [hs1]
          refine St.to [(902, .id 116)] [] rfl rfl ?_ ?_ <;> (repeat' (first | exact tA | refine t1 ?_ | exact tB | refine t2 ?_ ?_ | refine t3 ?_ | refine t4 ?_ ?_ | refine .ofEq ?_ | refine OB.To.cut rfl rfl ?_ ?_ ?_ ?_ | refine OB.To.box rfl rfl ?_ | refine ⟨⟨_, rfl, ?_⟩, ?_⟩ | refine ⟨?_, ?_⟩ | fail))
          all_goals first | (simp; done) | (simp only [List.flatMap_append, List.map_append]; rfl)
        · replace hdx : dxOf x i = _ := hdx
          rw [hdx] at hs1
          repeat' (first
            | (apply X.loE; (· exact aR); (· first | (refine .eff (.quoT rfl rfl ?_ ?_) <;> first | assumption | omega) | exact .callL rfl rfl rfl (by first | exact hcd | exact (picked_T _ _ (by omega) (by omega) (by omega))) rfl | (apply LEff.callBL; (· rfl); (· rfl); (· exact hcd); (· exact aB); (· rfl)) | (apply LEff.callBL; (· rfl); (· rfl); (· exact (picked_T _ _ (by omega) (by omega) (by omega))); (· exact aB); (· rfl))))
            | refine X.loc ?_
            | refine nx ?_
            | refine X.cdT ?_
            | refine X.cdF ?_
            | (refine WP.condBit rfl ?_ ?_)
            | (refine WP.cond rfl ?_ ?_ <;> intro hcond)
            | (apply X.gsE; (· exact aR); (· exact aV); (· exact aW); (· intro hc; first | (refine .eff (.quoT rfl rfl ?_ ?_) <;> first | assumption | omega) | exact .callG rfl rfl rfl (by first | exact hcd | exact (picked_T _ _ (by omega) (by omega) (by omega))) rfl | (apply LEff.callBG; (· rfl); (· rfl); (· exact hcd); (· exact aB); (· rfl)) | (apply LEff.callBG; (· rfl); (· rfl); (· exact (picked_T _ _ (by omega) (by omega) (by omega))); (· exact aB); (· rfl))); (· exact aR))
            | refine X.gst ?_ | refine X.gld ?_ | refine X.new ?_ | refine X.app ?_ | refine X.appS ?_ | refine X.stoW ?_ | refine X.stoB ?_ | refine X.stoR ?_ | refine X.gand ?_ | refine X.gor ?_
            | refine nd ?_
            | ((with_reducible apply drwK.mk); (· kernel_rfl); (· exact aF))
            | fail)
          refine ⟨i + 1, by omega, by omega, ?_⟩
          try dsimp only
          rw [hs1]
          refine St.to [(902, .id 116)] [] rfl rfl ?_ ?_ <;> (repeat' (first | exact tA | refine t1 ?_ | exact tB | refine t2 ?_ ?_ | refine t3 ?_ | refine t4 ?_ ?_ | refine .ofEq ?_ | refine OB.To.cut rfl rfl ?_ ?_ ?_ ?_ | refine OB.To.box rfl rfl ?_ | refine ⟨⟨_, rfl, ?_⟩, ?_⟩ | refine ⟨?_, ?_⟩ | fail))
          all_goals first | (simp; done) | (simp only [List.flatMap_append, List.map_append]; rfl)
      case neg =>
        obtain rfl : i = nc := by omega
        have hds : (flOf x).ds = (List.range i).map (dxOf x) ++ gotoOf x := by rw [flOf, hnc, Int.toNat_natCast]
        have hdl : ((List.range i).map (dxOf x)).length = i := by rw [List.length_map, List.length_range]
        have hft : (flOf x).table = pick x.kind 4 := rfl
        have hfp : (flOf x).prio = pick x.a 4 := rfl
        generalize (List.range i).map (dxOf x) = D at *
        have p1 := pick_le (n := x.kind) (m := 4) (by omega)
        have p2 := pick_le (n := x.kind.tdiv 4) (m := 2) (by omega)
        have p3 := pick_le (n := x.kind.tdiv 8) (m := 3) (by omega)
        have hgo : gotoOf x = if pick x.kind 4 < 3 ∧ pick (x.kind.tdiv 4) 2 = 0 then [⟨4, 0, pick x.kind 4 + 1 + pick (x.kind.tdiv 8) 3⟩] else [] := rfl
        generalize flOf x = F at *
        obtain ⟨ft, fp, fms, fds⟩ := F
        dsimp only at hms hds hft hfp
        subst hms hds hft hfp
        by_cases hg : pick x.kind 4 < 3 ∧ pick (x.kind.tdiv 4) 2 = 0
        · rw [if_pos hg] at hgo
          rw [hgo] at hsn
          repeat' (first
            | (apply X.loE; (· exact aR); (· first | (refine .eff (.quoT rfl rfl ?_ ?_) <;> first | assumption | omega) | exact .callL rfl rfl rfl ((picked_T _ _ (by omega) (by omega) (by omega))) rfl | (apply LEff.callBL; (· rfl); (· rfl); (· exact (picked_T _ _ (by omega) (by omega) (by omega))); (· exact aB); (· rfl))))
            | refine X.loc ?_
            | refine nx ?_
            | refine X.cdT ?_
            | refine X.cdF ?_
            | (refine WP.condBit rfl ?_ ?_)
            | (refine WP.cond rfl ?_ ?_ <;> intro hcond)
            | (apply X.gsE; (· exact aR); (· exact aV); (· exact aW); (· intro hc; first | (refine .eff (.quoT rfl rfl ?_ ?_) <;> first | assumption | omega) | exact .callG rfl rfl rfl ((picked_T _ _ (by omega) (by omega) (by omega))) rfl | (apply LEff.callBG; (· rfl); (· rfl); (· exact (picked_T _ _ (by omega) (by omega) (by omega))); (· exact aB); (· rfl))); (· exact aR))
            | refine X.gst ?_ | refine X.gld ?_ | refine X.new ?_ | refine X.app ?_ | refine X.appS ?_ | refine X.stoW ?_ | refine X.stoB ?_ | refine X.stoR ?_ | refine X.gand ?_ | refine X.gor ?_
            | refine nd ?_
            | ((with_reducible apply drwK.mk); (· kernel_rfl); (· exact aF))
            | fail)
          refine ⟨k + 1, by omega, by omega, ?_⟩
          have e : ∀ g : Fl, ((L ++ [g]).flatMap encFl).map AV.fv = (L.flatMap encFl).map .fv ++ [.fv (.int .i64 g.table), .fv (.int .i64 g.prio), .fv (slOf encMx g.ms), .fv (slOf encDx g.ds)] := fun g => by
            rw [List.flatMap_append, List.map_append]
            rfl
          try dsimp only
          rw [hsn, e]
          refine St.to [(900, .id 146)] [901, 141] rfl rfl ?_ ?_ <;> (repeat' (first | apply AV.ToL.app (AV.ToL.maps rfl) | exact tA | refine t1 ?_ | exact tB | refine t2 ?_ ?_ | refine t3 ?_ | refine t4 ?_ ?_ | refine .ofEq ?_ | refine OB.To.cut rfl rfl ?_ ?_ ?_ ?_ | refine OB.To.box rfl rfl ?_ | refine ⟨⟨_, rfl, ?_⟩, ?_⟩ | refine ⟨?_, ?_⟩ | fail))
          all_goals first | (simp; done) | (simp only [List.flatMap_append, List.map_append]; rfl)
        · rw [if_neg hg] at hgo
          rw [hgo, List.append_nil] at hsn
          repeat' (first
            | (apply X.loE; (· exact aR); (· first | (refine .eff (.quoT rfl rfl ?_ ?_) <;> first | assumption | omega) | exact .callL rfl rfl rfl ((picked_T _ _ (by omega) (by omega) (by omega))) rfl | (apply LEff.callBL; (· rfl); (· rfl); (· exact (picked_T _ _ (by omega) (by omega) (by omega))); (· exact aB); (· rfl))))
            | refine X.loc ?_
            | refine nx ?_
            | refine X.cdT ?_
            | refine X.cdF ?_
            | (refine WP.condBit rfl ?_ ?_)
            | (refine WP.cond rfl ?_ ?_ <;> intro hcond)
            | (apply X.gsE; (· exact aR); (· exact aV); (· exact aW); (· intro hc; first | (refine .eff (.quoT rfl rfl ?_ ?_) <;> first | assumption | omega) | exact .callG rfl rfl rfl ((picked_T _ _ (by omega) (by omega) (by omega))) rfl | (apply LEff.callBG; (· rfl); (· rfl); (· exact (picked_T _ _ (by omega) (by omega) (by omega))); (· exact aB); (· rfl))); (· exact aR))
            | refine X.gst ?_ | refine X.gld ?_ | refine X.new ?_ | refine X.app ?_ | refine X.appS ?_ | refine X.stoW ?_ | refine X.stoB ?_ | refine X.stoR ?_ | refine X.gand ?_ | refine X.gor ?_
            | refine nd ?_
            | ((with_reducible apply drwK.mk); (· kernel_rfl); (· exact aF))
            | fail)
          refine ⟨k + 1, by omega, by omega, ?_⟩
          have e : ∀ g : Fl, ((L ++ [g]).flatMap encFl).map AV.fv = (L.flatMap encFl).map .fv ++ [.fv (.int .i64 g.table), .fv (.int .i64 g.prio), .fv (slOf encMx g.ms), .fv (slOf encDx g.ds)] := fun g => by
            rw [List.flatMap_append, List.map_append]
            rfl
          try dsimp only
          rw [hsn, e]
          refine St.to [(900, .id 146)] [901, 902] rfl rfl ?_ ?_ <;> (repeat' (first | apply AV.ToL.app (AV.ToL.maps rfl) | exact tA | refine t1 ?_ | exact tB | refine t2 ?_ ?_ | refine t3 ?_ | refine t4 ?_ ?_ | refine .ofEq ?_ | refine OB.To.cut rfl rfl ?_ ?_ ?_ ?_ | refine OB.To.box rfl rfl ?_ | refine ⟨⟨_, rfl, ?_⟩, ?_⟩ | refine ⟨?_, ?_⟩ | fail))
          all_goals first | (simp; done) | (simp only [List.flatMap_append, List.map_append]; rfl)
end Go.Proofs.Ytdbbmjdeeenlhaa

/- A packet goes the way of the first flow that fits: the plain law. -/
namespace Go.Proofs.Ytdbbmjdeeenlhaa
open Go.RowKit
set_option maxRecDepth 100000

def pkZ : Pk := ⟨0, 0, 0, 0, 0, 0, 0, 0, 0, 0, ⟨#[]⟩⟩
def firstF (k : Int) : Fl := ⟨0, 9, [⟨0, 65535, k⟩], [⟨1, 9, 7⟩, ⟨5, 0, 3⟩]⟩
theorem firstF_ok (k : Int) (h : 0 ≤ k ∧ k < 50) : flFault (firstF k) = 0 ∧ fitsB (setP pkZ 0 k) (firstF k) = true ∧ packetFault (setP pkZ 0 k) = 0 := by
  obtain ⟨n, rfl⟩ : ∃ n : Nat, k = n := ⟨k.toNat, by omega⟩
  have : ∀ i : Fin 50, flFault (firstF (i.val : Int)) = 0 ∧ fitsB (setP pkZ 0 (i.val : Int)) (firstF (i.val : Int)) = true ∧ packetFault (setP pkZ 0 (i.val : Int)) = 0 := by decide
  exact this ⟨n, by omega⟩
/-- The strongest that fits, last in the list. -/
theorem best_last {L : List Fl} {f : Fl} {t : Int} {p : Pk} (hL : ∀ g ∈ L, g.prio < f.prio) (ht : f.table = t) (hf : fitsB p f = true) : bestOf (L ++ [f]) t p = (L.length : Int) := by
  unfold bestOf
  rw [List.length_append, List.length_singleton, bst, List.getElem?_append_right (Nat.le_refl _), Nat.sub_self]
  have hq : (f.table == t && fitsB p f) = true := by rw [ht, hf]; simp
  have hi := bst_is (L ++ [f]) (fun f => f.table == t && fitsB p f) L.length (by simp)
  simp only [List.getElem?_cons_zero, hq, Bool.true_and]
  rw [if_pos]
  rcases hi with ⟨h1, _⟩ | ⟨k, g, h1, _, h3, h4, _⟩
  · rw [h1]
    rfl
  · rw [h1, prioAt_nat h4]
    rw [List.getElem?_append_left h3] at h4
    have := hL g (List.mem_of_getElem? h4)
    simp only [Bool.or_eq_true, decide_eq_true_eq]
    omega
theorem runs_first (L : List Fl) (k : Int) (hk : 0 ≤ k ∧ k < 50) (hL : ∀ f ∈ L, flFault f = 0 ∧ f.prio ≤ 3) (hlen : L.length ≤ 20) :
    ranFault (L ++ [firstF k]) (setP pkZ 0 k) = 0 ∧ ranR (L ++ [firstF k]) (setP pkZ 0 k) = [⟨5, 3, setP (setP pkZ 0 k) 9 7⟩] := by
  obtain ⟨h1, h2, h3⟩ := firstF_ok k hk
  have hff : flowsFault (L ++ [firstF k]) = 0 := by
    unfold flowsFault
    rw [if_neg (by simp; omega)]
    exact flsFault_all fun f hf => by
      rcases List.mem_append.1 hf with h | h
      · exact (hL f h).1
      · obtain rfl := List.mem_singleton.1 h
        exact h1
  have hr : ranFault (L ++ [firstF k]) (setP pkZ 0 k) = 0 := by
    unfold ranFault
    rw [if_neg (by omega), h3]
  refine ⟨hr, ?_⟩
  have hb : bestOf (L ++ [firstF k]) 0 (setP pkZ 0 k) = (L.length : Int) := best_last (fun g hg => by have := (hL g hg).2; show g.prio < 9; omega) rfl h2
  unfold ranR
  rw [if_neg (by omega)]
  unfold ranOf
  have hx : execT (L ++ [firstF k]) ⟨setP pkZ 0 k, 0, []⟩ = ⟨setP (setP pkZ 0 k) 9 7, -1, [⟨5, 3, setP (setP pkZ 0 k) 9 7⟩]⟩ := by
    unfold execT
    dsimp only
    rw [hb, Int.toNat_natCast, List.getElem?_append_right (Nat.le_refl _), Nat.sub_self, List.getElem?_cons_zero]
    dsimp only
    rw [if_neg (by omega)]
    rfl
  rw [runN, if_pos (by rfl), hx, runN_done _ _ _ (by show (-1 : Int) < 0; decide) (by omega)]
end Go.Proofs.Ytdbbmjdeeenlhaa

/- Lists held against each other by slices.Equal: equal ones are. -/
namespace Go.Proofs.Ytdbbmjdeeenlhaa
open Go.RowKit
set_option maxRecDepth 100000

set_option maxHeartbeats 1000000 in
theorem eqSnt_T (l : List Snt) (hl : l.length < 9223372036854775807) : Fun Try.prog 20 [.fv (slOf encSnt l), .fv (slOf encSnt l)] (.fv (.bool true)) := by
  refine Fun.body tbl_ok Try.func20 rfl (by kernel_rfl) rfl rfl rfl ?_
  repeat' (first
    | refine X.loc ?_
    | refine nx ?_
    | (refine WP.condBit rfl ?_ ?_)
    | (refine WP.cond rfl ?_ ?_ <;> intro hcond)
    | refine X.gst ?_ | refine X.gld ?_ | refine X.new ?_ | refine X.app ?_ | refine X.appS ?_ | refine X.stoW ?_ | refine X.stoB ?_ | refine X.stoR ?_ | refine X.gand ?_ | refine X.gor ?_
    | refine nd ?_
    | ((with_reducible apply drwK.mk); (· kernel_rfl); (· exact aF))
    | fail)
  · exfalso
    simp at hcond
  refine WP.loop (ι := Nat) (fun k => ⟨[(0, .fv (slOf encSnt l)), (1, .fv (slOf encSnt l)), (12, .fv (.int .i64 l.length)), (13, .fv (.int .i64 k))], []⟩) (fun k => k ≤ l.length) (fun k => l.length - k) 0 (by omega) ?_ ?_
  · skip
    refine St.le_of ?_ ?_ <;> (repeat' (first | exact trivial | refine ⟨⟨_, rfl, .refl _⟩, ?_⟩ | refine ⟨⟨_, rfl, .any _⟩, ?_⟩ | refine ⟨⟨_, rfl, .of_eq ?_⟩, ?_⟩ | refine ⟨⟨_, rfl, fun _ _ _ _ h => h⟩, ?_⟩ | fail))
  rintro k hk
  try dsimp only
  by_cases hlt : k < l.length
  case neg =>
    repeat' (first
      | refine X.loc ?_
      | refine nx ?_
      | refine X.cdT ?_
      | refine X.cdF ?_
      | (refine WP.condBit rfl ?_ ?_)
      | (refine WP.cond rfl ?_ ?_ <;> intro hcond)
      | refine X.gst ?_ | refine X.gld ?_ | refine X.new ?_ | refine X.app ?_ | refine X.appS ?_ | refine X.stoW ?_ | refine X.stoB ?_ | refine X.stoR ?_ | refine X.gand ?_ | refine X.gor ?_
      | refine nd ?_
      | ((with_reducible apply drwK.mk); (· kernel_rfl); (· exact aF))
      | fail)
    refine .f1 (.inl rfl) rfl rfl
  case pos =>
    obtain ⟨x, hx⟩ : ∃ x, l[k]? = some x := ⟨_, List.getElem?_eq_getElem hlt⟩
    repeat' (first
      | refine X.loc ?_
      | refine nx ?_
      | refine X.cdT ?_
      | refine X.cdF ?_
      | (refine WP.condBit rfl ?_ ?_)
      | (refine WP.cond rfl ?_ ?_ <;> intro hcond)
      | refine X.gst ?_ | refine X.gld ?_ | refine X.new ?_ | refine X.app ?_ | refine X.appS ?_ | refine X.stoW ?_ | refine X.stoB ?_ | refine X.stoR ?_ | refine X.gand ?_ | refine X.gor ?_
      | refine nd ?_
      | ((with_reducible apply drwK.mk); (· kernel_rfl); (· exact aF))
      | fail)
    · exfalso
      simp [beqL, beqV] at hcond
    · refine ⟨k + 1, by omega, by omega, ?_⟩
      refine St.le_of ?_ ?_ <;> (repeat' (first | exact trivial | refine ⟨⟨_, rfl, .refl _⟩, ?_⟩ | refine ⟨⟨_, rfl, .any _⟩, ?_⟩ | refine ⟨⟨_, rfl, .of_eq ?_⟩, ?_⟩ | refine ⟨⟨_, rfl, fun _ _ _ _ h => h⟩, ?_⟩ | fail))
set_option maxHeartbeats 1000000 in
theorem eqMx_T (l : List Mx) (hl : l.length < 9223372036854775807) : Fun Try.prog 90 [.fv (slOf encMx l), .fv (slOf encMx l)] (.fv (.bool true)) := by
  refine Fun.body tbl_ok Try.func90 rfl (by kernel_rfl) rfl rfl rfl ?_
  repeat' (first
    | refine X.loc ?_
    | refine nx ?_
    | (refine WP.condBit rfl ?_ ?_)
    | (refine WP.cond rfl ?_ ?_ <;> intro hcond)
    | refine X.gst ?_ | refine X.gld ?_ | refine X.new ?_ | refine X.app ?_ | refine X.appS ?_ | refine X.stoW ?_ | refine X.stoB ?_ | refine X.stoR ?_ | refine X.gand ?_ | refine X.gor ?_
    | refine nd ?_
    | ((with_reducible apply drwK.mk); (· kernel_rfl); (· exact aF))
    | fail)
  · exfalso
    simp at hcond
  refine WP.loop (ι := Nat) (fun k => ⟨[(0, .fv (slOf encMx l)), (1, .fv (slOf encMx l)), (12, .fv (.int .i64 l.length)), (13, .fv (.int .i64 k))], []⟩) (fun k => k ≤ l.length) (fun k => l.length - k) 0 (by omega) ?_ ?_
  · skip
    refine St.le_of ?_ ?_ <;> (repeat' (first | exact trivial | refine ⟨⟨_, rfl, .refl _⟩, ?_⟩ | refine ⟨⟨_, rfl, .any _⟩, ?_⟩ | refine ⟨⟨_, rfl, .of_eq ?_⟩, ?_⟩ | refine ⟨⟨_, rfl, fun _ _ _ _ h => h⟩, ?_⟩ | fail))
  rintro k hk
  try dsimp only
  by_cases hlt : k < l.length
  case neg =>
    repeat' (first
      | refine X.loc ?_
      | refine nx ?_
      | refine X.cdT ?_
      | refine X.cdF ?_
      | (refine WP.condBit rfl ?_ ?_)
      | (refine WP.cond rfl ?_ ?_ <;> intro hcond)
      | refine X.gst ?_ | refine X.gld ?_ | refine X.new ?_ | refine X.app ?_ | refine X.appS ?_ | refine X.stoW ?_ | refine X.stoB ?_ | refine X.stoR ?_ | refine X.gand ?_ | refine X.gor ?_
      | refine nd ?_
      | ((with_reducible apply drwK.mk); (· kernel_rfl); (· exact aF))
      | fail)
    refine .f1 (.inl rfl) rfl rfl
  case pos =>
    obtain ⟨x, hx⟩ : ∃ x, l[k]? = some x := ⟨_, List.getElem?_eq_getElem hlt⟩
    repeat' (first
      | refine X.loc ?_
      | refine nx ?_
      | refine X.cdT ?_
      | refine X.cdF ?_
      | (refine WP.condBit rfl ?_ ?_)
      | (refine WP.cond rfl ?_ ?_ <;> intro hcond)
      | refine X.gst ?_ | refine X.gld ?_ | refine X.new ?_ | refine X.app ?_ | refine X.appS ?_ | refine X.stoW ?_ | refine X.stoB ?_ | refine X.stoR ?_ | refine X.gand ?_ | refine X.gor ?_
      | refine nd ?_
      | ((with_reducible apply drwK.mk); (· kernel_rfl); (· exact aF))
      | fail)
    · exfalso
      simp [beqL, beqV] at hcond
    · refine ⟨k + 1, by omega, by omega, ?_⟩
      refine St.le_of ?_ ?_ <;> (repeat' (first | exact trivial | refine ⟨⟨_, rfl, .refl _⟩, ?_⟩ | refine ⟨⟨_, rfl, .any _⟩, ?_⟩ | refine ⟨⟨_, rfl, .of_eq ?_⟩, ?_⟩ | refine ⟨⟨_, rfl, fun _ _ _ _ h => h⟩, ?_⟩ | fail))
set_option maxHeartbeats 1000000 in
theorem eqDx_T (l : List Dx) (hl : l.length < 9223372036854775807) : Fun Try.prog 91 [.fv (slOf encDx l), .fv (slOf encDx l)] (.fv (.bool true)) := by
  refine Fun.body tbl_ok Try.func91 rfl (by kernel_rfl) rfl rfl rfl ?_
  repeat' (first
    | refine X.loc ?_
    | refine nx ?_
    | (refine WP.condBit rfl ?_ ?_)
    | (refine WP.cond rfl ?_ ?_ <;> intro hcond)
    | refine X.gst ?_ | refine X.gld ?_ | refine X.new ?_ | refine X.app ?_ | refine X.appS ?_ | refine X.stoW ?_ | refine X.stoB ?_ | refine X.stoR ?_ | refine X.gand ?_ | refine X.gor ?_
    | refine nd ?_
    | ((with_reducible apply drwK.mk); (· kernel_rfl); (· exact aF))
    | fail)
  · exfalso
    simp at hcond
  refine WP.loop (ι := Nat) (fun k => ⟨[(0, .fv (slOf encDx l)), (1, .fv (slOf encDx l)), (12, .fv (.int .i64 l.length)), (13, .fv (.int .i64 k))], []⟩) (fun k => k ≤ l.length) (fun k => l.length - k) 0 (by omega) ?_ ?_
  · skip
    refine St.le_of ?_ ?_ <;> (repeat' (first | exact trivial | refine ⟨⟨_, rfl, .refl _⟩, ?_⟩ | refine ⟨⟨_, rfl, .any _⟩, ?_⟩ | refine ⟨⟨_, rfl, .of_eq ?_⟩, ?_⟩ | refine ⟨⟨_, rfl, fun _ _ _ _ h => h⟩, ?_⟩ | fail))
  rintro k hk
  try dsimp only
  by_cases hlt : k < l.length
  case neg =>
    repeat' (first
      | refine X.loc ?_
      | refine nx ?_
      | refine X.cdT ?_
      | refine X.cdF ?_
      | (refine WP.condBit rfl ?_ ?_)
      | (refine WP.cond rfl ?_ ?_ <;> intro hcond)
      | refine X.gst ?_ | refine X.gld ?_ | refine X.new ?_ | refine X.app ?_ | refine X.appS ?_ | refine X.stoW ?_ | refine X.stoB ?_ | refine X.stoR ?_ | refine X.gand ?_ | refine X.gor ?_
      | refine nd ?_
      | ((with_reducible apply drwK.mk); (· kernel_rfl); (· exact aF))
      | fail)
    refine .f1 (.inl rfl) rfl rfl
  case pos =>
    obtain ⟨x, hx⟩ : ∃ x, l[k]? = some x := ⟨_, List.getElem?_eq_getElem hlt⟩
    repeat' (first
      | refine X.loc ?_
      | refine nx ?_
      | refine X.cdT ?_
      | refine X.cdF ?_
      | (refine WP.condBit rfl ?_ ?_)
      | (refine WP.cond rfl ?_ ?_ <;> intro hcond)
      | refine X.gst ?_ | refine X.gld ?_ | refine X.new ?_ | refine X.app ?_ | refine X.appS ?_ | refine X.stoW ?_ | refine X.stoB ?_ | refine X.stoR ?_ | refine X.gand ?_ | refine X.gor ?_
      | refine nd ?_
      | ((with_reducible apply drwK.mk); (· kernel_rfl); (· exact aF))
      | fail)
    · exfalso
      simp [beqL, beqV] at hcond
    · refine ⟨k + 1, by omega, by omega, ?_⟩
      refine St.le_of ?_ ?_ <;> (repeat' (first | exact trivial | refine ⟨⟨_, rfl, .refl _⟩, ?_⟩ | refine ⟨⟨_, rfl, .any _⟩, ?_⟩ | refine ⟨⟨_, rfl, .of_eq ?_⟩, ?_⟩ | refine ⟨⟨_, rfl, fun _ _ _ _ h => h⟩, ?_⟩ | fail))
set_option maxHeartbeats 1000000 in
theorem eqSw_T (l : List Sw) (hl : l.length < 9223372036854775807) : Fun Try.prog 44 [.fv (slOf encSw l), .fv (slOf encSw l)] (.fv (.bool true)) := by
  refine Fun.body tbl_ok Try.func44 rfl (by kernel_rfl) rfl rfl rfl ?_
  repeat' (first
    | refine X.loc ?_
    | refine nx ?_
    | (refine WP.condBit rfl ?_ ?_)
    | (refine WP.cond rfl ?_ ?_ <;> intro hcond)
    | refine X.gst ?_ | refine X.gld ?_ | refine X.new ?_ | refine X.app ?_ | refine X.appS ?_ | refine X.stoW ?_ | refine X.stoB ?_ | refine X.stoR ?_ | refine X.gand ?_ | refine X.gor ?_
    | refine nd ?_
    | ((with_reducible apply drwK.mk); (· kernel_rfl); (· exact aF))
    | fail)
  · exfalso
    simp at hcond
  refine WP.loop (ι := Nat) (fun k => ⟨[(0, .fv (slOf encSw l)), (1, .fv (slOf encSw l)), (12, .fv (.int .i64 l.length)), (13, .fv (.int .i64 k))], []⟩) (fun k => k ≤ l.length) (fun k => l.length - k) 0 (by omega) ?_ ?_
  · skip
    refine St.le_of ?_ ?_ <;> (repeat' (first | exact trivial | refine ⟨⟨_, rfl, .refl _⟩, ?_⟩ | refine ⟨⟨_, rfl, .any _⟩, ?_⟩ | refine ⟨⟨_, rfl, .of_eq ?_⟩, ?_⟩ | refine ⟨⟨_, rfl, fun _ _ _ _ h => h⟩, ?_⟩ | fail))
  rintro k hk
  try dsimp only
  by_cases hlt : k < l.length
  case neg =>
    repeat' (first
      | refine X.loc ?_
      | refine nx ?_
      | refine X.cdT ?_
      | refine X.cdF ?_
      | (refine WP.condBit rfl ?_ ?_)
      | (refine WP.cond rfl ?_ ?_ <;> intro hcond)
      | refine X.gst ?_ | refine X.gld ?_ | refine X.new ?_ | refine X.app ?_ | refine X.appS ?_ | refine X.stoW ?_ | refine X.stoB ?_ | refine X.stoR ?_ | refine X.gand ?_ | refine X.gor ?_
      | refine nd ?_
      | ((with_reducible apply drwK.mk); (· kernel_rfl); (· exact aF))
      | fail)
    refine .f1 (.inl rfl) rfl rfl
  case pos =>
    obtain ⟨x, hx⟩ : ∃ x, l[k]? = some x := ⟨_, List.getElem?_eq_getElem hlt⟩
    repeat' (first
      | refine X.loc ?_
      | refine nx ?_
      | refine X.cdT ?_
      | refine X.cdF ?_
      | (refine WP.condBit rfl ?_ ?_)
      | (refine WP.cond rfl ?_ ?_ <;> intro hcond)
      | refine X.gst ?_ | refine X.gld ?_ | refine X.new ?_ | refine X.app ?_ | refine X.appS ?_ | refine X.stoW ?_ | refine X.stoB ?_ | refine X.stoR ?_ | refine X.gand ?_ | refine X.gor ?_
      | refine nd ?_
      | ((with_reducible apply drwK.mk); (· kernel_rfl); (· exact aF))
      | fail)
    · exfalso
      simp [beqL, beqV] at hcond
    · refine ⟨k + 1, by omega, by omega, ?_⟩
      refine St.le_of ?_ ?_ <;> (repeat' (first | exact trivial | refine ⟨⟨_, rfl, .refl _⟩, ?_⟩ | refine ⟨⟨_, rfl, .any _⟩, ?_⟩ | refine ⟨⟨_, rfl, .of_eq ?_⟩, ?_⟩ | refine ⟨⟨_, rfl, fun _ _ _ _ h => h⟩, ?_⟩ | fail))
set_option maxHeartbeats 1000000 in
theorem eqAc_T (l : List Ac) (hl : l.length < 9223372036854775807) : Fun Try.prog 45 [.fv (slOf encAc l), .fv (slOf encAc l)] (.fv (.bool true)) := by
  refine Fun.body tbl_ok Try.func45 rfl (by kernel_rfl) rfl rfl rfl ?_
  repeat' (first
    | refine X.loc ?_
    | refine nx ?_
    | (refine WP.condBit rfl ?_ ?_)
    | (refine WP.cond rfl ?_ ?_ <;> intro hcond)
    | refine X.gst ?_ | refine X.gld ?_ | refine X.new ?_ | refine X.app ?_ | refine X.appS ?_ | refine X.stoW ?_ | refine X.stoB ?_ | refine X.stoR ?_ | refine X.gand ?_ | refine X.gor ?_
    | refine nd ?_
    | ((with_reducible apply drwK.mk); (· kernel_rfl); (· exact aF))
    | fail)
  · exfalso
    simp at hcond
  refine WP.loop (ι := Nat) (fun k => ⟨[(0, .fv (slOf encAc l)), (1, .fv (slOf encAc l)), (12, .fv (.int .i64 l.length)), (13, .fv (.int .i64 k))], []⟩) (fun k => k ≤ l.length) (fun k => l.length - k) 0 (by omega) ?_ ?_
  · skip
    refine St.le_of ?_ ?_ <;> (repeat' (first | exact trivial | refine ⟨⟨_, rfl, .refl _⟩, ?_⟩ | refine ⟨⟨_, rfl, .any _⟩, ?_⟩ | refine ⟨⟨_, rfl, .of_eq ?_⟩, ?_⟩ | refine ⟨⟨_, rfl, fun _ _ _ _ h => h⟩, ?_⟩ | fail))
  rintro k hk
  try dsimp only
  by_cases hlt : k < l.length
  case neg =>
    repeat' (first
      | refine X.loc ?_
      | refine nx ?_
      | refine X.cdT ?_
      | refine X.cdF ?_
      | (refine WP.condBit rfl ?_ ?_)
      | (refine WP.cond rfl ?_ ?_ <;> intro hcond)
      | refine X.gst ?_ | refine X.gld ?_ | refine X.new ?_ | refine X.app ?_ | refine X.appS ?_ | refine X.stoW ?_ | refine X.stoB ?_ | refine X.stoR ?_ | refine X.gand ?_ | refine X.gor ?_
      | refine nd ?_
      | ((with_reducible apply drwK.mk); (· kernel_rfl); (· exact aF))
      | fail)
    refine .f1 (.inl rfl) rfl rfl
  case pos =>
    obtain ⟨x, hx⟩ : ∃ x, l[k]? = some x := ⟨_, List.getElem?_eq_getElem hlt⟩
    repeat' (first
      | refine X.loc ?_
      | refine nx ?_
      | refine X.cdT ?_
      | refine X.cdF ?_
      | (refine WP.condBit rfl ?_ ?_)
      | (refine WP.cond rfl ?_ ?_ <;> intro hcond)
      | refine X.gst ?_ | refine X.gld ?_ | refine X.new ?_ | refine X.app ?_ | refine X.appS ?_ | refine X.stoW ?_ | refine X.stoB ?_ | refine X.stoR ?_ | refine X.gand ?_ | refine X.gor ?_
      | refine nd ?_
      | ((with_reducible apply drwK.mk); (· kernel_rfl); (· exact aF))
      | fail)
    · exfalso
      simp [beqL, beqV] at hcond
    · refine ⟨k + 1, by omega, by omega, ?_⟩
      refine St.le_of ?_ ?_ <;> (repeat' (first | exact trivial | refine ⟨⟨_, rfl, .refl _⟩, ?_⟩ | refine ⟨⟨_, rfl, .any _⟩, ?_⟩ | refine ⟨⟨_, rfl, .of_eq ?_⟩, ?_⟩ | refine ⟨⟨_, rfl, fun _ _ _ _ h => h⟩, ?_⟩ | fail))
set_option maxHeartbeats 1000000 in
theorem eqPo_T (l : List Po) (hl : l.length < 9223372036854775807) : Fun Try.prog 46 [.fv (slOf encPo l), .fv (slOf encPo l)] (.fv (.bool true)) := by
  refine Fun.body tbl_ok Try.func46 rfl (by kernel_rfl) rfl rfl rfl ?_
  repeat' (first
    | refine X.loc ?_
    | refine nx ?_
    | (refine WP.condBit rfl ?_ ?_)
    | (refine WP.cond rfl ?_ ?_ <;> intro hcond)
    | refine X.gst ?_ | refine X.gld ?_ | refine X.new ?_ | refine X.app ?_ | refine X.appS ?_ | refine X.stoW ?_ | refine X.stoB ?_ | refine X.stoR ?_ | refine X.gand ?_ | refine X.gor ?_
    | refine nd ?_
    | ((with_reducible apply drwK.mk); (· kernel_rfl); (· exact aF))
    | fail)
  · exfalso
    simp at hcond
  refine WP.loop (ι := Nat) (fun k => ⟨[(0, .fv (slOf encPo l)), (1, .fv (slOf encPo l)), (12, .fv (.int .i64 l.length)), (13, .fv (.int .i64 k))], []⟩) (fun k => k ≤ l.length) (fun k => l.length - k) 0 (by omega) ?_ ?_
  · skip
    refine St.le_of ?_ ?_ <;> (repeat' (first | exact trivial | refine ⟨⟨_, rfl, .refl _⟩, ?_⟩ | refine ⟨⟨_, rfl, .any _⟩, ?_⟩ | refine ⟨⟨_, rfl, .of_eq ?_⟩, ?_⟩ | refine ⟨⟨_, rfl, fun _ _ _ _ h => h⟩, ?_⟩ | fail))
  rintro k hk
  try dsimp only
  by_cases hlt : k < l.length
  case neg =>
    repeat' (first
      | refine X.loc ?_
      | refine nx ?_
      | refine X.cdT ?_
      | refine X.cdF ?_
      | (refine WP.condBit rfl ?_ ?_)
      | (refine WP.cond rfl ?_ ?_ <;> intro hcond)
      | refine X.gst ?_ | refine X.gld ?_ | refine X.new ?_ | refine X.app ?_ | refine X.appS ?_ | refine X.stoW ?_ | refine X.stoB ?_ | refine X.stoR ?_ | refine X.gand ?_ | refine X.gor ?_
      | refine nd ?_
      | ((with_reducible apply drwK.mk); (· kernel_rfl); (· exact aF))
      | fail)
    refine .f1 (.inl rfl) rfl rfl
  case pos =>
    obtain ⟨x, hx⟩ : ∃ x, l[k]? = some x := ⟨_, List.getElem?_eq_getElem hlt⟩
    repeat' (first
      | refine X.loc ?_
      | refine nx ?_
      | refine X.cdT ?_
      | refine X.cdF ?_
      | (refine WP.condBit rfl ?_ ?_)
      | (refine WP.cond rfl ?_ ?_ <;> intro hcond)
      | refine X.gst ?_ | refine X.gld ?_ | refine X.new ?_ | refine X.app ?_ | refine X.appS ?_ | refine X.stoW ?_ | refine X.stoB ?_ | refine X.stoR ?_ | refine X.gand ?_ | refine X.gor ?_
      | refine nd ?_
      | ((with_reducible apply drwK.mk); (· kernel_rfl); (· exact aF))
      | fail)
    · exfalso
      simp [beqL, beqV] at hcond
    · refine ⟨k + 1, by omega, by omega, ?_⟩
      refine St.le_of ?_ ?_ <;> (repeat' (first | exact trivial | refine ⟨⟨_, rfl, .refl _⟩, ?_⟩ | refine ⟨⟨_, rfl, .any _⟩, ?_⟩ | refine ⟨⟨_, rfl, .of_eq ?_⟩, ?_⟩ | refine ⟨⟨_, rfl, fun _ _ _ _ h => h⟩, ?_⟩ | fail))
end Go.Proofs.Ytdbbmjdeeenlhaa

/- Raw numbers and strings that came in, as data by value. -/
namespace Go.Proofs.Ytdbbmjdeeenlhaa
open Go.ChangeShapes Go.WideShapes Go.ChangeAt Go.RowKit Go.Deep
set_option maxRecDepth 100000

def rawLeaves : List Leaf := [.int, .int, .int, .int]
theorem raw_leaves : leaves Try.prog 2 67 = some rawLeaves := by kernel_rfl
theorem raw_leaves3 : leaves Try.prog 3 67 = some rawLeaves := by kernel_rfl
theorem raw_cellsOf : Try.prog.cellsOf 67 = 4 := by kernel_rfl
theorem raw_bytes : Try.prog.bytesOf 67 = 32 := by kernel_rfl
section
variable {H : Type} {enc : TypeId × Value → H} {P : Program} {w : World} {base : Nat} {spare : Nat → Bool} {held : Bool} {Cl : TypeId → DataW H → Prop}
theorem raw_rep {cs : List Value} (h : AllOk enc P w base spare held Cl rawLeaves cs) : ∃ r : Rq, r.Ok ∧ RepF w (encRq r) cs := by
  match cs, h.length with
  | [c0, c1, c2, c3], _ =>
    obtain ⟨⟨a0, rfl, b0⟩, ⟨a1, rfl, b1⟩, ⟨a2, rfl, b2⟩, ⟨a3, rfl, b3⟩, _⟩ := h
    exact ⟨⟨a0, a1, a2, a3⟩, ⟨b0, b1, b2, b3⟩, fun _ => ⟨rfl, rfl, rfl, rfl, trivial⟩⟩
theorem open_raws {v : Value} {d : DataW H} {p : List MemPlace} {r : Reach} {b0 : Nat} (hv : Value.okWide Try.prog w r b0 40 v) (h : DataW.Trod enc Try.prog w base spare held 40 v d p) (hs : SizedCl Try.prog 40 d) :
    ∃ l : List Rq, (∀ x ∈ l, x.Ok) ∧ l.length * 32 ≤ reachBytes ∧ (slOf encRq l).Rep (fun b => b < w.heap.size) w v :=
  open_sl_arg Try.underlying40 raw_leaves raw_cellsOf rfl (by omega) raw_bytes (fun _ h => raw_rep h) hv h hs
theorem open_raw {r : Reach} {b0 : Nat} {v : Value} {d : DataW H} {p : List MemPlace} (hv : Value.okWide Try.prog w r b0 67 v) (h : DataW.Trod enc Try.prog w base spare held 67 v d p) :
    ∃ a : Rq, a.Ok ∧ ∃ cs : List Value, v = .agg cs.toArray ∧ RepF w (encRq a) cs := by
  obtain ⟨cs, rfl, hcs⟩ := open_struct Try.underlying67 raw_leaves3 hv h
  obtain ⟨a, ho, ha⟩ := raw_rep hcs
  exact ⟨a, ho, cs, rfl, ha⟩
end
end Go.Proofs.Ytdbbmjdeeenlhaa

/- The walk of the law RunsFirst. -/
namespace Go.Proofs.Ytdbbmjdeeenlhaa
open Go.ChangeShapes Go.WideShapes Go.ChangeAt Go.RowKit
set_option maxRecDepth 100000

set_option maxHeartbeats 4000000 in
theorem runsFirst_T (l : List Rq) (n : Int) (hok : ∀ r ∈ l, r.Ok) (hn : N64 n) : Fun Try.prog 4 [.fv (slOf encRq l), .fv (.int .i64 n)] (.fv (.bool true)) := by
  have hp := picked_T n 50 hn.1 hn.2 (by omega)
  have hk := pick_le (n := n) (m := 50) (by omega)
  generalize pick n 50 = k at hp hk
  have hfl := flowsOf_T l 20 hok (by omega)
  have h20 := flowsOf_len l 20
  have hr := runs_first (flowsOf l 20) k hk (fun f hf => flowsOf_ok l 20 f hf) h20
  have hr1 := runs_first [] k hk (fun f hf => by cases hf) (by simp)
  generalize flowsOf l 20 = L at hfl hr h20
  have c1 := flowRun_T (L ++ [firstF k]) (setP pkZ 0 k)
  rw [hr.1, hr.2] at c1
  have c2 := flowRun_T ([] ++ [firstF k]) (setP pkZ 0 k)
  rw [hr1.1, hr1.2] at c2
  have c3 := eqSnt_T [⟨5, 3, setP (setP pkZ 0 k) 9 7⟩] (by simp)
  have hc : (L.flatMap encFl).map AV.fv ++ (encFl (firstF k)).map .fv = ((L ++ [firstF k]).flatMap encFl).map .fv := by
    rw [List.flatMap_append, List.map_append]
    rfl
  have hln : (L ++ [firstF k]).length = L.length + 1 := by simp
  rw [slOf, hln] at c1
  refine Fun.body tbl_ok Try.func4 rfl (by kernel_rfl) rfl rfl rfl ?_
  repeat' (first
    | (apply X.loE; (· exact aR); (· first | exact .eff (.bsliceFS rfl rfl rfl rfl rfl rfl) | exact .callL rfl rfl rfl (by first | exact hp | exact c2 | exact c3) rfl | (apply LEff.callBL; (· rfl); (· rfl); (· exact hp); (· exact aB); (· rfl)) | (apply LEff.callBL; (· rfl); (· rfl); (· exact c2); (· exact aB); (· rfl)) | (apply LEff.callBL; (· rfl); (· rfl); (· exact c3); (· exact aB); (· rfl))))
    | refine X.loc ?_
    | refine nx ?_
    | refine X.cdT ?_
    | refine X.cdF ?_
    | (refine WP.condBit rfl ?_ ?_)
    | (refine WP.cond rfl ?_ ?_ <;> intro hcond)
    | (apply X.gsE; (· exact aR); (· exact aV); (· exact aW); (· intro hc; first | exact .eff (.bsliceFS rfl rfl rfl rfl rfl rfl) | exact .callG rfl rfl rfl (by first | exact hp | exact c2 | exact c3) rfl | (apply LEff.callBG; (· rfl); (· rfl); (· exact hp); (· exact aB); (· rfl)) | (apply LEff.callBG; (· rfl); (· rfl); (· exact c2); (· exact aB); (· rfl)) | (apply LEff.callBG; (· rfl); (· rfl); (· exact c3); (· exact aB); (· rfl))); (· exact aR))
    | refine X.gst ?_ | refine X.gld ?_ | refine X.new ?_ | refine X.app ?_ | refine X.appS ?_ | refine X.stoW ?_ | refine X.stoB ?_ | refine X.stoR ?_ | refine X.gand ?_ | refine X.gor ?_
    | (apply X.cal false; (· exact aR); (· exact hfl); (· exact aC))
    | (apply X.cal false; (· exact aR); (· exact c1); (· (refine ⟨?_, ?_, ?_, ?_, ?_, ?_, ?_, ?_, ?_, ?_, ?_⟩; (· skip; (repeat' (first | exact trivial | exact AV.ToL.nil | exact .ptr rfl | exact .sl rfl | exact AV.To.nil rfl | exact .le (.refl _) rfl | exact .frz rfl rfl rfl | exact .frp rfl rfl rfl | exact .le AV.Le.nil rfl | exact AV.To.frzE rfl (by first | rfl | omega | (simp; done)) (by first | assumption | (simp only [List.flatMap_append, List.map_append]; rfl)) rfl | refine AV.To.agg ?_ | refine AV.To.fn ?_ | refine AV.ToL.cons ?_ ?_ | exact OB.To.nil rfl | refine OB.To.row rfl rfl rfl ?_ | refine OB.To.box rfl rfl ?_ | exact .ofEq rfl | refine ⟨?_, ?_⟩ | fail))); (· skip; (repeat' (first | exact trivial | exact AV.ToL.nil | exact .ptr rfl | exact .sl rfl | exact AV.To.nil rfl | exact .le (.refl _) rfl | exact .frz rfl rfl rfl | exact .frp rfl rfl rfl | exact .le AV.Le.nil rfl | exact AV.To.frzE rfl (by first | rfl | omega | (simp; done)) (by first | assumption | (simp only [List.flatMap_append, List.map_append]; rfl)) rfl | refine AV.To.agg ?_ | refine AV.To.fn ?_ | refine AV.ToL.cons ?_ ?_ | exact OB.To.nil rfl | refine OB.To.row rfl rfl rfl ?_ | refine OB.To.box rfl rfl ?_ | exact .ofEq rfl | refine ⟨?_, ?_⟩ | fail))); (· rfl); (· rfl); (· skip; (repeat' (first | exact OwnRn.nil | apply OwnRn.cons rfl | apply OB.Rn.row | apply OB.Rn.box | exact AV.RnL.maps _ | exact AV.RnL.nil | exact AV.Rn.nil | exact AV.Rn.le rfl | exact AV.Rn.ptr rfl | exact AV.Rn.sl rfl | apply AV.RnL.cons | apply AV.Rn.agg | apply AV.Rn.tup | apply AV.Rn.fn | apply AV.RnL.app | apply AV.RnL.mapsS | fail))); (· skip; (repeat' (first | exact OwnRn.nil | apply OwnRn.cons rfl | apply OB.Rn.row | apply OB.Rn.box | exact AV.RnL.maps _ | exact AV.RnL.nil | exact AV.Rn.nil | exact AV.Rn.le rfl | exact AV.Rn.ptr rfl | exact AV.Rn.sl rfl | apply AV.RnL.cons | apply AV.Rn.agg | apply AV.Rn.tup | apply AV.Rn.fn | apply AV.RnL.app | apply AV.RnL.mapsS | fail))); (· rfl); (· rfl); (· exact (by first | exact (rfl : _ = []) | exact (rfl : _ = [_]) | exact (rfl : _ = [_, _]) | exact (rfl : _ = [_, _, _]) | exact (rfl : _ = [_, _, _, _]) | exact (rfl : _ = [_, _, _, _, _]) | exact (rfl : _ = [_, _, _, _, _, _]) | exact (rfl : _ = [_, _, _, _, _, _, _]) | exact (rfl : _ = [_, _, _, _, _, _, _, _]) | exact (rfl : _ = [_, _, _, _, _, _, _, _, _]) | exact (rfl : _ = [_, _, _, _, _, _, _, _, _, _]) | exact (rfl : _ = [_, _, _, _, _, _, _, _, _, _, _]) | exact (rfl : _ = [_, _, _, _, _, _, _, _, _, _, _, _]) | exact (rfl : _ = [_, _, _, _, _, _, _, _, _, _, _, _, _]) | exact (rfl : _ = [_, _, _, _, _, _, _, _, _, _, _, _, _, _]) | exact (rfl : _ = [_, _, _, _, _, _, _, _, _, _, _, _, _, _, _]) | exact (rfl : _ = [_, _, _, _, _, _, _, _, _, _, _, _, _, _, _, _]))); (· first | rfl | (simp only [freeNs, noRefH, OB.cells, refsL_fv, refsL_app]; rfl)); (· exact (by first | exact (rfl : _ = []) | exact (rfl : _ = [_]) | exact (rfl : _ = [_, _]) | exact (rfl : _ = [_, _, _]) | exact (rfl : _ = [_, _, _, _]) | exact (rfl : _ = [_, _, _, _, _]) | exact (rfl : _ = [_, _, _, _, _, _]) | exact (rfl : _ = [_, _, _, _, _, _, _]) | exact (rfl : _ = [_, _, _, _, _, _, _, _]) | exact (rfl : _ = [_, _, _, _, _, _, _, _, _]) | exact (rfl : _ = [_, _, _, _, _, _, _, _, _, _]) | exact (rfl : _ = [_, _, _, _, _, _, _, _, _, _, _]) | exact (rfl : _ = [_, _, _, _, _, _, _, _, _, _, _, _]) | exact (rfl : _ = [_, _, _, _, _, _, _, _, _, _, _, _, _]) | exact (rfl : _ = [_, _, _, _, _, _, _, _, _, _, _, _, _, _]) | exact (rfl : _ = [_, _, _, _, _, _, _, _, _, _, _, _, _, _, _]) | exact (rfl : _ = [_, _, _, _, _, _, _, _, _, _, _, _, _, _, _, _]))))))
    | refine nd ?_
    | ((with_reducible apply drwK.mk); (· kernel_rfl); (· exact aF))
    | fail)
  exact .f1 (.inl rfl) rfl rfl
theorem runsFirst_open {H : Type} {enc : TypeId × Value → H} (W : World) (base : Nat) {v0 v1 : Value} {d0 d1 : DataW H} {p0 p1 : List MemPlace} (hv0 : Value.okWide Try.prog W .any base 40 v0)
    (h0 : DataW.Trod enc Try.prog W 0 (fun _ => true) true 40 v0 d0 p0) (hs0 : SizedCl Try.prog 40 d0) (hv1 : Value.okWide Try.prog W .any base 3 v1)
    (h1 : DataW.Trod enc Try.prog W 0 (fun _ => true) true 3 v1 d1 p1) (_hs1 : SizedCl Try.prog 3 d1) : Calls Try.prog 4 #[v0, v1] W fun e W' => e = .returned (.bool true) ∧ Below W.heap.size W W' := by
  obtain ⟨l, hl, _, hr⟩ := open_raws hv0 h0 hs0
  obtain ⟨n, rfl, _, _, hw⟩ := open_int Try.underlying3 hv1 h1
  exact (runsFirst_T l n hl (i64_of_wf hw)).yes ⟨hr, rfl, trivial⟩
end Go.Proofs.Ytdbbmjdeeenlhaa
