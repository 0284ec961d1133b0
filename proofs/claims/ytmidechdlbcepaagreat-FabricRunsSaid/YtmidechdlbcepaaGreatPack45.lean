import Derived.Test.YtmidechdlbcepaaGreatPack39
import Derived.Test.YtmidechdlbcepaaGreatPack26
import Derived.Test.YtmidechdlbcepaaGreatPack31
import Derived.Test.YtmidechdlbcepaaGreatPack44
import Derived.Test.YtmidechdlbcepaaGreatPack34
set_option linter.unusedSimpArgs false
set_option linter.unusedVariables false
namespace Go.Proofs.YtmidechdlbcepaaGreat
open Go.RowKit
set_option maxRecDepth 100000
set_option maxHeartbeats 8000000 in
theorem tell_T (c : Cf) (ch : Int) (L : List Fl) (net ip mac : Int) (hL : (L.length + 1) * 64 ≤ 140737488355328) : FunO Tryz.prog 135 [.fv (.int .i64 net), .fv (.int .i64 ip), .fv (.int .i64 mac), .optr 1002 0] [(1002, mkP), (1000, mkB c ch 1001), (1001, flR L)] (.tup []) [(1002, mkP), (1000, mkB c ch 7), (7, flR (L ++ [tellF net ip mac]))] := by
  have c1 := is_T
  have c2 := to_T
  have c3 := put_T
  have c4 := copied_T
  have a0 := add_T c ch L (tellF net ip mac) hL
  refine FunO.bodyL tbl_ok Tryz.func135 rfl (by kernel_rfl) rfl rfl rfl ?_
  unfold mkB flR mkC mkP
  unfold mkB flR mkC at a0
  repeat' (first | (apply X.loE; (· exact aR); (· first | exact .eff (.bsliceFS rfl rfl rfl rfl rfl rfl) | exact .callL rfl rfl rfl (by first | exact c1 _ _ | exact c2 _ | exact c3 _ _ | exact c4 _ _) rfl | exact bl (c1 _ _) | exact bl (c2 _) | exact bl (c3 _ _) | exact bl (c4 _ _))) | refine X.loc ?_ | refine nx ?_ | refine X.cdT ?_ | refine X.cdF ?_ | refine cb ?_ ?_ | (refine cc ?_ ?_ <;> intro hcond) | (apply X.gsE; (· exact aR); (· exact aV); (· exact aW); (· intro hc; first | exact .eff (.bsliceFS rfl rfl rfl rfl rfl rfl) | exact .callG rfl rfl rfl (by first | exact c1 _ _ | exact c2 _ | exact c3 _ _ | exact c4 _ _) rfl | exact bg (c1 _ _) | exact bg (c2 _) | exact bg (c3 _ _) | exact bg (c4 _ _)); (· exact aR)) | refine rb ?_ | refine X.c0 (a0) ?_ | refine nd ?_ | refine dk ?_ | fail)
  exact rq ⟨[], [(1002, .box 151 [.optr 1000 0]), (1000, .box 153 ((encCf c).map .fv ++ [.fv (.int .i64 ch), .osl 7])), (7, .row 108 4 (L ++ [tellF net ip mac]).length (((L ++ [tellF net ip mac]).flatMap encFl).map .fv))]⟩ (tq [(7, .id 23)] [])
set_option maxHeartbeats 8000000 in
theorem answers_T (c : Cf) (ch : Int) (L : List Fl) (hc : CfOk c) (hL : L.length ≤ 100000) : FunO Tryz.prog 100 [.optr 1000 0] [(1000, mkB c ch 1001), (1001, flR L)] (.tup []) [(1000, mkB c ch 7), (7, flR (L ++ answersF c (hereF c ch)))] := by
  have hps := hc.pl
  have hss := hc.sl
  have hsr := hc.sr
  have c1 := is_T
  have hh := fun L => here_T c ch L hps
  have hH : (hereF c ch).length ≤ 40 := Nat.le_trans (List.length_filter_le _ _) hps
  have ta := fun L a b d h => tell_T c ch L a b d h
  have aa := fun L f h => add_T c ch L f h
  unfold mkB flR mkC mkP at ta
  unfold mkB flR mkC at aa
  unfold mkB flR mkC poR at hh
  refine FunO.bodyL tbl_ok Tryz.func100 rfl (by kernel_rfl) rfl rfl rfl ?_
  unfold mkB flR mkC
  repeat' (first | refine X.loc ?_ | refine nx ?_ | refine X.cdT ?_ | refine X.cdF ?_ | refine cb ?_ ?_ | (refine cc ?_ ?_ <;> intro hcond) | refine rb ?_ | refine nd ?_ | refine dk ?_ | fail)
  refine WP.loop (ι := Nat) (fun k => ⟨[(1, .optr 1 0), (2, .fn 135 [.optr 1 0]), (14, .fv (slOf encPo c.ps)), (15, .fv (.int .i64 c.ps.length)), (16, .fv (.int .i64 k))], [(1, .box 151 [.optr 1000 0]), (1000, .box 153 ((encCf c).map .fv ++ [.fv (.int .i64 ch), .osl 900])), (900, .row 108 4 (L ++ (c.ps.take k).map fun p => tellF p.sw p.ip p.mac).length (((L ++ (c.ps.take k).map fun p => tellF p.sw p.ip p.mac).flatMap encFl).map .fv))]⟩) (fun k => k ≤ c.ps.length) (fun k => c.ps.length - k) 0 (by omega) ?_ ?_
  · try dsimp only
    rw [List.take_zero, List.map_nil, List.append_nil]
    exact tq [(900, .id 1001)] []
  rintro k hk
  try dsimp only
  by_cases hlt : k < c.ps.length
  case pos =>
    obtain ⟨x, hx⟩ : ∃ x, c.ps[k]? = some x := ⟨_, List.getElem?_eq_getElem hlt⟩
    have hs : (L ++ (c.ps.take (k + 1)).map fun p => tellF p.sw p.ip p.mac) = (L ++ (c.ps.take k).map fun p => tellF p.sw p.ip p.mac) ++ [tellF x.sw x.ip x.mac] := by
      rw [take_succ hx]
      simp
    have hOl : (L ++ (c.ps.take k).map fun p => tellF p.sw p.ip p.mac).length ≤ 100040 := by
      rw [List.length_append, List.length_map, List.length_take]
      omega
    generalize (L ++ (c.ps.take k).map fun p => tellF p.sw p.ip p.mac) = O at *
    have u1 := ta O x.sw x.ip x.mac (by omega)
    repeat' (first | refine X.loc ?_ | refine nx ?_ | refine X.cdT ?_ | refine X.cdF ?_ | refine cb ?_ ?_ | (refine cc ?_ ?_ <;> intro hcond) | refine rb ?_ | refine X.c0 (u1) ?_ | refine nd ?_ | refine dk ?_ | fail)
    refine ⟨k + 1, by omega, by omega, ?_⟩
    try dsimp only
    rw [hs]
    exact tq [(900, .id 27)] []
  case neg =>
    rw [List.take_of_length_le (by omega)]
    have hOl : (L ++ c.ps.map fun p => tellF p.sw p.ip p.mac).length ≤ 100040 := by
      rw [List.length_append, List.length_map]
      omega
    have hR : L ++ answersF c (hereF c ch) = (L ++ c.ps.map fun p => tellF p.sw p.ip p.mac) ++ (hereF c ch).map answerOwn ++ c.ss.flatMap answerSw := by simp [answersF]
    rw [hR]
    clear hR
    generalize (L ++ c.ps.map fun p => tellF p.sw p.ip p.mac) = O at *
    have h1 := hh O
    have e1 : (c.ps.filter fun x => !(x.ch != ch)) = hereF c ch := rfl
    rw [e1] at h1
    generalize hereF c ch = H at *
    repeat' (first | refine X.loc ?_ | refine nx ?_ | refine X.cdT ?_ | refine X.cdF ?_ | refine cb ?_ ?_ | (refine cc ?_ ?_ <;> intro hcond) | refine rb ?_ | refine X.c0 (h1) ?_ | refine nd ?_ | refine dk ?_ | fail)
    refine WP.loop (ι := Nat) (fun k => ⟨[(1, .optr 1 0), (2, .fn 135 [.optr 1 0]), (30, .osl 30), (31, .fv (.int .i64 H.length)), (32, .fv (.int .i64 k))], [(1, .box 151 [.optr 1000 0]), (30, .row 69 5 H.length ((H.flatMap encPo).map .fv)), (1000, .box 153 ((encCf c).map .fv ++ [.fv (.int .i64 ch), .osl 900])), (900, .row 108 4 (O ++ (H.take k).map answerOwn).length (((O ++ (H.take k).map answerOwn).flatMap encFl).map .fv))]⟩) (fun k => k ≤ H.length) (fun k => H.length - k) 0 (by omega) ?_ ?_
    · try dsimp only
      rw [List.take_zero, List.map_nil, List.append_nil]
      exact tq [(900, .id 900)] []
    rintro k hk
    try dsimp only
    by_cases hlt : k < H.length
    case pos =>
      obtain ⟨x, hx⟩ : ∃ x, H[k]? = some x := ⟨_, List.getElem?_eq_getElem hlt⟩
      have hs : (O ++ (H.take (k + 1)).map answerOwn) = (O ++ (H.take k).map answerOwn) ++ [answerOwn x] := by
        rw [take_succ hx]
        simp
      have hOl2 : (O ++ (H.take k).map answerOwn).length ≤ 100080 := by
        rw [List.length_append, List.length_map, List.length_take]
        omega
      generalize (O ++ (H.take k).map answerOwn) = Q at *
      have u1 := aa Q (answerOwn x) (by omega)
      repeat' (first | (apply X.loE; (· exact aR); (· first | exact .eff (.bsliceFS rfl rfl rfl rfl rfl rfl) | (exact .eff (.loadO rfl rfl (readPl (i := k) (by omega) hx))) | exact .callL rfl rfl rfl (c1 _ _) rfl | exact bl (c1 _ _))) | refine X.loc ?_ | refine nx ?_ | refine X.cdT ?_ | refine X.cdF ?_ | refine cb ?_ ?_ | (refine cc ?_ ?_ <;> intro hcond) | (apply X.gsE; (· exact aR); (· exact aV); (· exact aW); (· intro hc; first | exact .eff (.bsliceFS rfl rfl rfl rfl rfl rfl) | (exact .eff (.loadO rfl rfl (readPl (i := k) (by omega) hx))) | exact .callG rfl rfl rfl (c1 _ _) rfl | exact bg (c1 _ _)); (· exact aR)) | refine rb ?_ | refine X.c0 (u1) ?_ | refine nd ?_ | refine dk ?_ | fail)
      refine ⟨k + 1, by omega, by omega, ?_⟩
      try dsimp only
      rw [hs]
      exact tq [(900, .id 44)] []
    case neg =>
      rw [List.take_of_length_le (by omega)]
      have hOl2 : (O ++ H.map answerOwn).length ≤ 100080 := by
        rw [List.length_append, List.length_map]
        omega
      generalize (O ++ H.map answerOwn) = Q at *
      repeat' (first | refine X.loc ?_ | refine nx ?_ | refine X.cdT ?_ | refine X.cdF ?_ | refine cb ?_ ?_ | (refine cc ?_ ?_ <;> intro hcond) | refine rb ?_ | refine nd ?_ | refine dk ?_ | fail)
      refine WP.loop (ι := Nat) (fun k => ⟨[(1, .optr 1 0), (2, .fn 135 [.optr 1 0]), (50, .fv (slOf encSw c.ss)), (51, .fv (.int .i64 c.ss.length)), (52, .fv (.int .i64 k))], [(1, .box 151 [.optr 1000 0]), (1000, .box 153 ((encCf c).map .fv ++ [.fv (.int .i64 ch), .osl 901])), (901, .row 108 4 (Q ++ (c.ss.take k).flatMap answerSw).length (((Q ++ (c.ss.take k).flatMap answerSw).flatMap encFl).map .fv))]⟩) (fun k => k ≤ c.ss.length) (fun k => c.ss.length - k) 0 (by omega) ?_ ?_
      · try dsimp only
        rw [List.take_zero, List.flatMap_nil, List.append_nil]
        exact tq [(901, .id 900)] []
      rintro k hk
      try dsimp only
      by_cases hlt : k < c.ss.length
      case pos =>
        obtain ⟨x, hx⟩ : ∃ x, c.ss[k]? = some x := ⟨_, List.getElem?_eq_getElem hlt⟩
        have hxr := hsr x (List.mem_of_getElem? hx)
        unfold SwR at hxr
        have hs : (Q ++ (c.ss.take (k + 1)).flatMap answerSw) = (Q ++ (c.ss.take k).flatMap answerSw) ++ answerSw x := by
          rw [take_succ hx]
          simp
        have hfl := flat_le (f := answerSw) (n := 1) (fun s => by unfold answerSw; split <;> simp) (c.ss.take k)
        have hOl3 : (Q ++ (c.ss.take k).flatMap answerSw).length ≤ 100100 := by
          rw [List.length_append]
          rw [List.length_take] at hfl
          omega
        generalize (Q ++ (c.ss.take k).flatMap answerSw) = U at *
        by_cases hg : x.gate = 0
        · rw [answerSw, if_pos hg, List.append_nil] at hs
          repeat' (first | refine X.loc ?_ | refine nx ?_ | refine X.cdT ?_ | refine X.cdF ?_ | refine cb ?_ ?_ | (refine cc ?_ ?_ <;> intro hcond) | refine rb ?_ | refine nd ?_ | refine dk ?_ | fail)
          refine ⟨k + 1, by omega, by omega, ?_⟩
          try dsimp only
          rw [hs]
          exact tq [] []
        · rw [answerSw, if_neg hg] at hs
          have u1 := ta U x.id x.gate (60000 + x.id) (by omega)
          repeat' (first | refine X.loc ?_ | refine nx ?_ | refine X.cdT ?_ | refine X.cdF ?_ | refine cb ?_ ?_ | (refine cc ?_ ?_ <;> intro hcond) | refine rb ?_ | refine X.c0 (u1) ?_ | refine nd ?_ | refine dk ?_ | fail)
          refine ⟨k + 1, by omega, by omega, ?_⟩
          try dsimp only
          rw [hs]
          exact tq [(901, .id 67)] []
      case neg =>
        rw [List.take_of_length_le (by omega)]
        generalize (Q ++ c.ss.flatMap answerSw) = U at *
        repeat' (first | refine X.loc ?_ | refine nx ?_ | refine X.cdT ?_ | refine X.cdF ?_ | refine cb ?_ ?_ | (refine cc ?_ ?_ <;> intro hcond) | refine rb ?_ | refine nd ?_ | refine dk ?_ | fail)
        exact rq ⟨[], [(1000, .box 153 ((encCf c).map .fv ++ [.fv (.int .i64 ch), .osl 7])), (7, .row 108 4 U.length ((U.flatMap encFl).map .fv))]⟩ (tq [(7, .id 901)] [])
set_option maxHeartbeats 8000000 in
theorem leaves_T (c : Cf) (ch : Int) (L : List Fl) (hps : c.ps.length ≤ 40) (hL : L.length ≤ 100000) : FunO Tryz.prog 102 [.optr 1000 0] [(1000, mkB c ch 1001), (1001, flR L)] (.tup []) [(1000, mkB c ch 7), (7, flR (L ++ leavesF c ch))] := by
  have c1 := is_T
  have c2 := to_T
  have aa := fun L f h => add_T c ch L f h
  rw [show leavesF c ch = c.ps.flatMap (leaveF ch) from rfl]
  unfold mkB flR mkC at aa
  refine FunO.bodyL tbl_ok Tryz.func102 rfl (by kernel_rfl) rfl rfl rfl ?_
  unfold mkB flR mkC
  repeat' (first | refine X.loc ?_ | refine nx ?_ | refine X.cdT ?_ | refine X.cdF ?_ | refine cb ?_ ?_ | (refine cc ?_ ?_ <;> intro hcond) | refine rb ?_ | refine nd ?_ | refine dk ?_ | fail)
  refine WP.loop (ι := Nat) (fun k => ⟨[(0, .optr 1000 0), (9, .fv (slOf encPo c.ps)), (10, .fv (.int .i64 c.ps.length)), (11, .fv (.int .i64 k))], [(1000, .box 153 ((encCf c).map .fv ++ [.fv (.int .i64 ch), .osl 900])), (900, .row 108 4 (L ++ (c.ps.take k).flatMap (leaveF ch)).length (((L ++ (c.ps.take k).flatMap (leaveF ch)).flatMap encFl).map .fv))]⟩) (fun k => k ≤ c.ps.length) (fun k => c.ps.length - k) 0 (by omega) ?_ ?_
  · try dsimp only
    rw [List.take_zero, List.flatMap_nil, List.append_nil]
    exact tq [(900, .id 1001)] []
  rintro k hk
  try dsimp only
  by_cases hlt : k < c.ps.length
  case neg =>
    rw [List.take_of_length_le (by omega)]
    generalize (L ++ c.ps.flatMap (leaveF ch)) = U at *
    repeat' (first | refine X.loc ?_ | refine nx ?_ | refine X.cdT ?_ | refine X.cdF ?_ | refine cb ?_ ?_ | (refine cc ?_ ?_ <;> intro hcond) | refine rb ?_ | refine nd ?_ | refine dk ?_ | fail)
    exact rq ⟨[], [(1000, .box 153 ((encCf c).map .fv ++ [.fv (.int .i64 ch), .osl 7])), (7, .row 108 4 U.length ((U.flatMap encFl).map .fv))]⟩ (tq [(7, .id 900)] [])
  case pos =>
    obtain ⟨x, hx⟩ : ∃ x, c.ps[k]? = some x := ⟨_, List.getElem?_eq_getElem hlt⟩
    have hs : (L ++ (c.ps.take (k + 1)).flatMap (leaveF ch)) = (L ++ (c.ps.take k).flatMap (leaveF ch)) ++ leaveF ch x := by
      rw [take_succ hx]
      simp
    have hfl := flat_le (f := leaveF ch) (n := 4) (fun s => by unfold leaveF; split; (· simp); (split <;> simp)) (c.ps.take k)
    have hOl : (L ++ (c.ps.take k).flatMap (leaveF ch)).length ≤ 100160 := by
      rw [List.length_append]
      rw [List.length_take] at hfl
      omega
    generalize (L ++ (c.ps.take k).flatMap (leaveF ch)) = U at *
    have cl := cloneOMx_T (leaveM x) (by simp [leaveM])
    have hM : (leaveM x).length = 2 := rfl
    by_cases h1 : x.ch = ch
    · rw [leaveF, if_pos h1] at hs
      have u1 := aa U (leave1 x) (by omega)
      have u2 := aa (U ++ [leave1 x]) (leave2 x) (by simp; omega)
      have u3 := aa (U ++ [leave1 x] ++ [leave2 x]) (leave3 x) (by simp; omega)
      have u4 := aa (U ++ [leave1 x] ++ [leave2 x] ++ [leave3 x]) (leave4 x) (by simp; omega)
      have hs2 : U ++ [leave1 x, leave2 x, leave3 x, leave4 x] = U ++ [leave1 x] ++ [leave2 x] ++ [leave3 x] ++ [leave4 x] := by simp
      rw [hs2] at hs
      repeat' (first | (apply X.loE; (· exact aR); (· first | exact .eff (.bsliceFS rfl rfl rfl rfl rfl rfl) | exact .callL rfl rfl rfl (by first | exact c1 _ _ | exact c2 _) rfl | exact bl (c1 _ _) | exact bl (c2 _))) | refine X.loc ?_ | refine nx ?_ | refine X.cdT ?_ | refine X.cdF ?_ | refine cb ?_ ?_ | (refine cc ?_ ?_ <;> intro hcond) | (apply X.gsE; (· exact aR); (· exact aV); (· exact aW); (· intro hc; first | exact .eff (.bsliceFS rfl rfl rfl rfl rfl rfl) | exact .callG rfl rfl rfl (by first | exact c1 _ _ | exact c2 _) rfl | exact bg (c1 _ _) | exact bg (c2 _)); (· exact aR)) | refine rb ?_ | refine X.c0 (cl) ?_ | refine X.c0 (u1) ?_ | refine X.c0 (u2) ?_ | refine X.c0 (u3) ?_ | refine X.c0 (u4) ?_ | refine nd ?_ | refine dk ?_ | fail)
      refine ⟨k + 1, by omega, by omega, ?_⟩
      try dsimp only
      rw [hs]
      exact tq [(900, .id 67)] []
    · by_cases h2 : 0 ≤ x.ch
      · rw [leaveF, if_neg h1, if_pos h2] at hs
        have u1 := aa U (leave5 x) (by omega)
        repeat' (first | (apply X.loE; (· exact aR); (· first | exact .eff (.bsliceFS rfl rfl rfl rfl rfl rfl) | exact .callL rfl rfl rfl (by first | exact c1 _ _ | exact c2 _) rfl | exact bl (c1 _ _) | exact bl (c2 _))) | refine X.loc ?_ | refine nx ?_ | refine X.cdT ?_ | refine X.cdF ?_ | refine cb ?_ ?_ | (refine cc ?_ ?_ <;> intro hcond) | (apply X.gsE; (· exact aR); (· exact aV); (· exact aW); (· intro hc; first | exact .eff (.bsliceFS rfl rfl rfl rfl rfl rfl) | exact .callG rfl rfl rfl (by first | exact c1 _ _ | exact c2 _) rfl | exact bg (c1 _ _) | exact bg (c2 _)); (· exact aR)) | refine rb ?_ | refine X.c0 (u1) ?_ | refine nd ?_ | refine dk ?_ | fail)
        refine ⟨k + 1, by omega, by omega, ?_⟩
        try dsimp only
        rw [hs]
        exact tq [(900, .id 81)] []
      · rw [leaveF, if_neg h1, if_neg h2, List.append_nil] at hs
        repeat' (first | (apply X.loE; (· exact aR); (· first | exact .eff (.bsliceFS rfl rfl rfl rfl rfl rfl) | exact .callL rfl rfl rfl (by first | exact c1 _ _ | exact c2 _) rfl | exact bl (c1 _ _) | exact bl (c2 _))) | refine X.loc ?_ | refine nx ?_ | refine X.cdT ?_ | refine X.cdF ?_ | refine cb ?_ ?_ | (refine cc ?_ ?_ <;> intro hcond) | (apply X.gsE; (· exact aR); (· exact aV); (· exact aW); (· intro hc; first | exact .eff (.bsliceFS rfl rfl rfl rfl rfl rfl) | exact .callG rfl rfl rfl (by first | exact c1 _ _ | exact c2 _) rfl | exact bg (c1 _ _) | exact bg (c2 _)); (· exact aR)) | refine rb ?_ | refine nd ?_ | refine dk ?_ | fail)
        refine ⟨k + 1, by omega, by omega, ?_⟩
        try dsimp only
        rw [hs]
        exact tq [] []
theorem leadq_T (s : Sw) (q : Po) : Fun Tryz.prog 137 [.agg ((encSw s).map .fv), .fptr (encPo q)] (.fv (.bool (s.id == q.sw))) := by
  refine Fun.body tbl_ok Tryz.func137 rfl (by kernel_rfl) rfl rfl rfl ?_
  repeat' (first | refine X.loc ?_ | refine nx ?_ | refine cb ?_ ?_ | (refine cc ?_ ?_ <;> intro hcond) | refine rb ?_ | refine nd ?_ | refine dk ?_ | fail)
  exact .f1 (.inl rfl) rfl rfl
theorem swAt_idx {c : Cf} {q : Po} (h : hasSw c.ss q.sw) : ∃ i : Nat, idxB (fun s : Sw => s.id == q.sw) c.ss = i ∧ c.ss[i]? = some (swAt c.ss q.sw) := by
  have h1 := idxB_any (fun s : Sw => s.id == q.sw) c.ss
  rw [hasSw_any.2 h] at h1
  have h2 : ¬ idxB (fun s : Sw => s.id == q.sw) c.ss < 0 := fun h => by cases h1.1 h
  obtain ⟨i, hi⟩ : ∃ i : Nat, idxB (fun s : Sw => s.id == q.sw) c.ss = i := ⟨_, (Int.toNat_of_nonneg (by omega)).symm⟩
  obtain ⟨x, hx, _, hf⟩ := idxB_at _ _ i hi
  exact ⟨i, hi, by rw [hx, swAt, hf]; rfl⟩
theorem flat_succ {α β : Type} {l : List α} {k : Nat} {x : α} (L : List β) (f : α → List β) (hx : l[k]? = some x) : L ++ (l.take (k + 1)).flatMap f = (L ++ (l.take k).flatMap f) ++ f x := by
  rw [take_succ hx]
  simp
theorem flat_len_le {α β : Type} {f : α → List β} {n m : Nat} (h : ∀ x, (f x).length ≤ n) {l : List α} (hl : l.length ≤ m) (k : Nat) : ((l.take k).flatMap f).length ≤ n * m := by
  have h1 := flat_le h (l.take k)
  have h2 : (l.take k).length ≤ m := by rw [List.length_take]; omega
  exact Nat.le_trans h1 (Nat.mul_le_mul_left n h2)
set_option maxHeartbeats 16000000 in
theorem leads_T (c : Cf) (ch : Int) (L : List Fl) (hc : CfOk c) (hL : L.length ≤ 100000) : FunO Tryz.prog 101 [.optr 1000 0] [(1000, mkB c ch 1001), (1001, flR L)] (.tup []) [(1000, mkB c ch 7), (7, flR (L ++ leadsF c (hereF c ch)))] := by
  have hps := hc.pl
  have hss := hc.sl
  have hsr := hc.sr
  have hpg := hc.pg
  have c1 := is_T
  have c2 := to_T
  have c3 := put_T
  have hh := fun L => here_T c ch L hps
  have hH : (hereF c ch).length ≤ 40 := Nat.le_trans (List.length_filter_le _ _) hps
  have aa := fun L f h => add_T c ch L f h
  unfold mkB flR mkC at aa
  unfold mkB flR mkC poR at hh
  refine FunO.bodyL tbl_ok Tryz.func101 rfl (by kernel_rfl) rfl rfl rfl ?_
  unfold mkB flR mkC
  repeat' (first | refine X.loc ?_ | refine nx ?_ | refine X.cdT ?_ | refine X.cdF ?_ | refine cb ?_ ?_ | (refine cc ?_ ?_ <;> intro hcond) | refine rb ?_ | refine nd ?_ | refine dk ?_ | fail)
  refine WP.loop (ι := Nat) (fun k => ⟨[(0, .optr 1000 0), (21, .fv (slOf encPo c.ps)), (22, .fv (.int .i64 c.ps.length)), (23, .fv (.int .i64 k))], [(1000, .box 153 ((encCf c).map .fv ++ [.fv (.int .i64 ch), .osl 900])), (900, .row 108 4 (L ++ (c.ps.take k).map leadPort).length (((L ++ (c.ps.take k).map leadPort).flatMap encFl).map .fv))]⟩) (fun k => k ≤ c.ps.length) (fun k => c.ps.length - k) 0 (by omega) ?_ ?_
  · try dsimp only
    rw [List.take_zero, List.map_nil, List.append_nil]
    exact tq [(900, .id 1001)] []
  rintro k hk
  try dsimp only
  by_cases hlt : k < c.ps.length
  case pos =>
    obtain ⟨x, hx⟩ : ∃ x, c.ps[k]? = some x := ⟨_, List.getElem?_eq_getElem hlt⟩
    have hs : (L ++ (c.ps.take (k + 1)).map leadPort) = (L ++ (c.ps.take k).map leadPort) ++ [leadPort x] := by
      rw [take_succ hx]
      simp
    have hOl : (L ++ (c.ps.take k).map leadPort).length ≤ 100040 := by
      rw [List.length_append, List.length_map, List.length_take]
      omega
    generalize (L ++ (c.ps.take k).map leadPort) = O at *
    have u1 := aa O (leadPort x) (by omega)
    repeat' (first | (apply X.loE; (· exact aR); (· first | exact .eff (.bsliceFS rfl rfl rfl rfl rfl rfl) | exact .callL rfl rfl rfl (by first | exact c1 _ _ | exact c2 _ | exact c3 _ _) rfl | exact bl (c1 _ _) | exact bl (c2 _) | exact bl (c3 _ _))) | refine X.loc ?_ | refine nx ?_ | refine X.cdT ?_ | refine X.cdF ?_ | refine cb ?_ ?_ | (refine cc ?_ ?_ <;> intro hcond) | (apply X.gsE; (· exact aR); (· exact aV); (· exact aW); (· intro hc; first | exact .eff (.bsliceFS rfl rfl rfl rfl rfl rfl) | exact .callG rfl rfl rfl (by first | exact c1 _ _ | exact c2 _ | exact c3 _ _) rfl | exact bg (c1 _ _) | exact bg (c2 _) | exact bg (c3 _ _)); (· exact aR)) | refine rb ?_ | refine X.c0 (u1) ?_ | refine nd ?_ | refine dk ?_ | fail)
    refine ⟨k + 1, by omega, by omega, ?_⟩
    try dsimp only
    rw [hs]
    exact tq [(900, .id 40)] []
  case neg =>
    rw [List.take_of_length_le (by omega)]
    have hOl : (L ++ c.ps.map leadPort).length ≤ 100040 := by
      rw [List.length_append, List.length_map]
      omega
    have hR : L ++ leadsF c (hereF c ch) = (L ++ c.ps.map leadPort) ++ ((hereF c ch).flatMap fun p => [leadSelf p, leadAll c p]) ++ c.ss.flatMap (leadSw c) := by simp [leadsF]
    rw [hR]
    clear hR
    generalize (L ++ c.ps.map leadPort) = O at *
    have h1 := hh O
    have e1 : (c.ps.filter fun x => !(x.ch != ch)) = hereF c ch := rfl
    rw [e1] at h1
    generalize hereF c ch = H at *
    repeat' (first | refine X.loc ?_ | refine nx ?_ | refine X.cdT ?_ | refine X.cdF ?_ | refine cb ?_ ?_ | (refine cc ?_ ?_ <;> intro hcond) | refine rb ?_ | refine X.c0 (h1) ?_ | refine nd ?_ | refine dk ?_ | fail)
    refine WP.loop (ι := Nat) (fun k => ⟨[(0, .optr 1000 0), (43, .osl 43), (44, .fv (.int .i64 H.length)), (45, .fv (.int .i64 k))], [(43, .row 69 5 H.length ((H.flatMap encPo).map .fv)), (1000, .box 153 ((encCf c).map .fv ++ [.fv (.int .i64 ch), .osl 900])), (900, .row 108 4 (O ++ (H.take k).flatMap fun p => [leadSelf p, leadAll c p]).length (((O ++ (H.take k).flatMap fun p => [leadSelf p, leadAll c p]).flatMap encFl).map .fv))]⟩) (fun k => k ≤ H.length) (fun k => H.length - k) 0 (by omega) ?_ ?_
    · try dsimp only
      rw [List.take_zero, List.flatMap_nil, List.append_nil]
      exact tq [(900, .id 900)] []
    rintro k hk
    try dsimp only
    by_cases hlt : k < H.length
    case pos =>
      obtain ⟨x, hx⟩ : ∃ x, H[k]? = some x := ⟨_, List.getElem?_eq_getElem hlt⟩
      have hs := flat_succ O (fun p => [leadSelf p, leadAll c p]) hx
      have hfl := flat_len_le (f := fun p => [leadSelf p, leadAll c p]) (n := 2) (fun _ => by simp) hH k
      have hOl2 : (O ++ (H.take k).flatMap fun p => [leadSelf p, leadAll c p]).length ≤ 100120 := by
        rw [List.length_append]
        omega
      try dsimp only at hs
      generalize (O ++ (H.take k).flatMap fun p => [leadSelf p, leadAll c p]) = Q at *
      have u1 := aa Q (leadSelf x) (by omega)
      repeat' (first | (apply X.loE; (· exact aR); (· first | exact .eff (.bsliceFS rfl rfl rfl rfl rfl rfl) | (exact .eff (.loadO rfl rfl (readPl (i := k) (by omega) hx))) | exact .callL rfl rfl rfl (c1 _ _) rfl | exact bl (c1 _ _))) | refine X.loc ?_ | refine nx ?_ | refine X.cdT ?_ | refine X.cdF ?_ | refine cb ?_ ?_ | (refine cc ?_ ?_ <;> intro hcond) | (apply X.gsE; (· exact aR); (· exact aV); (· exact aW); (· intro hc; first | exact .eff (.bsliceFS rfl rfl rfl rfl rfl rfl) | (exact .eff (.loadO rfl rfl (readPl (i := k) (by omega) hx))) | exact .callG rfl rfl rfl (c1 _ _) rfl | exact bg (c1 _ _)); (· exact aR)) | refine rb ?_ | refine X.c0 (u1) ?_ | refine nd ?_ | refine dk ?_ | fail)
      refine WP.loop (ι := Nat) (fun j => ⟨[(0, .optr 1000 0), (43, .osl 43), (44, .fv (.int .i64 H.length)), (45, .fv (.int .i64 k)), (5, .optr 5 0), (6, .osl 901), (62, .fv (slOf encPo c.ps)), (63, .fv (.int .i64 c.ps.length)), (64, .fv (.int .i64 j))], [(43, .row 69 5 H.length ((H.flatMap encPo).map .fv)), (1000, .box 153 ((encCf c).map .fv ++ [.fv (.int .i64 ch), .osl 902])), (902, .row 108 4 (Q ++ [leadSelf x]).length (((Q ++ [leadSelf x]).flatMap encFl).map .fv)), (5, .box 69 ((encPo x).map .fv)), (901, .row 175 3 ((c.ps.take j).flatMap (floodQ x)).length ((((c.ps.take j).flatMap (floodQ x)).flatMap encDx).map .fv))]⟩) (fun j => j ≤ c.ps.length) (fun j => c.ps.length - j) 0 (by omega) ?_ ?_
      · try dsimp only
        exact tq [(901, .nil), (902, .id 57)] []
      rintro j hj
      try dsimp only
      have hDl := flat_len_le (f := floodQ x) (n := 2) (fun q => by unfold floodQ; split <;> simp) hps j
      by_cases hjl : j < c.ps.length
      case pos =>
        obtain ⟨y, hy⟩ : ∃ y, c.ps[j]? = some y := ⟨_, List.getElem?_eq_getElem hjl⟩
        have hsd := flat_succ [] (floodQ x) hy
        rw [List.nil_append, List.nil_append] at hsd
        generalize (c.ps.take j).flatMap (floodQ x) = D at *
        by_cases hq : y.sw = x.sw ∧ y.id ≠ x.id ∧ 0 ≤ y.ch
        · rw [floodQ, if_pos hq] at hsd
          repeat' (first | (apply X.loE; (· exact aR); (· first | exact .eff (.bsliceFS rfl rfl rfl rfl rfl rfl) | exact .callL rfl rfl rfl (c3 _ _) rfl | exact bl (c3 _ _))) | refine X.loc ?_ | refine nx ?_ | refine X.cdT ?_ | refine X.cdF ?_ | refine cb ?_ ?_ | (refine cc ?_ ?_ <;> intro hcond) | (apply X.gsE; (· exact aR); (· exact aV); (· exact aW); (· intro hc; first | exact .eff (.bsliceFS rfl rfl rfl rfl rfl rfl) | exact .callG rfl rfl rfl (c3 _ _) rfl | exact bg (c3 _ _)); (· exact aR)) | refine rb ?_ | refine nd ?_ | refine dk ?_ | fail)
          refine ⟨j + 1, by omega, by omega, ?_⟩
          try dsimp only
          rw [hsd]
          refine St.to [(901, .id 93)] [] rfl rfl ?_ ?_ <;> (repeat' (first | exact tA | refine t1 ?_ | exact tB | refine t2 ?_ ?_ | refine t3 ?_ | refine t4 ?_ ?_ | refine .ofEq ?_ | refine OB.To.cut rfl rfl ?_ ?_ ?_ ?_ | refine OB.To.box rfl rfl ?_ | refine ⟨⟨_, rfl, ?_⟩, ?_⟩ | refine ⟨?_, ?_⟩ | fail))
          all_goals first | omega | (simp; done) | (simp only [List.flatMap_append, List.map_append]; rfl)
        · rw [floodQ, if_neg hq, List.append_nil] at hsd
          repeat' (first | (apply X.loE; (· exact aR); (· first | exact .eff (.bsliceFS rfl rfl rfl rfl rfl rfl) | exact .callL rfl rfl rfl (c3 _ _) rfl | exact bl (c3 _ _))) | refine X.loc ?_ | refine nx ?_ | refine X.cdT ?_ | refine X.cdF ?_ | refine cb ?_ ?_ | (refine cc ?_ ?_ <;> intro hcond) | (apply X.gsE; (· exact aR); (· exact aV); (· exact aW); (· intro hc; first | exact .eff (.bsliceFS rfl rfl rfl rfl rfl rfl) | exact .callG rfl rfl rfl (c3 _ _) rfl | exact bg (c3 _ _)); (· exact aR)) | refine rb ?_ | refine nd ?_ | refine dk ?_ | fail)
          refine ⟨j + 1, by omega, by omega, ?_⟩
          try dsimp only
          rw [hsd]
          exact tq [] []
      case neg =>
        rw [List.take_of_length_le (by omega)] at hDl ⊢
        have eA : leadAll c x = ⟨3, 2, [⟨0, 65535, x.id⟩, ⟨1, 65535, 65535⟩], c.ps.flatMap (floodQ x)⟩ := rfl
        have u2 := aa (Q ++ [leadSelf x]) (leadAll c x) (by simp; omega)
        rw [eA] at u2 hs
        generalize c.ps.flatMap (floodQ x) = D at *
        repeat' (first | (apply X.loE; (· exact aR); (· first | exact .eff (.bsliceFS rfl rfl rfl rfl rfl rfl) | exact .callL rfl rfl rfl (c1 _ _) rfl | exact bl (c1 _ _))) | refine X.loc ?_ | refine nx ?_ | refine X.cdT ?_ | refine X.cdF ?_ | refine cb ?_ ?_ | (refine cc ?_ ?_ <;> intro hcond) | (apply X.gsE; (· exact aR); (· exact aV); (· exact aW); (· intro hc; first | exact .eff (.bsliceFS rfl rfl rfl rfl rfl rfl) | exact .callG rfl rfl rfl (c1 _ _) rfl | exact bg (c1 _ _)); (· exact aR)) | refine rb ?_ | refine X.c0 (u2) ?_ | refine nd ?_ | refine dk ?_ | fail)
        refine ⟨k + 1, by omega, by omega, ?_⟩
        try dsimp only
        rw [hs, show ∀ a b : Fl, Q ++ [a, b] = Q ++ [a] ++ [b] from fun a b => by simp]
        exact tq [(900, .id 102)] []
    case neg =>
      rw [List.take_of_length_le (by omega)]
      have hfl := flat_le (f := fun p => [leadSelf p, leadAll c p]) (n := 2) (fun _ => by simp) H
      have hOl2 : (O ++ H.flatMap fun p => [leadSelf p, leadAll c p]).length ≤ 100120 := by
        rw [List.length_append]
        omega
      generalize (O ++ H.flatMap fun p => [leadSelf p, leadAll c p]) = Q at *
      have hP : ∀ (s : Sw) (p : Po), (leadSwP c s p).length ≤ 1 := fun s p => by unfold leadSwP; split <;> simp
      have hS : ∀ s : Sw, (leadSw c s).length ≤ 42 := fun s => by
        have := flat_le (hP s) c.ps
        unfold leadSw
        split
        · simp
        · rw [List.length_append]
          show 2 + _ ≤ 42
          omega
      repeat' (first | refine X.loc ?_ | refine nx ?_ | refine X.cdT ?_ | refine X.cdF ?_ | refine cb ?_ ?_ | (refine cc ?_ ?_ <;> intro hcond) | refine rb ?_ | refine nd ?_ | refine dk ?_ | fail)
      refine WP.loop (ι := Nat) (fun k => ⟨[(0, .optr 1000 0), (108, .fv (slOf encSw c.ss)), (109, .fv (.int .i64 c.ss.length)), (110, .fv (.int .i64 k))], [(1000, .box 153 ((encCf c).map .fv ++ [.fv (.int .i64 ch), .osl 903])), (903, .row 108 4 (Q ++ (c.ss.take k).flatMap (leadSw c)).length (((Q ++ (c.ss.take k).flatMap (leadSw c)).flatMap encFl).map .fv))]⟩) (fun k => k ≤ c.ss.length) (fun k => c.ss.length - k) 0 (by omega) ?_ ?_
      · try dsimp only
        rw [List.take_zero, List.flatMap_nil, List.append_nil]
        exact tq [(903, .id 900)] []
      rintro k hk
      try dsimp only
      by_cases hlt : k < c.ss.length
      case neg =>
        rw [List.take_of_length_le (by omega)]
        generalize (Q ++ c.ss.flatMap (leadSw c)) = U at *
        repeat' (first | refine X.loc ?_ | refine nx ?_ | refine X.cdT ?_ | refine X.cdF ?_ | refine cb ?_ ?_ | (refine cc ?_ ?_ <;> intro hcond) | refine rb ?_ | refine nd ?_ | refine dk ?_ | fail)
        exact rq ⟨[], [(1000, .box 153 ((encCf c).map .fv ++ [.fv (.int .i64 ch), .osl 7])), (7, .row 108 4 U.length ((U.flatMap encFl).map .fv))]⟩ (tq [(7, .id 903)] [])
      case pos =>
        obtain ⟨x, hx⟩ : ∃ x, c.ss[k]? = some x := ⟨_, List.getElem?_eq_getElem hlt⟩
        have hxr := hsr x (List.mem_of_getElem? hx)
        unfold SwR at hxr
        have hs := flat_succ Q (leadSw c) hx
        have hfl2 := flat_len_le (f := leadSw c) hS hss k
        have hOl3 : (Q ++ (c.ss.take k).flatMap (leadSw c)).length ≤ 100700 := by
          rw [List.length_append]
          omega
        generalize (Q ++ (c.ss.take k).flatMap (leadSw c)) = U at *
        by_cases hg : x.gate = 0
        · rw [leadSw, if_pos hg, List.append_nil] at hs
          repeat' (first | refine X.loc ?_ | refine nx ?_ | refine X.cdT ?_ | refine X.cdF ?_ | refine cb ?_ ?_ | (refine cc ?_ ?_ <;> intro hcond) | refine rb ?_ | refine nd ?_ | refine dk ?_ | fail)
          refine ⟨k + 1, by omega, by omega, ?_⟩
          try dsimp only
          rw [hs]
          exact tq [] []
        · rw [leadSw, if_neg hg, ← List.append_assoc] at hs
          repeat' (first | (apply X.loE; (· exact aR); (· first | exact .eff (.bsliceFS rfl rfl rfl rfl rfl rfl) | exact .callL rfl rfl rfl (c1 _ _) rfl | exact bl (c1 _ _))) | refine X.loc ?_ | refine nx ?_ | refine X.cdT ?_ | refine X.cdF ?_ | refine cb ?_ ?_ | (refine cc ?_ ?_ <;> intro hcond) | (apply X.gsE; (· exact aR); (· exact aV); (· exact aW); (· intro hc; first | exact .eff (.bsliceFS rfl rfl rfl rfl rfl rfl) | exact .callG rfl rfl rfl (c1 _ _) rfl | exact bg (c1 _ _)); (· exact aR)) | refine rb ?_ | refine nd ?_ | refine dk ?_ | fail)
          refine WP.loop (ι := Nat) (fun j => ⟨[(0, .optr 1000 0), (108, .fv (slOf encSw c.ss)), (109, .fv (.int .i64 c.ss.length)), (110, .fv (.int .i64 k)), (10, .optr 10 0), (11, .fv (slOf encMx (routerM x))), (125, .fv (.int .i64 j))], [(1000, .box 153 ((encCf c).map .fv ++ [.fv (.int .i64 ch), .osl 904])), (904, .row 108 4 (U ++ (List.range j).map fun n : Nat => leadTtl x n).length (((U ++ (List.range j).map fun n : Nat => leadTtl x n).flatMap encFl).map .fv)), (10, .box 44 ((encSw x).map .fv))]⟩) (fun j => j ≤ 2) (fun j => 2 - j) 0 (by omega) ?_ ?_
          · try dsimp only
            rw [List.range_zero, List.map_nil, List.append_nil]
            exact tq [(904, .id 903)] []
          rintro j hj
          try dsimp only
          have cl := cloneOMx_T (routerM x) (by simp [routerM])
          have hM : (routerM x).length = 2 := rfl
          by_cases hj2 : j < 2
          case pos =>
            have hrs : (U ++ (List.range (j + 1)).map fun n : Nat => leadTtl x n) = (U ++ (List.range j).map fun n : Nat => leadTtl x n) ++ [leadTtl x j] := by
              rw [List.range_succ]
              simp
            have hrl : (U ++ (List.range j).map fun n : Nat => leadTtl x n).length ≤ 100702 := by
              rw [List.length_append, List.length_map, List.length_range]
              omega
            generalize (U ++ (List.range j).map fun n : Nat => leadTtl x n) = V at *
            have u1 := aa V (leadTtl x j) (by omega)
            repeat' (first | (apply X.loE; (· exact aR); (· first | exact .eff (.bsliceFS rfl rfl rfl rfl rfl rfl) | exact .callL rfl rfl rfl (c1 _ _) rfl | exact bl (c1 _ _))) | refine X.loc ?_ | refine nx ?_ | refine X.cdT ?_ | refine X.cdF ?_ | refine cb ?_ ?_ | (refine cc ?_ ?_ <;> intro hcond) | (apply X.gsE; (· exact aR); (· exact aV); (· exact aW); (· intro hc; first | exact .eff (.bsliceFS rfl rfl rfl rfl rfl rfl) | exact .callG rfl rfl rfl (c1 _ _) rfl | exact bg (c1 _ _)); (· exact aR)) | refine rb ?_ | refine X.c0 (cl) ?_ | refine X.c0 (u1) ?_ | refine nd ?_ | refine dk ?_ | fail)
            refine ⟨j + 1, by omega, by omega, ?_⟩
            try dsimp only
            rw [hrs]
            exact tq [(904, .id 135)] []
          case neg =>
            obtain rfl : j = 2 := by omega
            have hr2 : (U ++ (List.range 2).map fun n : Nat => leadTtl x n) = U ++ [leadTtl x 0, leadTtl x 1] := rfl
            rw [hr2]
            have hVl : (U ++ [leadTtl x 0, leadTtl x 1]).length ≤ 100702 := by
              rw [List.length_append]
              simp
              omega
            generalize (U ++ [leadTtl x 0, leadTtl x 1]) = V at *
            repeat' (first | refine X.loc ?_ | refine nx ?_ | refine X.cdT ?_ | refine X.cdF ?_ | refine cb ?_ ?_ | (refine cc ?_ ?_ <;> intro hcond) | refine rb ?_ | refine nd ?_ | refine dk ?_ | fail)
            refine WP.loop (ι := Nat) (fun j => ⟨[(0, .optr 1000 0), (108, .fv (slOf encSw c.ss)), (109, .fv (.int .i64 c.ss.length)), (110, .fv (.int .i64 k)), (10, .optr 10 0), (11, .fv (slOf encMx (routerM x))), (141, .fv (slOf encPo c.ps)), (142, .fv (.int .i64 c.ps.length)), (143, .fv (.int .i64 j))], [(1000, .box 153 ((encCf c).map .fv ++ [.fv (.int .i64 ch), .osl 905])), (905, .row 108 4 (V ++ (c.ps.take j).flatMap (leadSwP c x)).length (((V ++ (c.ps.take j).flatMap (leadSwP c x)).flatMap encFl).map .fv)), (10, .box 44 ((encSw x).map .fv))]⟩) (fun j => j ≤ c.ps.length) (fun j => c.ps.length - j) 0 (by omega) ?_ ?_
            · try dsimp only
              rw [List.take_zero, List.flatMap_nil, List.append_nil]
              exact tq [(905, .id 904)] []
            rintro j hj
            try dsimp only
            by_cases hjl : j < c.ps.length
            case neg =>
              rw [List.take_of_length_le (by omega)]
              generalize (V ++ c.ps.flatMap (leadSwP c x)) = V2 at *
              repeat' (first | refine X.loc ?_ | refine nx ?_ | refine X.cdT ?_ | refine X.cdF ?_ | refine cb ?_ ?_ | (refine cc ?_ ?_ <;> intro hcond) | refine rb ?_ | refine nd ?_ | refine dk ?_ | fail)
              refine ⟨k + 1, by omega, by omega, ?_⟩
              try dsimp only
              rw [hs]
              exact tq [(903, .id 905)] []
            case pos =>
              obtain ⟨y, hy⟩ : ∃ y, c.ps[j]? = some y := ⟨_, List.getElem?_eq_getElem hjl⟩
              have hsw := (hpg y (List.mem_of_getElem? hy)).2.1
              obtain ⟨i, hi, hsi⟩ := swAt_idx hsw
              have hxt := hsr _ (List.mem_of_getElem? hsi)
              have ci := indexSw_T c.ss 137 [.fptr (encPo y)] (fun s => s.id == y.sw) (by omega) (fun s _ => leadq_T s y)
              rw [hi] at ci
              have hvs := flat_succ V (leadSwP c x) hy
              have hvl := flat_len_le (f := leadSwP c x) (hP x) hps j
              have hVl2 : (V ++ (c.ps.take j).flatMap (leadSwP c x)).length ≤ 100742 := by
                rw [List.length_append]
                omega
              have hLP : leadSwP c x y = if (swAt c.ss y.sw).tenant = x.tenant ∧ (swAt c.ss y.sw).gate ≠ 0 then [leadTo x y (swAt c.ss y.sw)] else [] := rfl
              rw [hLP] at hvs
              generalize (V ++ (c.ps.take j).flatMap (leadSwP c x)) = V3 at *
              generalize swAt c.ss y.sw = t at *
              unfold SwR at hxt
              by_cases ht : t.tenant = x.tenant ∧ t.gate ≠ 0
              · rw [if_pos ht] at hvs
                have u1 := aa V3 (leadTo x y t) (by omega)
                repeat' (first | (apply X.loE; (· exact aR); (· first | exact .eff (.bsliceFS rfl rfl rfl rfl rfl rfl) | exact .callL rfl rfl rfl (by first | exact c1 _ _ | exact c2 _ | exact c3 _ _ | exact ci) rfl | exact bl (c1 _ _) | exact bl (c2 _) | exact bl (c3 _ _) | exact bl (ci))) | refine X.loc ?_ | refine nx ?_ | refine X.cdT ?_ | refine X.cdF ?_ | refine cb ?_ ?_ | (refine cc ?_ ?_ <;> intro hcond) | (apply X.gsE; (· exact aR); (· exact aV); (· exact aW); (· intro hc; first | exact .eff (.bsliceFS rfl rfl rfl rfl rfl rfl) | exact .callG rfl rfl rfl (by first | exact c1 _ _ | exact c2 _ | exact c3 _ _ | exact ci) rfl | exact bg (c1 _ _) | exact bg (c2 _) | exact bg (c3 _ _) | exact bg (ci)); (· exact aR)) | refine rb ?_ | refine X.c0 (cl) ?_ | refine X.c0 (u1) ?_ | refine nd ?_ | refine dk ?_ | fail)
                refine ⟨j + 1, by omega, by omega, ?_⟩
                try dsimp only
                rw [hvs]
                exact tq [(905, .id 196)] []
              · rw [if_neg ht, List.append_nil] at hvs
                repeat' (first | (apply X.loE; (· exact aR); (· first | exact .eff (.bsliceFS rfl rfl rfl rfl rfl rfl) | exact .callL rfl rfl rfl (ci) rfl | exact bl (ci))) | refine X.loc ?_ | refine nx ?_ | refine X.cdT ?_ | refine X.cdF ?_ | refine cb ?_ ?_ | (refine cc ?_ ?_ <;> intro hcond) | (apply X.gsE; (· exact aR); (· exact aV); (· exact aW); (· intro hc; first | exact .eff (.bsliceFS rfl rfl rfl rfl rfl rfl) | exact .callG rfl rfl rfl (ci) rfl | exact bg (ci)); (· exact aR)) | refine rb ?_ | refine nd ?_ | refine dk ?_ | fail)
                refine ⟨j + 1, by omega, by omega, ?_⟩
                try dsimp only
                rw [hvs]
                exact tq [] []
theorem flS_ok {g : Fl} (h : flFault g = 0) : FlS g := ⟨(flMay h).ms, (flMay h).ds⟩
theorem fit_of {g : Fl} (h : FlS g) : g.Fit := by
  unfold Fl.Fit
  have := h.1
  have := h.2
  omega
theorem all_mem {c : Cf} {ch : Int} {g : Fl} : g ∈ allF c ch ↔ g ∈ compF_ c ch := by rw [compF_, sortedF_mem]
theorem comp_room {c : Cf} (hc : CfOk c) {ch : Int} (hch : 0 ≤ ch ∧ ch ≤ 5) : Room (compF_ c ch) := ⟨fun g hg => fit_of (flS_ok (comp_ok hc hch hg)), by have := comp_len (ch := ch) hc; omega⟩
set_option maxHeartbeats 8000000 in
theorem compile0_T (c : Cf) (ch : Int) (hl : c.Small) : FunO Tryz.prog 71 [.agg ((encCf c).map .fv), .fv (.int .i64 ch)] [] (.tup [.osl 7, .fv (.int .i64 (compE c ch))]) [(7, .row 108 4 (compR c ch).length (((compR c ch).flatMap encFl).map .fv))] := by
  have ck := confCheck_T c hl
  refine FunO.bodyL tbl_ok Tryz.func71 rfl (by kernel_rfl) rfl rfl rfl ?_
  unfold compR compE
  cases hm : cfMay c with
  | false =>
    rw [hm, if_neg (by decide)] at ck
    rw [if_pos rfl, if_pos (by decide)]
    repeat' (first | (apply X.loE; (· exact aR); (· first | exact .callL rfl rfl rfl (ck) rfl | exact bl (ck))) | refine X.loc ?_ | refine nx ?_ | refine X.cdT ?_ | refine X.cdF ?_ | refine cb ?_ ?_ | (refine cc ?_ ?_ <;> intro hcond) | (apply X.gsE; (· exact aR); (· exact aV); (· exact aW); (· intro hc; first | exact .callG rfl rfl rfl (ck) rfl | exact bg (ck)); (· exact aR)) | refine rb ?_ | refine nd ?_ | refine dk ?_ | fail)
    exact rq ⟨[(4, .osl 7), (5, .fv (.int .i64 8))], [(7, .row 108 4 0 [])]⟩ (tq [(7, .nil)] [])
  | true =>
    rw [hm, if_pos rfl] at ck
    rw [if_neg (by decide)]
    have hc := cfMay_iff.1 hm
    by_cases hch : ch < 0 ∨ 6 ≤ ch
    · rw [if_pos hch, if_pos (by decide)]
      repeat' (first | (apply X.loE; (· exact aR); (· first | exact .callL rfl rfl rfl (ck) rfl | exact bl (ck))) | refine X.loc ?_ | refine nx ?_ | refine X.cdT ?_ | refine X.cdF ?_ | refine cb ?_ ?_ | (refine cc ?_ ?_ <;> intro hcond) | (apply X.gsE; (· exact aR); (· exact aV); (· exact aW); (· intro hc; first | exact .callG rfl rfl rfl (ck) rfl | exact bg (ck)); (· exact aR)) | refine rb ?_ | refine nd ?_ | refine dk ?_ | fail)
      exact rq ⟨[(4, .osl 7), (5, .fv (.int .i64 2))], [(7, .row 108 4 0 [])]⟩ (tq [(7, .nil)] [])
    · rw [if_neg hch, if_neg (by decide)]
      have hlen := all_len (ch := ch) hc
      have hfit : FitL (allF c ch) := fun g hg => fit_of (flS_ok (comp_ok hc (by omega) (all_mem.1 hg)))
      have eA : allF c ch = ([] ++ entersF (hereF c ch)) ++ rulesF c 1 3 true ++ answersF c (hereF c ch) ++ leadsF c (hereF c ch) ++ leavesF c ch ++ rulesF c 6 7 false := rfl
      have so := sort_T (allF c ch) hfit (by omega)
      have hcomp : compF_ c ch = sortedF (allF c ch) := rfl
      rw [hcomp]
      generalize sortedF (allF c ch) = Z at *
      rw [eA] at hlen so
      clear eA hfit hcomp
      have u1 := enters_T c ch [] hc.pl (by simp)
      generalize [] ++ entersF (hereF c ch) = L1 at *
      have k1 : L1.length ≤ 1100 := by simp only [List.length_append] at hlen; omega
      have u2 := rules_T c ch L1 1 3 true hc (by omega)
      generalize L1 ++ rulesF c 1 3 true = L2 at *
      have k2 : L2.length ≤ 1100 := by simp only [List.length_append] at hlen; omega
      have u3 := answers_T c ch L2 hc (by omega)
      generalize L2 ++ answersF c (hereF c ch) = L3 at *
      have k3 : L3.length ≤ 1100 := by simp only [List.length_append] at hlen; omega
      have u4 := leads_T c ch L3 hc (by omega)
      generalize L3 ++ leadsF c (hereF c ch) = L4 at *
      have k4 : L4.length ≤ 1100 := by simp only [List.length_append] at hlen; omega
      have u5 := leaves_T c ch L4 hc.pl (by omega)
      generalize L4 ++ leavesF c ch = L5 at *
      have k5 : L5.length ≤ 1100 := by simp only [List.length_append] at hlen; omega
      have u6 := rules_T c ch L5 6 7 false hc (by omega)
      generalize L5 ++ rulesF c 6 7 false = L6 at *
      unfold mkB flR mkC at u1 u2 u3 u4 u5 u6
      repeat' (first | (apply X.loE; (· exact aR); (· first | exact .callL rfl rfl rfl (ck) rfl | exact bl (ck))) | refine X.loc ?_ | refine nx ?_ | refine X.cdT ?_ | refine X.cdF ?_ | refine cb ?_ ?_ | (refine cc ?_ ?_ <;> intro hcond) | (apply X.gsE; (· exact aR); (· exact aV); (· exact aW); (· intro hc; first | exact .callG rfl rfl rfl (ck) rfl | exact bg (ck)); (· exact aR)) | refine rb ?_ | refine X.c0 (u1) ?_ | refine X.c0 (u2) ?_ | refine X.c0 (u3) ?_ | refine X.c0 (u4) ?_ | refine X.c0 (u5) ?_ | refine X.c0 (u6) ?_ | refine X.c0 (so) ?_ | refine nd ?_ | refine dk ?_ | fail)
      exact rq ⟨[(4, .osl 7), (5, .fv (.int .i64 0))], [(7, .row 108 4 Z.length ((Z.flatMap encFl).map .fv))]⟩ (tq [(7, .id 39)] [])
theorem compile_T (c : Cf) (ch : Int) (hl : c.Small) : Fun Tryz.prog 71 [.agg ((encCf c).map .fv), .fv (.int .i64 ch)] (.tup [.fv (slOf encFl (compR c ch)), .fv (.int .i64 (compE c ch))]) :=
  (compile0_T c ch hl).froz [7] (.tup (.cons (.frz rfl rfl rfl) (.cons (.le (.refl _) rfl) .nil)))
theorem CfOk.small {c : Cf} (h : CfOk c) : c.Small := ⟨by have := h.sl; omega, by have := h.pl; omega, by have := h.al; omega⟩
theorem compE_ok {c : Cf} (h : CfOk c) {ch : Int} (hch : 0 ≤ ch ∧ ch ≤ 5) : compE c ch = 0 := by
  unfold compE
  rw [if_neg (by rw [cfMay_iff.2 h]; simp), if_neg (by omega)]
theorem compR_ok {c : Cf} (h : CfOk c) {ch : Int} (hch : 0 ≤ ch ∧ ch ≤ 5) : compR c ch = compF_ c ch := by
  unfold compR
  rw [compE_ok h hch, if_neg (by decide)]
end Go.Proofs.YtmidechdlbcepaaGreat