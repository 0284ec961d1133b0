import Derived.Test.YtmidechdlbcepaaGreatPack30
import Derived.Test.YtmidechdlbcepaaGreatPack21
import Derived.Test.YtmidechdlbcepaaGreatPack24
import Derived.Test.YtmidechdlbcepaaGreatPack29
import Derived.Test.YtmidechdlbcepaaGreatPack27
import Derived.Test.YtmidechdlbcepaaGreatPack31
import Derived.Test.YtmidechdlbcepaaGreatPack22
import Derived.Test.YtmidechdlbcepaaGreatPack23
set_option linter.unusedSimpArgs false
set_option linter.unusedVariables false
namespace Go.Proofs.YtmidechdlbcepaaGreat
open Go.RowKit
set_option maxRecDepth 100000

set_option maxHeartbeats 8000000 in
theorem leaves_T (c : Cf) (ch : Int) (L : List Fl) (hps : c.ps.length ≤ 40) (hL : L.length ≤ 100000) : FunO Tryz.prog 102 [.optr 1000 0] [(1000, mkB c ch 1001), (1001, flR L)] (.tup []) [(1000, mkB c ch 7), (7, flR (L ++ leavesF c ch))] := by
  have c1 := is_T
  have c2 := to_T
  have aa := fun L f h => add_T c ch L f h
  rw [show leavesF c ch = c.ps.flatMap (leaveF ch) from rfl]
  unfold mkB flR mkC at aa
  refine FunO.bodyL tbl_ok Tryz.func102 rfl (by kernel_rfl) rfl rfl rfl ?_
  unfold mkB flR mkC
  repeat' (first | refine X.loc ?_ | refine nx ?_ | refine X.cdT ?_ | refine X.cdF ?_ | (refine WP.condBit rfl ?_ ?_) | (refine WP.cond rfl ?_ ?_ <;> intro hcond) | refine rb ?_ | refine nd ?_ | refine dk ?_ | fail)
  refine WP.loop (ι := Nat) (fun k => ⟨[(0, .optr 1000 0), (9, .fv (slOf encPo c.ps)), (10, .fv (.int .i64 c.ps.length)), (11, .fv (.int .i64 k))], [(1000, .box 153 ((encCf c).map .fv ++ [.fv (.int .i64 ch), .osl 900])), (900, .row 108 4 (L ++ (c.ps.take k).flatMap (leaveF ch)).length (((L ++ (c.ps.take k).flatMap (leaveF ch)).flatMap encFl).map .fv))]⟩) (fun k => k ≤ c.ps.length) (fun k => c.ps.length - k) 0 (by omega) ?_ ?_
  · try dsimp only
    rw [List.take_zero, List.flatMap_nil, List.append_nil]
    refine St.to [(900, .id 1001)] [] rfl rfl ?_ ?_ <;> (repeat' (first | exact tA | refine t1 ?_ | exact tB | refine t2 ?_ ?_ | refine t3 ?_ | refine t4 ?_ ?_ | refine .ofEq ?_ | refine OB.To.cut rfl rfl ?_ ?_ ?_ ?_ | refine OB.To.box rfl rfl ?_ | refine ⟨⟨_, rfl, ?_⟩, ?_⟩ | refine ⟨?_, ?_⟩ | fail))
  rintro k hk
  try dsimp only
  by_cases hlt : k < c.ps.length
  case neg =>
    rw [List.take_of_length_le (by omega)]
    generalize (L ++ c.ps.flatMap (leaveF ch)) = U at *
    repeat' (first | refine X.loc ?_ | refine nx ?_ | refine X.cdT ?_ | refine X.cdF ?_ | (refine WP.condBit rfl ?_ ?_) | (refine WP.cond rfl ?_ ?_ <;> intro hcond) | refine rb ?_ | refine nd ?_ | refine dk ?_ | fail)
    refine .ofL (s' := ⟨[], [(1000, .box 153 ((encCf c).map .fv ++ [.fv (.int .i64 ch), .osl 7])), (7, .row 108 4 U.length ((U.flatMap encFl).map .fv))]⟩) (by first | exact .inl rfl | exact .inr rfl) ?_ rfl rfl (by repeat' (first | exact trivial | refine ⟨⟨_, rfl, fun _ _ _ _ h => h⟩, ?_⟩))
    refine St.to [(7, .id 900)] [] rfl rfl ?_ ?_ <;> (repeat' (first | exact tA | refine t1 ?_ | exact tB | refine t2 ?_ ?_ | refine t3 ?_ | refine t4 ?_ ?_ | refine .ofEq ?_ | refine OB.To.cut rfl rfl ?_ ?_ ?_ ?_ | refine OB.To.box rfl rfl ?_ | refine ⟨⟨_, rfl, ?_⟩, ?_⟩ | refine ⟨?_, ?_⟩ | fail))
  case pos =>
    obtain ⟨x, hx⟩ : ∃ x, c.ps[k]? = some x := ⟨_, List.getElem?_eq_getElem hlt⟩
    have hs : (L ++ (c.ps.take (k + 1)).flatMap (leaveF ch)) = (L ++ (c.ps.take k).flatMap (leaveF ch)) ++ leaveF ch x := by
      rw [take_succ hx]
      simp
    have hfl := flat_le (f := leaveF ch) (n := 4) (fun s => by unfold leaveF; split; (· simp); (split <;> simp)) (c.ps.take k)
    have hOl : (L ++ (c.ps.take k).flatMap (leaveF ch)).length ≤ 100160 := by
      rw [List.length_append]
      rw [List.length_take] at hfl
      omega
    generalize (L ++ (c.ps.take k).flatMap (leaveF ch)) = U at *
    have cl := cloneOMx_T (leaveM x) (by simp [leaveM])
    have hM : (leaveM x).length = 2 := rfl
    by_cases h1 : x.ch = ch
    · rw [leaveF, if_pos h1] at hs
      have u1 := aa U (leave1 x) (by omega)
      have u2 := aa (U ++ [leave1 x]) (leave2 x) (by simp; omega)
      have u3 := aa (U ++ [leave1 x] ++ [leave2 x]) (leave3 x) (by simp; omega)
      have u4 := aa (U ++ [leave1 x] ++ [leave2 x] ++ [leave3 x]) (leave4 x) (by simp; omega)
      have hs2 : U ++ [leave1 x, leave2 x, leave3 x, leave4 x] = U ++ [leave1 x] ++ [leave2 x] ++ [leave3 x] ++ [leave4 x] := by simp
      rw [hs2] at hs
      repeat' (first | (apply X.loE; (· exact aR); (· first | exact .eff (.bsliceFS rfl rfl rfl rfl rfl rfl) | exact .callL rfl rfl rfl (by first | exact c1 _ _ | exact c2 _) rfl | exact bl (c1 _ _) | exact bl (c2 _))) | refine X.loc ?_ | refine nx ?_ | refine X.cdT ?_ | refine X.cdF ?_ | (refine WP.condBit rfl ?_ ?_) | (refine WP.cond rfl ?_ ?_ <;> intro hcond) | (apply X.gsE; (· exact aR); (· exact aV); (· exact aW); (· intro hc; first | exact .eff (.bsliceFS rfl rfl rfl rfl rfl rfl) | exact .callG rfl rfl rfl (by first | exact c1 _ _ | exact c2 _) rfl | exact bg (c1 _ _) | exact bg (c2 _)); (· exact aR)) | refine rb ?_ | refine X.c0 (cl) ?_ | refine X.c0 (u1) ?_ | refine X.c0 (u2) ?_ | refine X.c0 (u3) ?_ | refine X.c0 (u4) ?_ | refine nd ?_ | refine dk ?_ | fail)
      refine ⟨k + 1, by omega, by omega, ?_⟩
      try dsimp only
      rw [hs]
      refine St.to [(900, .id 67)] [] rfl rfl ?_ ?_ <;> (repeat' (first | exact tA | refine t1 ?_ | exact tB | refine t2 ?_ ?_ | refine t3 ?_ | refine t4 ?_ ?_ | refine .ofEq ?_ | refine OB.To.cut rfl rfl ?_ ?_ ?_ ?_ | refine OB.To.box rfl rfl ?_ | refine ⟨⟨_, rfl, ?_⟩, ?_⟩ | refine ⟨?_, ?_⟩ | fail))
    · by_cases h2 : 0 ≤ x.ch
      · rw [leaveF, if_neg h1, if_pos h2] at hs
        have u1 := aa U (leave5 x) (by omega)
        repeat' (first | (apply X.loE; (· exact aR); (· first | exact .eff (.bsliceFS rfl rfl rfl rfl rfl rfl) | exact .callL rfl rfl rfl (by first | exact c1 _ _ | exact c2 _) rfl | exact bl (c1 _ _) | exact bl (c2 _))) | refine X.loc ?_ | refine nx ?_ | refine X.cdT ?_ | refine X.cdF ?_ | (refine WP.condBit rfl ?_ ?_) | (refine WP.cond rfl ?_ ?_ <;> intro hcond) | (apply X.gsE; (· exact aR); (· exact aV); (· exact aW); (· intro hc; first | exact .eff (.bsliceFS rfl rfl rfl rfl rfl rfl) | exact .callG rfl rfl rfl (by first | exact c1 _ _ | exact c2 _) rfl | exact bg (c1 _ _) | exact bg (c2 _)); (· exact aR)) | refine rb ?_ | refine X.c0 (u1) ?_ | refine nd ?_ | refine dk ?_ | fail)
        refine ⟨k + 1, by omega, by omega, ?_⟩
        try dsimp only
        rw [hs]
        refine St.to [(900, .id 81)] [] rfl rfl ?_ ?_ <;> (repeat' (first | exact tA | refine t1 ?_ | exact tB | refine t2 ?_ ?_ | refine t3 ?_ | refine t4 ?_ ?_ | refine .ofEq ?_ | refine OB.To.cut rfl rfl ?_ ?_ ?_ ?_ | refine OB.To.box rfl rfl ?_ | refine ⟨⟨_, rfl, ?_⟩, ?_⟩ | refine ⟨?_, ?_⟩ | fail))
      · rw [leaveF, if_neg h1, if_neg h2, List.append_nil] at hs
        repeat' (first | (apply X.loE; (· exact aR); (· first | exact .eff (.bsliceFS rfl rfl rfl rfl rfl rfl) | exact .callL rfl rfl rfl (by first | exact c1 _ _ | exact c2 _) rfl | exact bl (c1 _ _) | exact bl (c2 _))) | refine X.loc ?_ | refine nx ?_ | refine X.cdT ?_ | refine X.cdF ?_ | (refine WP.condBit rfl ?_ ?_) | (refine WP.cond rfl ?_ ?_ <;> intro hcond) | (apply X.gsE; (· exact aR); (· exact aV); (· exact aW); (· intro hc; first | exact .eff (.bsliceFS rfl rfl rfl rfl rfl rfl) | exact .callG rfl rfl rfl (by first | exact c1 _ _ | exact c2 _) rfl | exact bg (c1 _ _) | exact bg (c2 _)); (· exact aR)) | refine rb ?_ | refine nd ?_ | refine dk ?_ | fail)
        refine ⟨k + 1, by omega, by omega, ?_⟩
        try dsimp only
        rw [hs]
        refine St.to [] [] rfl rfl ?_ ?_ <;> (repeat' (first | exact tA | refine t1 ?_ | exact tB | refine t2 ?_ ?_ | refine t3 ?_ | refine t4 ?_ ?_ | refine .ofEq ?_ | refine OB.To.cut rfl rfl ?_ ?_ ?_ ?_ | refine OB.To.box rfl rfl ?_ | refine ⟨⟨_, rfl, ?_⟩, ?_⟩ | refine ⟨?_, ?_⟩ | fail))
end Go.Proofs.YtmidechdlbcepaaGreat

namespace Go.Proofs.YtmidechdlbcepaaGreat
open Go.RowKit
set_option maxRecDepth 100000

theorem leadq_T (s : Sw) (q : Po) : Fun Tryz.prog 137 [.agg ((encSw s).map .fv), .fptr (encPo q)] (.fv (.bool (s.id == q.sw))) := by
  refine Fun.body tbl_ok Tryz.func137 rfl (by kernel_rfl) rfl rfl rfl ?_
  repeat' (first | refine X.loc ?_ | refine nx ?_ | (refine WP.condBit rfl ?_ ?_) | (refine WP.cond rfl ?_ ?_ <;> intro hcond) | refine rb ?_ | refine nd ?_ | refine dk ?_ | fail)
  exact .f1 (.inl rfl) rfl rfl
theorem swAt_idx {c : Cf} {q : Po} (h : hasSw c.ss q.sw) : ∃ i : Nat, idxB (fun s : Sw => s.id == q.sw) c.ss = i ∧ c.ss[i]? = some (swAt c.ss q.sw) := by
  have h1 := idxB_any (fun s : Sw => s.id == q.sw) c.ss
  rw [hasSw_any.2 h] at h1
  have h2 : ¬ idxB (fun s : Sw => s.id == q.sw) c.ss < 0 := fun h => by cases h1.1 h
  obtain ⟨i, hi⟩ : ∃ i : Nat, idxB (fun s : Sw => s.id == q.sw) c.ss = i := ⟨_, (Int.toNat_of_nonneg (by omega)).symm⟩
  obtain ⟨x, hx, _, hf⟩ := idxB_at _ _ i hi
  exact ⟨i, hi, by rw [hx, swAt, hf]; rfl⟩
end Go.Proofs.YtmidechdlbcepaaGreat

namespace Go.Proofs.YtmidechdlbcepaaGreat
open Go.RowKit
set_option maxRecDepth 100000

theorem flat_succ {α β : Type} {l : List α} {k : Nat} {x : α} (L : List β) (f : α → List β) (hx : l[k]? = some x) : L ++ (l.take (k + 1)).flatMap f = (L ++ (l.take k).flatMap f) ++ f x := by
  rw [take_succ hx]
  simp
theorem flat_len_le {α β : Type} {f : α → List β} {n m : Nat} (h : ∀ x, (f x).length ≤ n) {l : List α} (hl : l.length ≤ m) (k : Nat) : ((l.take k).flatMap f).length ≤ n * m := by
  have h1 := flat_le h (l.take k)
  have h2 : (l.take k).length ≤ m := by rw [List.length_take]; omega
  exact Nat.le_trans h1 (Nat.mul_le_mul_left n h2)
set_option maxHeartbeats 16000000 in
theorem leads_T (c : Cf) (ch : Int) (L : List Fl) (hc : CfOk c) (hL : L.length ≤ 100000) : FunO Tryz.prog 101 [.optr 1000 0] [(1000, mkB c ch 1001), (1001, flR L)] (.tup []) [(1000, mkB c ch 7), (7, flR (L ++ leadsF c (hereF c ch)))] := by
  have hps := hc.pl
  have hss := hc.sl
  have hsr := hc.sr
  have hpg := hc.pg
  have c1 := is_T
  have c2 := to_T
  have c3 := put_T
  have hh := fun L => here_T c ch L hps
  have hH : (hereF c ch).length ≤ 40 := Nat.le_trans (List.length_filter_le _ _) hps
  have aa := fun L f h => add_T c ch L f h
  unfold mkB flR mkC at aa
  unfold mkB flR mkC poR at hh
  refine FunO.bodyL tbl_ok Tryz.func101 rfl (by kernel_rfl) rfl rfl rfl ?_
  unfold mkB flR mkC
  repeat' (first | refine X.loc ?_ | refine nx ?_ | refine X.cdT ?_ | refine X.cdF ?_ | (refine WP.condBit rfl ?_ ?_) | (refine WP.cond rfl ?_ ?_ <;> intro hcond) | refine rb ?_ | refine nd ?_ | refine dk ?_ | fail)
  refine WP.loop (ι := Nat) (fun k => ⟨[(0, .optr 1000 0), (21, .fv (slOf encPo c.ps)), (22, .fv (.int .i64 c.ps.length)), (23, .fv (.int .i64 k))], [(1000, .box 153 ((encCf c).map .fv ++ [.fv (.int .i64 ch), .osl 900])), (900, .row 108 4 (L ++ (c.ps.take k).map leadPort).length (((L ++ (c.ps.take k).map leadPort).flatMap encFl).map .fv))]⟩) (fun k => k ≤ c.ps.length) (fun k => c.ps.length - k) 0 (by omega) ?_ ?_
  · try dsimp only
    rw [List.take_zero, List.map_nil, List.append_nil]
    refine St.to [(900, .id 1001)] [] rfl rfl ?_ ?_ <;> (repeat' (first | exact tA | refine t1 ?_ | exact tB | refine t2 ?_ ?_ | refine t3 ?_ | refine t4 ?_ ?_ | refine .ofEq ?_ | refine OB.To.cut rfl rfl ?_ ?_ ?_ ?_ | refine OB.To.box rfl rfl ?_ | refine ⟨⟨_, rfl, ?_⟩, ?_⟩ | refine ⟨?_, ?_⟩ | fail))
  rintro k hk
  try dsimp only
  by_cases hlt : k < c.ps.length
  case pos =>
    obtain ⟨x, hx⟩ : ∃ x, c.ps[k]? = some x := ⟨_, List.getElem?_eq_getElem hlt⟩
    have hs : (L ++ (c.ps.take (k + 1)).map leadPort) = (L ++ (c.ps.take k).map leadPort) ++ [leadPort x] := by
      rw [take_succ hx]
      simp
    have hOl : (L ++ (c.ps.take k).map leadPort).length ≤ 100040 := by
      rw [List.length_append, List.length_map, List.length_take]
      omega
    generalize (L ++ (c.ps.take k).map leadPort) = O at *
    have u1 := aa O (leadPort x) (by omega)
    repeat' (first | (apply X.loE; (· exact aR); (· first | exact .eff (.bsliceFS rfl rfl rfl rfl rfl rfl) | exact .callL rfl rfl rfl (by first | exact c1 _ _ | exact c2 _ | exact c3 _ _) rfl | exact bl (c1 _ _) | exact bl (c2 _) | exact bl (c3 _ _))) | refine X.loc ?_ | refine nx ?_ | refine X.cdT ?_ | refine X.cdF ?_ | (refine WP.condBit rfl ?_ ?_) | (refine WP.cond rfl ?_ ?_ <;> intro hcond) | (apply X.gsE; (· exact aR); (· exact aV); (· exact aW); (· intro hc; first | exact .eff (.bsliceFS rfl rfl rfl rfl rfl rfl) | exact .callG rfl rfl rfl (by first | exact c1 _ _ | exact c2 _ | exact c3 _ _) rfl | exact bg (c1 _ _) | exact bg (c2 _) | exact bg (c3 _ _)); (· exact aR)) | refine rb ?_ | refine X.c0 (u1) ?_ | refine nd ?_ | refine dk ?_ | fail)
    refine ⟨k + 1, by omega, by omega, ?_⟩
    try dsimp only
    rw [hs]
    refine St.to [(900, .id 40)] [] rfl rfl ?_ ?_ <;> (repeat' (first | exact tA | refine t1 ?_ | exact tB | refine t2 ?_ ?_ | refine t3 ?_ | refine t4 ?_ ?_ | refine .ofEq ?_ | refine OB.To.cut rfl rfl ?_ ?_ ?_ ?_ | refine OB.To.box rfl rfl ?_ | refine ⟨⟨_, rfl, ?_⟩, ?_⟩ | refine ⟨?_, ?_⟩ | fail))
  case neg =>
    rw [List.take_of_length_le (by omega)]
    have hOl : (L ++ c.ps.map leadPort).length ≤ 100040 := by
      rw [List.length_append, List.length_map]
      omega
    have hR : L ++ leadsF c (hereF c ch) = (L ++ c.ps.map leadPort) ++ ((hereF c ch).flatMap fun p => [leadSelf p, leadAll c p]) ++ c.ss.flatMap (leadSw c) := by simp [leadsF]
    rw [hR]
    clear hR
    generalize (L ++ c.ps.map leadPort) = O at *
    have h1 := hh O
    have e1 : (c.ps.filter fun x => !(x.ch != ch)) = hereF c ch := rfl
    rw [e1] at h1
    generalize hereF c ch = H at *
    repeat' (first | refine X.loc ?_ | refine nx ?_ | refine X.cdT ?_ | refine X.cdF ?_ | (refine WP.condBit rfl ?_ ?_) | (refine WP.cond rfl ?_ ?_ <;> intro hcond) | refine rb ?_ | refine X.c0 (h1) ?_ | refine nd ?_ | refine dk ?_ | fail)
    refine WP.loop (ι := Nat) (fun k => ⟨[(0, .optr 1000 0), (43, .osl 43), (44, .fv (.int .i64 H.length)), (45, .fv (.int .i64 k))], [(43, .row 69 5 H.length ((H.flatMap encPo).map .fv)), (1000, .box 153 ((encCf c).map .fv ++ [.fv (.int .i64 ch), .osl 900])), (900, .row 108 4 (O ++ (H.take k).flatMap fun p => [leadSelf p, leadAll c p]).length (((O ++ (H.take k).flatMap fun p => [leadSelf p, leadAll c p]).flatMap encFl).map .fv))]⟩) (fun k => k ≤ H.length) (fun k => H.length - k) 0 (by omega) ?_ ?_
    · try dsimp only
      rw [List.take_zero, List.flatMap_nil, List.append_nil]
      refine St.to [(900, .id 900)] [] rfl rfl ?_ ?_ <;> (repeat' (first | exact tA | refine t1 ?_ | exact tB | refine t2 ?_ ?_ | refine t3 ?_ | refine t4 ?_ ?_ | refine .ofEq ?_ | refine OB.To.cut rfl rfl ?_ ?_ ?_ ?_ | refine OB.To.box rfl rfl ?_ | refine ⟨⟨_, rfl, ?_⟩, ?_⟩ | refine ⟨?_, ?_⟩ | fail))
    rintro k hk
    try dsimp only
    by_cases hlt : k < H.length
    case pos =>
      obtain ⟨x, hx⟩ : ∃ x, H[k]? = some x := ⟨_, List.getElem?_eq_getElem hlt⟩
      have hs := flat_succ O (fun p => [leadSelf p, leadAll c p]) hx
      have hfl := flat_len_le (f := fun p => [leadSelf p, leadAll c p]) (n := 2) (fun _ => by simp) hH k
      have hOl2 : (O ++ (H.take k).flatMap fun p => [leadSelf p, leadAll c p]).length ≤ 100120 := by
        rw [List.length_append]
        omega
      try dsimp only at hs
      generalize (O ++ (H.take k).flatMap fun p => [leadSelf p, leadAll c p]) = Q at *
      have u1 := aa Q (leadSelf x) (by omega)
      repeat' (first | (apply X.loE; (· exact aR); (· first | exact .eff (.bsliceFS rfl rfl rfl rfl rfl rfl) | (exact .eff (.loadO rfl rfl (readPl (i := k) (by omega) hx))) | exact .callL rfl rfl rfl (c1 _ _) rfl | exact bl (c1 _ _))) | refine X.loc ?_ | refine nx ?_ | refine X.cdT ?_ | refine X.cdF ?_ | (refine WP.condBit rfl ?_ ?_) | (refine WP.cond rfl ?_ ?_ <;> intro hcond) | (apply X.gsE; (· exact aR); (· exact aV); (· exact aW); (· intro hc; first | exact .eff (.bsliceFS rfl rfl rfl rfl rfl rfl) | (exact .eff (.loadO rfl rfl (readPl (i := k) (by omega) hx))) | exact .callG rfl rfl rfl (c1 _ _) rfl | exact bg (c1 _ _)); (· exact aR)) | refine rb ?_ | refine X.c0 (u1) ?_ | refine nd ?_ | refine dk ?_ | fail)
      refine WP.loop (ι := Nat) (fun j => ⟨[(0, .optr 1000 0), (43, .osl 43), (44, .fv (.int .i64 H.length)), (45, .fv (.int .i64 k)), (5, .optr 5 0), (6, .osl 901), (62, .fv (slOf encPo c.ps)), (63, .fv (.int .i64 c.ps.length)), (64, .fv (.int .i64 j))], [(43, .row 69 5 H.length ((H.flatMap encPo).map .fv)), (1000, .box 153 ((encCf c).map .fv ++ [.fv (.int .i64 ch), .osl 902])), (902, .row 108 4 (Q ++ [leadSelf x]).length (((Q ++ [leadSelf x]).flatMap encFl).map .fv)), (5, .box 69 ((encPo x).map .fv)), (901, .row 175 3 ((c.ps.take j).flatMap (floodQ x)).length ((((c.ps.take j).flatMap (floodQ x)).flatMap encDx).map .fv))]⟩) (fun j => j ≤ c.ps.length) (fun j => c.ps.length - j) 0 (by omega) ?_ ?_
      · try dsimp only
        refine St.to [(901, .nil), (902, .id 57)] [] rfl rfl ?_ ?_ <;> (repeat' (first | exact tA | refine t1 ?_ | exact tB | refine t2 ?_ ?_ | refine t3 ?_ | refine t4 ?_ ?_ | refine .ofEq ?_ | refine OB.To.cut rfl rfl ?_ ?_ ?_ ?_ | refine OB.To.box rfl rfl ?_ | refine ⟨⟨_, rfl, ?_⟩, ?_⟩ | refine ⟨?_, ?_⟩ | fail))
      rintro j hj
      try dsimp only
      have hDl := flat_len_le (f := floodQ x) (n := 2) (fun q => by unfold floodQ; split <;> simp) hps j
      by_cases hjl : j < c.ps.length
      case pos =>
        obtain ⟨y, hy⟩ : ∃ y, c.ps[j]? = some y := ⟨_, List.getElem?_eq_getElem hjl⟩
        have hsd := flat_succ [] (floodQ x) hy
        rw [List.nil_append, List.nil_append] at hsd
        generalize (c.ps.take j).flatMap (floodQ x) = D at *
        by_cases hq : y.sw = x.sw ∧ y.id ≠ x.id ∧ 0 ≤ y.ch
        · rw [floodQ, if_pos hq] at hsd
          repeat' (first | (apply X.loE; (· exact aR); (· first | exact .eff (.bsliceFS rfl rfl rfl rfl rfl rfl) | exact .callL rfl rfl rfl (c3 _ _) rfl | exact bl (c3 _ _))) | refine X.loc ?_ | refine nx ?_ | refine X.cdT ?_ | refine X.cdF ?_ | (refine WP.condBit rfl ?_ ?_) | (refine WP.cond rfl ?_ ?_ <;> intro hcond) | (apply X.gsE; (· exact aR); (· exact aV); (· exact aW); (· intro hc; first | exact .eff (.bsliceFS rfl rfl rfl rfl rfl rfl) | exact .callG rfl rfl rfl (c3 _ _) rfl | exact bg (c3 _ _)); (· exact aR)) | refine rb ?_ | refine nd ?_ | refine dk ?_ | fail)
          refine ⟨j + 1, by omega, by omega, ?_⟩
          try dsimp only
          rw [hsd]
          refine St.to [(901, .id 93)] [] rfl rfl ?_ ?_ <;> (repeat' (first | exact tA | refine t1 ?_ | exact tB | refine t2 ?_ ?_ | refine t3 ?_ | refine t4 ?_ ?_ | refine .ofEq ?_ | refine OB.To.cut rfl rfl ?_ ?_ ?_ ?_ | refine OB.To.box rfl rfl ?_ | refine ⟨⟨_, rfl, ?_⟩, ?_⟩ | refine ⟨?_, ?_⟩ | fail))
          all_goals first | omega | (simp; done) | (simp only [List.flatMap_append, List.map_append]; rfl)
        · rw [floodQ, if_neg hq, List.append_nil] at hsd
          repeat' (first | (apply X.loE; (· exact aR); (· first | exact .eff (.bsliceFS rfl rfl rfl rfl rfl rfl) | exact .callL rfl rfl rfl (c3 _ _) rfl | exact bl (c3 _ _))) | refine X.loc ?_ | refine nx ?_ | refine X.cdT ?_ | refine X.cdF ?_ | (refine WP.condBit rfl ?_ ?_) | (refine WP.cond rfl ?_ ?_ <;> intro hcond) | (apply X.gsE; (· exact aR); (· exact aV); (· exact aW); (· intro hc; first | exact .eff (.bsliceFS rfl rfl rfl rfl rfl rfl) | exact .callG rfl rfl rfl (c3 _ _) rfl | exact bg (c3 _ _)); (· exact aR)) | refine rb ?_ | refine nd ?_ | refine dk ?_ | fail)
          refine ⟨j + 1, by omega, by omega, ?_⟩
          try dsimp only
          rw [hsd]
          refine St.to [] [] rfl rfl ?_ ?_ <;> (repeat' (first | exact tA | refine t1 ?_ | exact tB | refine t2 ?_ ?_ | refine t3 ?_ | refine t4 ?_ ?_ | refine .ofEq ?_ | refine OB.To.cut rfl rfl ?_ ?_ ?_ ?_ | refine OB.To.box rfl rfl ?_ | refine ⟨⟨_, rfl, ?_⟩, ?_⟩ | refine ⟨?_, ?_⟩ | fail))
      case neg =>
        rw [List.take_of_length_le (by omega)] at hDl ⊢
        have eA : leadAll c x = ⟨3, 2, [⟨0, 65535, x.id⟩, ⟨1, 65535, 65535⟩], c.ps.flatMap (floodQ x)⟩ := rfl
        have u2 := aa (Q ++ [leadSelf x]) (leadAll c x) (by simp; omega)
        rw [eA] at u2 hs
        generalize c.ps.flatMap (floodQ x) = D at *
        repeat' (first | (apply X.loE; (· exact aR); (· first | exact .eff (.bsliceFS rfl rfl rfl rfl rfl rfl) | exact .callL rfl rfl rfl (c1 _ _) rfl | exact bl (c1 _ _))) | refine X.loc ?_ | refine nx ?_ | refine X.cdT ?_ | refine X.cdF ?_ | (refine WP.condBit rfl ?_ ?_) | (refine WP.cond rfl ?_ ?_ <;> intro hcond) | (apply X.gsE; (· exact aR); (· exact aV); (· exact aW); (· intro hc; first | exact .eff (.bsliceFS rfl rfl rfl rfl rfl rfl) | exact .callG rfl rfl rfl (c1 _ _) rfl | exact bg (c1 _ _)); (· exact aR)) | refine rb ?_ | refine X.c0 (u2) ?_ | refine nd ?_ | refine dk ?_ | fail)
        refine ⟨k + 1, by omega, by omega, ?_⟩
        try dsimp only
        rw [hs, show ∀ a b : Fl, Q ++ [a, b] = Q ++ [a] ++ [b] from fun a b => by simp]
        refine St.to [(900, .id 102)] [] rfl rfl ?_ ?_ <;> (repeat' (first | exact tA | refine t1 ?_ | exact tB | refine t2 ?_ ?_ | refine t3 ?_ | refine t4 ?_ ?_ | refine .ofEq ?_ | refine OB.To.cut rfl rfl ?_ ?_ ?_ ?_ | refine OB.To.box rfl rfl ?_ | refine ⟨⟨_, rfl, ?_⟩, ?_⟩ | refine ⟨?_, ?_⟩ | fail))
    case neg =>
      rw [List.take_of_length_le (by omega)]
      have hfl := flat_le (f := fun p => [leadSelf p, leadAll c p]) (n := 2) (fun _ => by simp) H
      have hOl2 : (O ++ H.flatMap fun p => [leadSelf p, leadAll c p]).length ≤ 100120 := by
        rw [List.length_append]
        omega
      generalize (O ++ H.flatMap fun p => [leadSelf p, leadAll c p]) = Q at *
      have hP : ∀ (s : Sw) (p : Po), (leadSwP c s p).length ≤ 1 := fun s p => by unfold leadSwP; split <;> simp
      have hS : ∀ s : Sw, (leadSw c s).length ≤ 42 := fun s => by
        have := flat_le (hP s) c.ps
        unfold leadSw
        split
        · simp
        · rw [List.length_append]
          show 2 + _ ≤ 42
          omega
      repeat' (first | refine X.loc ?_ | refine nx ?_ | refine X.cdT ?_ | refine X.cdF ?_ | (refine WP.condBit rfl ?_ ?_) | (refine WP.cond rfl ?_ ?_ <;> intro hcond) | refine rb ?_ | refine nd ?_ | refine dk ?_ | fail)
      refine WP.loop (ι := Nat) (fun k => ⟨[(0, .optr 1000 0), (108, .fv (slOf encSw c.ss)), (109, .fv (.int .i64 c.ss.length)), (110, .fv (.int .i64 k))], [(1000, .box 153 ((encCf c).map .fv ++ [.fv (.int .i64 ch), .osl 903])), (903, .row 108 4 (Q ++ (c.ss.take k).flatMap (leadSw c)).length (((Q ++ (c.ss.take k).flatMap (leadSw c)).flatMap encFl).map .fv))]⟩) (fun k => k ≤ c.ss.length) (fun k => c.ss.length - k) 0 (by omega) ?_ ?_
      · try dsimp only
        rw [List.take_zero, List.flatMap_nil, List.append_nil]
        refine St.to [(903, .id 900)] [] rfl rfl ?_ ?_ <;> (repeat' (first | exact tA | refine t1 ?_ | exact tB | refine t2 ?_ ?_ | refine t3 ?_ | refine t4 ?_ ?_ | refine .ofEq ?_ | refine OB.To.cut rfl rfl ?_ ?_ ?_ ?_ | refine OB.To.box rfl rfl ?_ | refine ⟨⟨_, rfl, ?_⟩, ?_⟩ | refine ⟨?_, ?_⟩ | fail))
      rintro k hk
      try dsimp only
      by_cases hlt : k < c.ss.length
      case neg =>
        rw [List.take_of_length_le (by omega)]
        generalize (Q ++ c.ss.flatMap (leadSw c)) = U at *
        repeat' (first | refine X.loc ?_ | refine nx ?_ | refine X.cdT ?_ | refine X.cdF ?_ | (refine WP.condBit rfl ?_ ?_) | (refine WP.cond rfl ?_ ?_ <;> intro hcond) | refine rb ?_ | refine nd ?_ | refine dk ?_ | fail)
        refine .ofL (s' := ⟨[], [(1000, .box 153 ((encCf c).map .fv ++ [.fv (.int .i64 ch), .osl 7])), (7, .row 108 4 U.length ((U.flatMap encFl).map .fv))]⟩) (by first | exact .inl rfl | exact .inr rfl) ?_ rfl rfl (by repeat' (first | exact trivial | refine ⟨⟨_, rfl, fun _ _ _ _ h => h⟩, ?_⟩))
        refine St.to [(7, .id 903)] [] rfl rfl ?_ ?_ <;> (repeat' (first | exact tA | refine t1 ?_ | exact tB | refine t2 ?_ ?_ | refine t3 ?_ | refine t4 ?_ ?_ | refine .ofEq ?_ | refine OB.To.cut rfl rfl ?_ ?_ ?_ ?_ | refine OB.To.box rfl rfl ?_ | refine ⟨⟨_, rfl, ?_⟩, ?_⟩ | refine ⟨?_, ?_⟩ | fail))
      case pos =>
        obtain ⟨x, hx⟩ : ∃ x, c.ss[k]? = some x := ⟨_, List.getElem?_eq_getElem hlt⟩
        have hxr := hsr x (List.mem_of_getElem? hx)
        unfold SwR at hxr
        have hs := flat_succ Q (leadSw c) hx
        have hfl2 := flat_len_le (f := leadSw c) hS hss k
        have hOl3 : (Q ++ (c.ss.take k).flatMap (leadSw c)).length ≤ 100700 := by
          rw [List.length_append]
          omega
        generalize (Q ++ (c.ss.take k).flatMap (leadSw c)) = U at *
        by_cases hg : x.gate = 0
        · rw [leadSw, if_pos hg, List.append_nil] at hs
          repeat' (first | refine X.loc ?_ | refine nx ?_ | refine X.cdT ?_ | refine X.cdF ?_ | (refine WP.condBit rfl ?_ ?_) | (refine WP.cond rfl ?_ ?_ <;> intro hcond) | refine rb ?_ | refine nd ?_ | refine dk ?_ | fail)
          refine ⟨k + 1, by omega, by omega, ?_⟩
          try dsimp only
          rw [hs]
          refine St.to [] [] rfl rfl ?_ ?_ <;> (repeat' (first | exact tA | refine t1 ?_ | exact tB | refine t2 ?_ ?_ | refine t3 ?_ | refine t4 ?_ ?_ | refine .ofEq ?_ | refine OB.To.cut rfl rfl ?_ ?_ ?_ ?_ | refine OB.To.box rfl rfl ?_ | refine ⟨⟨_, rfl, ?_⟩, ?_⟩ | refine ⟨?_, ?_⟩ | fail))
        · rw [leadSw, if_neg hg, ← List.append_assoc] at hs
          repeat' (first | (apply X.loE; (· exact aR); (· first | exact .eff (.bsliceFS rfl rfl rfl rfl rfl rfl) | exact .callL rfl rfl rfl (c1 _ _) rfl | exact bl (c1 _ _))) | refine X.loc ?_ | refine nx ?_ | refine X.cdT ?_ | refine X.cdF ?_ | (refine WP.condBit rfl ?_ ?_) | (refine WP.cond rfl ?_ ?_ <;> intro hcond) | (apply X.gsE; (· exact aR); (· exact aV); (· exact aW); (· intro hc; first | exact .eff (.bsliceFS rfl rfl rfl rfl rfl rfl) | exact .callG rfl rfl rfl (c1 _ _) rfl | exact bg (c1 _ _)); (· exact aR)) | refine rb ?_ | refine nd ?_ | refine dk ?_ | fail)
          refine WP.loop (ι := Nat) (fun j => ⟨[(0, .optr 1000 0), (108, .fv (slOf encSw c.ss)), (109, .fv (.int .i64 c.ss.length)), (110, .fv (.int .i64 k)), (10, .optr 10 0), (11, .fv (slOf encMx (routerM x))), (125, .fv (.int .i64 j))], [(1000, .box 153 ((encCf c).map .fv ++ [.fv (.int .i64 ch), .osl 904])), (904, .row 108 4 (U ++ (List.range j).map fun n : Nat => leadTtl x n).length (((U ++ (List.range j).map fun n : Nat => leadTtl x n).flatMap encFl).map .fv)), (10, .box 44 ((encSw x).map .fv))]⟩) (fun j => j ≤ 2) (fun j => 2 - j) 0 (by omega) ?_ ?_
          · try dsimp only
            rw [List.range_zero, List.map_nil, List.append_nil]
            refine St.to [(904, .id 903)] [] rfl rfl ?_ ?_ <;> (repeat' (first | exact tA | refine t1 ?_ | exact tB | refine t2 ?_ ?_ | refine t3 ?_ | refine t4 ?_ ?_ | refine .ofEq ?_ | refine OB.To.cut rfl rfl ?_ ?_ ?_ ?_ | refine OB.To.box rfl rfl ?_ | refine ⟨⟨_, rfl, ?_⟩, ?_⟩ | refine ⟨?_, ?_⟩ | fail))
          rintro j hj
          try dsimp only
          have cl := cloneOMx_T (routerM x) (by simp [routerM])
          have hM : (routerM x).length = 2 := rfl
          by_cases hj2 : j < 2
          case pos =>
            have hrs : (U ++ (List.range (j + 1)).map fun n : Nat => leadTtl x n) = (U ++ (List.range j).map fun n : Nat => leadTtl x n) ++ [leadTtl x j] := by
              rw [List.range_succ]
              simp
            have hrl : (U ++ (List.range j).map fun n : Nat => leadTtl x n).length ≤ 100702 := by
              rw [List.length_append, List.length_map, List.length_range]
              omega
            generalize (U ++ (List.range j).map fun n : Nat => leadTtl x n) = V at *
            have u1 := aa V (leadTtl x j) (by omega)
            repeat' (first | (apply X.loE; (· exact aR); (· first | exact .eff (.bsliceFS rfl rfl rfl rfl rfl rfl) | exact .callL rfl rfl rfl (c1 _ _) rfl | exact bl (c1 _ _))) | refine X.loc ?_ | refine nx ?_ | refine X.cdT ?_ | refine X.cdF ?_ | (refine WP.condBit rfl ?_ ?_) | (refine WP.cond rfl ?_ ?_ <;> intro hcond) | (apply X.gsE; (· exact aR); (· exact aV); (· exact aW); (· intro hc; first | exact .eff (.bsliceFS rfl rfl rfl rfl rfl rfl) | exact .callG rfl rfl rfl (c1 _ _) rfl | exact bg (c1 _ _)); (· exact aR)) | refine rb ?_ | refine X.c0 (cl) ?_ | refine X.c0 (u1) ?_ | refine nd ?_ | refine dk ?_ | fail)
            refine ⟨j + 1, by omega, by omega, ?_⟩
            try dsimp only
            rw [hrs]
            refine St.to [(904, .id 135)] [] rfl rfl ?_ ?_ <;> (repeat' (first | exact tA | refine t1 ?_ | exact tB | refine t2 ?_ ?_ | refine t3 ?_ | refine t4 ?_ ?_ | refine .ofEq ?_ | refine OB.To.cut rfl rfl ?_ ?_ ?_ ?_ | refine OB.To.box rfl rfl ?_ | refine ⟨⟨_, rfl, ?_⟩, ?_⟩ | refine ⟨?_, ?_⟩ | fail))
          case neg =>
            obtain rfl : j = 2 := by omega
            have hr2 : (U ++ (List.range 2).map fun n : Nat => leadTtl x n) = U ++ [leadTtl x 0, leadTtl x 1] := rfl
            rw [hr2]
            have hVl : (U ++ [leadTtl x 0, leadTtl x 1]).length ≤ 100702 := by
              rw [List.length_append]
              simp
              omega
            generalize (U ++ [leadTtl x 0, leadTtl x 1]) = V at *
            repeat' (first | refine X.loc ?_ | refine nx ?_ | refine X.cdT ?_ | refine X.cdF ?_ | (refine WP.condBit rfl ?_ ?_) | (refine WP.cond rfl ?_ ?_ <;> intro hcond) | refine rb ?_ | refine nd ?_ | refine dk ?_ | fail)
            refine WP.loop (ι := Nat) (fun j => ⟨[(0, .optr 1000 0), (108, .fv (slOf encSw c.ss)), (109, .fv (.int .i64 c.ss.length)), (110, .fv (.int .i64 k)), (10, .optr 10 0), (11, .fv (slOf encMx (routerM x))), (141, .fv (slOf encPo c.ps)), (142, .fv (.int .i64 c.ps.length)), (143, .fv (.int .i64 j))], [(1000, .box 153 ((encCf c).map .fv ++ [.fv (.int .i64 ch), .osl 905])), (905, .row 108 4 (V ++ (c.ps.take j).flatMap (leadSwP c x)).length (((V ++ (c.ps.take j).flatMap (leadSwP c x)).flatMap encFl).map .fv)), (10, .box 44 ((encSw x).map .fv))]⟩) (fun j => j ≤ c.ps.length) (fun j => c.ps.length - j) 0 (by omega) ?_ ?_
            · try dsimp only
              rw [List.take_zero, List.flatMap_nil, List.append_nil]
              refine St.to [(905, .id 904)] [] rfl rfl ?_ ?_ <;> (repeat' (first | exact tA | refine t1 ?_ | exact tB | refine t2 ?_ ?_ | refine t3 ?_ | refine t4 ?_ ?_ | refine .ofEq ?_ | refine OB.To.cut rfl rfl ?_ ?_ ?_ ?_ | refine OB.To.box rfl rfl ?_ | refine ⟨⟨_, rfl, ?_⟩, ?_⟩ | refine ⟨?_, ?_⟩ | fail))
            rintro j hj
            try dsimp only
            by_cases hjl : j < c.ps.length
            case neg =>
              rw [List.take_of_length_le (by omega)]
              generalize (V ++ c.ps.flatMap (leadSwP c x)) = V2 at *
              repeat' (first | refine X.loc ?_ | refine nx ?_ | refine X.cdT ?_ | refine X.cdF ?_ | (refine WP.condBit rfl ?_ ?_) | (refine WP.cond rfl ?_ ?_ <;> intro hcond) | refine rb ?_ | refine nd ?_ | refine dk ?_ | fail)
              refine ⟨k + 1, by omega, by omega, ?_⟩
              try dsimp only
              rw [hs]
              refine St.to [(903, .id 905)] [] rfl rfl ?_ ?_ <;> (repeat' (first | exact tA | refine t1 ?_ | exact tB | refine t2 ?_ ?_ | refine t3 ?_ | refine t4 ?_ ?_ | refine .ofEq ?_ | refine OB.To.cut rfl rfl ?_ ?_ ?_ ?_ | refine OB.To.box rfl rfl ?_ | refine ⟨⟨_, rfl, ?_⟩, ?_⟩ | refine ⟨?_, ?_⟩ | fail))
            case pos =>
              obtain ⟨y, hy⟩ : ∃ y, c.ps[j]? = some y := ⟨_, List.getElem?_eq_getElem hjl⟩
              have hsw := (hpg y (List.mem_of_getElem? hy)).2.1
              obtain ⟨i, hi, hsi⟩ := swAt_idx hsw
              have hxt := hsr _ (List.mem_of_getElem? hsi)
              have ci := indexSw_T c.ss 137 [.fptr (encPo y)] (fun s => s.id == y.sw) (by omega) (fun s _ => leadq_T s y)
              rw [hi] at ci
              have hvs := flat_succ V (leadSwP c x) hy
              have hvl := flat_len_le (f := leadSwP c x) (hP x) hps j
              have hVl2 : (V ++ (c.ps.take j).flatMap (leadSwP c x)).length ≤ 100742 := by
                rw [List.length_append]
                omega
              have hLP : leadSwP c x y = if (swAt c.ss y.sw).tenant = x.tenant ∧ (swAt c.ss y.sw).gate ≠ 0 then [leadTo x y (swAt c.ss y.sw)] else [] := rfl
              rw [hLP] at hvs
              generalize (V ++ (c.ps.take j).flatMap (leadSwP c x)) = V3 at *
              generalize swAt c.ss y.sw = t at *
              unfold SwR at hxt
              by_cases ht : t.tenant = x.tenant ∧ t.gate ≠ 0
              · rw [if_pos ht] at hvs
                have u1 := aa V3 (leadTo x y t) (by omega)
                repeat' (first | (apply X.loE; (· exact aR); (· first | exact .eff (.bsliceFS rfl rfl rfl rfl rfl rfl) | exact .callL rfl rfl rfl (by first | exact c1 _ _ | exact c2 _ | exact c3 _ _ | exact ci) rfl | exact bl (c1 _ _) | exact bl (c2 _) | exact bl (c3 _ _) | exact bl (ci))) | refine X.loc ?_ | refine nx ?_ | refine X.cdT ?_ | refine X.cdF ?_ | (refine WP.condBit rfl ?_ ?_) | (refine WP.cond rfl ?_ ?_ <;> intro hcond) | (apply X.gsE; (· exact aR); (· exact aV); (· exact aW); (· intro hc; first | exact .eff (.bsliceFS rfl rfl rfl rfl rfl rfl) | exact .callG rfl rfl rfl (by first | exact c1 _ _ | exact c2 _ | exact c3 _ _ | exact ci) rfl | exact bg (c1 _ _) | exact bg (c2 _) | exact bg (c3 _ _) | exact bg (ci)); (· exact aR)) | refine rb ?_ | refine X.c0 (cl) ?_ | refine X.c0 (u1) ?_ | refine nd ?_ | refine dk ?_ | fail)
                refine ⟨j + 1, by omega, by omega, ?_⟩
                try dsimp only
                rw [hvs]
                refine St.to [(905, .id 196)] [] rfl rfl ?_ ?_ <;> (repeat' (first | exact tA | refine t1 ?_ | exact tB | refine t2 ?_ ?_ | refine t3 ?_ | refine t4 ?_ ?_ | refine .ofEq ?_ | refine OB.To.cut rfl rfl ?_ ?_ ?_ ?_ | refine OB.To.box rfl rfl ?_ | refine ⟨⟨_, rfl, ?_⟩, ?_⟩ | refine ⟨?_, ?_⟩ | fail))
              · rw [if_neg ht, List.append_nil] at hvs
                repeat' (first | (apply X.loE; (· exact aR); (· first | exact .eff (.bsliceFS rfl rfl rfl rfl rfl rfl) | exact .callL rfl rfl rfl (ci) rfl | exact bl (ci))) | refine X.loc ?_ | refine nx ?_ | refine X.cdT ?_ | refine X.cdF ?_ | (refine WP.condBit rfl ?_ ?_) | (refine WP.cond rfl ?_ ?_ <;> intro hcond) | (apply X.gsE; (· exact aR); (· exact aV); (· exact aW); (· intro hc; first | exact .eff (.bsliceFS rfl rfl rfl rfl rfl rfl) | exact .callG rfl rfl rfl (ci) rfl | exact bg (ci)); (· exact aR)) | refine rb ?_ | refine nd ?_ | refine dk ?_ | fail)
                refine ⟨j + 1, by omega, by omega, ?_⟩
                try dsimp only
                rw [hvs]
                refine St.to [] [] rfl rfl ?_ ?_ <;> (repeat' (first | exact tA | refine t1 ?_ | exact tB | refine t2 ?_ ?_ | refine t3 ?_ | refine t4 ?_ ?_ | refine .ofEq ?_ | refine OB.To.cut rfl rfl ?_ ?_ ?_ ?_ | refine OB.To.box rfl rfl ?_ | refine ⟨⟨_, rfl, ?_⟩, ?_⟩ | refine ⟨?_, ?_⟩ | fail))
end Go.Proofs.YtmidechdlbcepaaGreat

namespace Go.Proofs.YtmidechdlbcepaaGreat
open Go.RowKit
set_option maxRecDepth 100000

def FlS (x : Fl) : Prop := x.ms.length ≤ 12 ∧ x.ds.length ≤ 100
theorem FlS.fit {f : Fl} (h : FlS f) : f.Fit := by
  obtain ⟨h1, h2⟩ := h
  unfold Fl.Fit
  omega
end Go.Proofs.YtmidechdlbcepaaGreat

namespace Go.Proofs.YtmidechdlbcepaaGreat
open Go.RowKit
set_option maxRecDepth 100000

theorem flS_ok {g : Fl} (h : flFault g = 0) : FlS g := ⟨(flMay h).ms, (flMay h).ds⟩
theorem fit_of {g : Fl} (h : FlS g) : g.Fit := by
  unfold Fl.Fit
  have := h.1
  have := h.2
  omega
theorem all_mem {c : Cf} {ch : Int} {g : Fl} : g ∈ allF c ch ↔ g ∈ compF_ c ch := by rw [compF_, sortedF_mem]
theorem comp_room {c : Cf} (hc : CfOk c) {ch : Int} (hch : 0 ≤ ch ∧ ch ≤ 5) : Room (compF_ c ch) := ⟨fun g hg => fit_of (flS_ok (comp_ok hc hch hg)), by have := comp_len (ch := ch) hc; omega⟩
set_option maxHeartbeats 8000000 in
theorem compile0_T (c : Cf) (ch : Int) (hl : c.Small) : FunO Tryz.prog 71 [.agg ((encCf c).map .fv), .fv (.int .i64 ch)] [] (.tup [.osl 7, .fv (.int .i64 (compE c ch))]) [(7, .row 108 4 (compR c ch).length (((compR c ch).flatMap encFl).map .fv))] := by
  have ck := confCheck_T c hl
  refine FunO.bodyL tbl_ok Tryz.func71 rfl (by kernel_rfl) rfl rfl rfl ?_
  unfold compR compE
  cases hm : cfMay c with
  | false =>
    rw [hm, if_neg (by decide)] at ck
    rw [if_pos rfl, if_pos (by decide)]
    repeat' (first | (apply X.loE; (· exact aR); (· first | exact .callL rfl rfl rfl (ck) rfl | exact bl (ck))) | refine X.loc ?_ | refine nx ?_ | refine X.cdT ?_ | refine X.cdF ?_ | (refine WP.condBit rfl ?_ ?_) | (refine WP.cond rfl ?_ ?_ <;> intro hcond) | (apply X.gsE; (· exact aR); (· exact aV); (· exact aW); (· intro hc; first | exact .callG rfl rfl rfl (ck) rfl | exact bg (ck)); (· exact aR)) | refine rb ?_ | refine nd ?_ | refine dk ?_ | fail)
    refine .ofL (s' := ⟨[(4, .osl 7), (5, .fv (.int .i64 8))], [(7, .row 108 4 0 [])]⟩) (by first | exact .inl rfl | exact .inr rfl) ?_ rfl rfl (by repeat' (first | exact trivial | refine ⟨⟨_, rfl, fun _ _ _ _ h => h⟩, ?_⟩))
    refine St.to [(7, .nil)] [] rfl rfl ?_ ?_ <;> (repeat' (first | exact tA | refine t1 ?_ | exact tB | refine t2 ?_ ?_ | refine t3 ?_ | refine t4 ?_ ?_ | refine .ofEq ?_ | refine OB.To.cut rfl rfl ?_ ?_ ?_ ?_ | refine OB.To.box rfl rfl ?_ | refine ⟨⟨_, rfl, ?_⟩, ?_⟩ | refine ⟨?_, ?_⟩ | fail))
  | true =>
    rw [hm, if_pos rfl] at ck
    rw [if_neg (by decide)]
    have hc := cfMay_iff.1 hm
    by_cases hch : ch < 0 ∨ 6 ≤ ch
    · rw [if_pos hch, if_pos (by decide)]
      repeat' (first | (apply X.loE; (· exact aR); (· first | exact .callL rfl rfl rfl (ck) rfl | exact bl (ck))) | refine X.loc ?_ | refine nx ?_ | refine X.cdT ?_ | refine X.cdF ?_ | (refine WP.condBit rfl ?_ ?_) | (refine WP.cond rfl ?_ ?_ <;> intro hcond) | (apply X.gsE; (· exact aR); (· exact aV); (· exact aW); (· intro hc; first | exact .callG rfl rfl rfl (ck) rfl | exact bg (ck)); (· exact aR)) | refine rb ?_ | refine nd ?_ | refine dk ?_ | fail)
      refine .ofL (s' := ⟨[(4, .osl 7), (5, .fv (.int .i64 2))], [(7, .row 108 4 0 [])]⟩) (by first | exact .inl rfl | exact .inr rfl) ?_ rfl rfl (by repeat' (first | exact trivial | refine ⟨⟨_, rfl, fun _ _ _ _ h => h⟩, ?_⟩))
      refine St.to [(7, .nil)] [] rfl rfl ?_ ?_ <;> (repeat' (first | exact tA | refine t1 ?_ | exact tB | refine t2 ?_ ?_ | refine t3 ?_ | refine t4 ?_ ?_ | refine .ofEq ?_ | refine OB.To.cut rfl rfl ?_ ?_ ?_ ?_ | refine OB.To.box rfl rfl ?_ | refine ⟨⟨_, rfl, ?_⟩, ?_⟩ | refine ⟨?_, ?_⟩ | fail))
    · rw [if_neg hch, if_neg (by decide)]
      have hlen := all_len (ch := ch) hc
      have hfit : FitL (allF c ch) := fun g hg => fit_of (flS_ok (comp_ok hc (by omega) (all_mem.1 hg)))
      have eA : allF c ch = ([] ++ entersF (hereF c ch)) ++ rulesF c 1 3 true ++ answersF c (hereF c ch) ++ leadsF c (hereF c ch) ++ leavesF c ch ++ rulesF c 6 7 false := rfl
      have so := sort_T (allF c ch) hfit (by omega)
      have hcomp : compF_ c ch = sortedF (allF c ch) := rfl
      rw [hcomp]
      generalize sortedF (allF c ch) = Z at *
      rw [eA] at hlen so
      clear eA hfit hcomp
      have u1 := enters_T c ch [] hc.pl (by simp)
      generalize [] ++ entersF (hereF c ch) = L1 at *
      have k1 : L1.length ≤ 1100 := by simp only [List.length_append] at hlen; omega
      have u2 := rules_T c ch L1 1 3 true hc (by omega)
      generalize L1 ++ rulesF c 1 3 true = L2 at *
      have k2 : L2.length ≤ 1100 := by simp only [List.length_append] at hlen; omega
      have u3 := answers_T c ch L2 hc (by omega)
      generalize L2 ++ answersF c (hereF c ch) = L3 at *
      have k3 : L3.length ≤ 1100 := by simp only [List.length_append] at hlen; omega
      have u4 := leads_T c ch L3 hc (by omega)
      generalize L3 ++ leadsF c (hereF c ch) = L4 at *
      have k4 : L4.length ≤ 1100 := by simp only [List.length_append] at hlen; omega
      have u5 := leaves_T c ch L4 hc.pl (by omega)
      generalize L4 ++ leavesF c ch = L5 at *
      have k5 : L5.length ≤ 1100 := by simp only [List.length_append] at hlen; omega
      have u6 := rules_T c ch L5 6 7 false hc (by omega)
      generalize L5 ++ rulesF c 6 7 false = L6 at *
      unfold mkB flR mkC at u1 u2 u3 u4 u5 u6
      repeat' (first | (apply X.loE; (· exact aR); (· first | exact .callL rfl rfl rfl (ck) rfl | exact bl (ck))) | refine X.loc ?_ | refine nx ?_ | refine X.cdT ?_ | refine X.cdF ?_ | (refine WP.condBit rfl ?_ ?_) | (refine WP.cond rfl ?_ ?_ <;> intro hcond) | (apply X.gsE; (· exact aR); (· exact aV); (· exact aW); (· intro hc; first | exact .callG rfl rfl rfl (ck) rfl | exact bg (ck)); (· exact aR)) | refine rb ?_ | refine X.c0 (u1) ?_ | refine X.c0 (u2) ?_ | refine X.c0 (u3) ?_ | refine X.c0 (u4) ?_ | refine X.c0 (u5) ?_ | refine X.c0 (u6) ?_ | refine X.c0 (so) ?_ | refine nd ?_ | refine dk ?_ | fail)
      refine .ofL (s' := ⟨[(4, .osl 7), (5, .fv (.int .i64 0))], [(7, .row 108 4 Z.length ((Z.flatMap encFl).map .fv))]⟩) (by first | exact .inl rfl | exact .inr rfl) ?_ rfl rfl (by repeat' (first | exact trivial | refine ⟨⟨_, rfl, fun _ _ _ _ h => h⟩, ?_⟩))
      refine St.to [(7, .id 39)] [] rfl rfl ?_ ?_ <;> (repeat' (first | exact tA | refine t1 ?_ | exact tB | refine t2 ?_ ?_ | refine t3 ?_ | refine t4 ?_ ?_ | refine .ofEq ?_ | refine OB.To.cut rfl rfl ?_ ?_ ?_ ?_ | refine OB.To.box rfl rfl ?_ | refine ⟨⟨_, rfl, ?_⟩, ?_⟩ | refine ⟨?_, ?_⟩ | fail))
end Go.Proofs.YtmidechdlbcepaaGreat

namespace Go.Proofs.YtmidechdlbcepaaGreat
open Go.RowKit
set_option maxRecDepth 100000

theorem compile_T (c : Cf) (ch : Int) (hl : c.Small) : Fun Tryz.prog 71 [.agg ((encCf c).map .fv), .fv (.int .i64 ch)] (.tup [.fv (slOf encFl (compR c ch)), .fv (.int .i64 (compE c ch))]) :=
  (compile0_T c ch hl).froz [7] (.tup (.cons (.frz rfl rfl rfl) (.cons (.le (.refl _) rfl) .nil)))
theorem CfOk.small {c : Cf} (h : CfOk c) : c.Small := ⟨by have := h.sl; omega, by have := h.pl; omega, by have := h.al; omega⟩
theorem compE_ok {c : Cf} (h : CfOk c) {ch : Int} (hch : 0 ≤ ch ∧ ch ≤ 5) : compE c ch = 0 := by
  unfold compE
  rw [if_neg (by rw [cfMay_iff.2 h]; simp), if_neg (by omega)]
theorem compR_ok {c : Cf} (h : CfOk c) {ch : Int} (hch : 0 ≤ ch ∧ ch ≤ 5) : compR c ch = compF_ c ch := by
  unfold compR
  rw [compE_ok h hch, if_neg (by decide)]
def encFab (c : Cf) (Fs : List (List Fl)) : List FV := encCf c ++ Fs.map (slOf encFl)
def fabB (c : Cf) (Fs : List (List Fl)) : OB := .box 88 ((encFab c Fs).map .fv)
theorem fab_drop {c : Cf} {Fs : List (List Fl)} {n : Nat} {L : List Fl} (h : Fs[n]? = some L) : (encFab c Fs).drop (3 + n) = slOf encFl L :: (Fs.drop (n + 1)).map (slOf encFl) := by
  have hlt := (List.getElem?_eq_some_iff.1 h).1
  have h3 : (encCf c).length = 3 := rfl
  have e : encFab c Fs = encCf c ++ Fs.map (slOf encFl) := rfl
  rw [e]
  generalize encCf c = A at *
  rw [List.drop_append, List.drop_of_length_le (by omega), List.nil_append, show 3 + n - A.length = n by omega, ← List.map_drop, List.drop_eq_getElem_cons hlt, (List.getElem?_eq_some_iff.1 h).2]
  rfl
theorem readFab {c : Cf} {Fs : List (List Fl)} {n off : Nat} {L : List Fl} (h : off = 3 + n) (hx : Fs[n]? = some L) : readA tbl 85 off ((encFab c Fs).map .fv) = some (.fv (slOf encFl L)) := by
  subst h
  have hlt := (List.getElem?_eq_some_iff.1 hx).1
  unfold readA
  rw [dropO_mk (by rw [List.length_map, encFab, List.length_append, List.length_map]; show 3 + n ≤ 3 + Fs.length; omega), ← List.map_drop, fab_drop hx]
  generalize (Fs.drop (n + 1)).map (slOf encFl) = r
  cases r with
  | nil => rfl
  | cons a r => rfl
theorem readFabC (c : Cf) (Fs : List (List Fl)) : readA tbl 26 0 ((encFab c Fs).map .fv) = some (.agg ((encCf c).map .fv)) := by
  unfold encFab
  generalize Fs.map (slOf encFl) = r
  cases r with
  | nil => rfl
  | cons a r => rfl
theorem readFabP (c : Cf) (Fs : List (List Fl)) : readA tbl 23 1 ((encFab c Fs).map .fv) = some (.fv (slOf encPo c.ps)) := by
  unfold encFab
  generalize Fs.map (slOf encFl) = r
  cases r with
  | nil => rfl
  | cons a r => rfl
theorem setFab {c : Cf} {Fs : List (List Fl)} {n off : Nat} {L : List Fl} (h : off = 3 + n) (hn : n < Fs.length) : setC ((encFab c Fs).map .fv) off [.fv (slOf encFl L)] = some ((encFab c (Fs.set n L)).map .fv) := by
  subst h
  rw [setC_mk (by rw [List.length_map, encFab, List.length_append, List.length_map]; show 3 + n + 1 ≤ 3 + Fs.length; omega)]
  congr 1
  unfold encFab
  rw [List.map_append, List.map_append]
  have h3 : ((encCf c).map AV.fv).length = 3 := rfl
  generalize (encCf c).map AV.fv = A at *
  have e1 : (A ++ (Fs.map (slOf encFl)).map AV.fv).take (3 + n) = A ++ ((Fs.map (slOf encFl)).map AV.fv).take n := by
    rw [List.take_append, List.take_of_length_le (by omega), show 3 + n - A.length = n by omega]
  have e2 : (A ++ (Fs.map (slOf encFl)).map AV.fv).drop (3 + n + 1) = ((Fs.map (slOf encFl)).map AV.fv).drop (n + 1) := by
    rw [List.drop_append, List.drop_of_length_le (by omega), List.nil_append, show 3 + n + 1 - A.length = n + 1 by omega]
  show (A ++ (Fs.map (slOf encFl)).map AV.fv).take (3 + n) ++ [AV.fv (slOf encFl L)] ++ (A ++ (Fs.map (slOf encFl)).map AV.fv).drop (3 + n + 1) = _
  rw [e1, e2, List.append_assoc, List.append_assoc]
  congr 1
  rw [List.set_eq_take_append_cons_drop, if_pos hn]
  simp
theorem six {α : Type} {l : List α} (h : l.length = 6) : ∃ a b c d e f, l = [a, b, c, d, e, f] := by
  match l, h with
  | [a, b, c, d, e, f], _ => exact ⟨a, b, c, d, e, f, rfl⟩
structure FlsOk (Fs : List (List Fl)) : Prop where
  len : Fs.length = 6
  room : ∀ L ∈ Fs, Room L
  strict : ∀ L ∈ Fs, StrictF L
  short : ∀ L ∈ Fs, L.length ≤ 1100
theorem FlsOk.set {Fs : List (List Fl)} (h : FlsOk Fs) {c : Cf} (hc : CfOk c) {ch : Int} (hch : 0 ≤ ch ∧ ch ≤ 5) : FlsOk (Fs.set ch.toNat (compF_ c ch)) := by
  have key : ∀ {P : List Fl → Prop}, (∀ L ∈ Fs, P L) → P (compF_ c ch) → ∀ L ∈ Fs.set ch.toNat (compF_ c ch), P L := fun h1 h2 L hL => by
    rcases List.mem_or_eq_of_mem_set hL with h | rfl
    · exact h1 L h
    · exact h2
  exact ⟨by rw [List.length_set]; exact h.len, key h.room (comp_room hc hch), key h.strict (comp_strict c ch), key h.short (comp_len hc)⟩
set_option maxHeartbeats 8000000 in
theorem sync_T (c : Cf) (Fs : List (List Fl)) (ch : Int) (hc : CfOk c) (hch : 0 ≤ ch ∧ ch ≤ 5) (hF : FlsOk Fs) : FunO Tryz.prog 45 [.optr 1000 0, .fv (.int .i64 ch)] [(1000, fabB c Fs)] (.fv (.int .i64 0)) [(1000, fabB c (Fs.set ch.toNat (compF_ c ch)))] := by
  have c1 := compile_T c ch hc.small
  rw [compR_ok hc hch, compE_ok hc hch] at c1
  have h6 := hF.len
  obtain ⟨n, rfl⟩ := Int.eq_ofNat_of_zero_le hch.1
  obtain ⟨L, hL⟩ : ∃ L, Fs[n]? = some L := ⟨_, List.getElem?_eq_getElem (by omega)⟩
  have hLm := List.mem_of_getElem? hL
  have hr := hF.room L hLm
  have hs := hF.strict L hLm
  have hsh := hF.short L hLm
  have hr2 := comp_room hc hch
  have hs2 := comp_strict c n
  have hsh2 := comp_len (ch := n) hc
  have hp := patch_lead hs hs2
  generalize compF_ c n = M at *
  have c2 := diff_T L M hr hr2
  have rc := leftF_room (b := L) hr2
  have rg := leftF_room (b := M) hr
  have hl1 := left_len hs hs2
  have hc1 : (leftF M L).length ≤ M.length := by
    have h1 := List.length_filter_le (fun x => !hasF L x) (sortedF M)
    have h2 := sortedF_len M
    unfold leftF
    omega
  have c3 := patchF_T L (leftF M L) (leftF L M) hr rg rc.fit (by omega)
  rw [hp] at c3
  generalize leftF M L = come at *
  generalize leftF L M = gone at *
  refine FunO.bodyL tbl_ok Tryz.func45 rfl (by kernel_rfl) rfl rfl rfl ?_
  unfold fabB
  have s1 := setFab (c := c) (Fs := Fs) (n := n) (off := 3 + (n : Int).toNat * 1) (L := M) (by omega) (by omega)
  repeat' (first | (apply X.loE; (· exact aR); (· first | (exact .eff (.loadO rfl rfl (readFabC c Fs))) | (exact .eff (.loadO rfl rfl (readFab (n := n) (by omega) hL))) | exact .callL rfl rfl rfl (by first | exact c1 | exact c2 | exact c3) rfl | exact bl (c1) | exact bl (c2) | exact bl (c3))) | refine X.loc ?_ | (apply X.stBE; (· exact aS); (· exact s1); (· exact aE)) | refine nx ?_ | refine X.cdT ?_ | refine X.cdF ?_ | (refine WP.condBit rfl ?_ ?_) | (refine WP.cond rfl ?_ ?_ <;> intro hcond) | (apply X.gsE; (· exact aR); (· exact aV); (· exact aW); (· intro hc; first | (exact .eff (.loadO rfl rfl (readFabC c Fs))) | (exact .eff (.loadO rfl rfl (readFab (n := n) (by omega) hL))) | exact .callG rfl rfl rfl (by first | exact c1 | exact c2 | exact c3) rfl | exact bg (c1) | exact bg (c2) | exact bg (c3)); (· exact aR)) | refine rb ?_ | refine nd ?_ | refine dk ?_ | fail)
  refine .ofL (s' := ⟨[(4, .fv (.int .i64 0))], [(1000, .box 88 ((encFab c (Fs.set n M)).map .fv))]⟩) (by first | exact .inl rfl | exact .inr rfl) ?_ rfl rfl (by repeat' (first | exact trivial | refine ⟨⟨_, rfl, fun _ _ _ _ h => h⟩, ?_⟩))
  refine St.to [] [] rfl rfl ?_ ?_ <;> (repeat' (first | exact tA | refine t1 ?_ | exact tB | refine t2 ?_ ?_ | refine t3 ?_ | refine t4 ?_ ?_ | refine .ofEq ?_ | refine OB.To.cut rfl rfl ?_ ?_ ?_ ?_ | refine OB.To.box rfl rfl ?_ | refine ⟨⟨_, rfl, ?_⟩, ?_⟩ | refine ⟨?_, ?_⟩ | fail))
end Go.Proofs.YtmidechdlbcepaaGreat

namespace Go.Proofs.YtmidechdlbcepaaGreat.AS
open Go.RowKit
set_option maxRecDepth 100000

theorem readE {α : Type} {e : α → List FV} {s : Nat} (he : ∀ x, (e x).length = s) {l : List α} {i off : Nat} {x : α} (h : off = i * s) (hx : l[i]? = some x) : dropO off ((l.flatMap e).map AV.fv) = some ((e x).map .fv ++ ((l.drop (i + 1)).flatMap e).map .fv) := by
  subst h
  have hlt := (List.getElem?_eq_some_iff.1 hx).1
  have hlen : ((l.flatMap e).map AV.fv).length = l.length * s := by rw [List.length_map, flatMap_len he]
  have h1 : (l.flatMap e).drop (i * s) = e x ++ (l.drop (i + 1)).flatMap e := by
    have e1 : l = l.take i ++ x :: l.drop (i + 1) := by
      rw [← (List.getElem?_eq_some_iff.1 hx).2, ← List.drop_eq_getElem_cons hlt, List.take_append_drop]
    have e2 : ((l.take i).flatMap e).length = i * s := by rw [flatMap_len he, List.length_take, Nat.min_eq_left (by omega)]
    have e3 : l.flatMap e = (l.take i).flatMap e ++ (e x ++ (l.drop (i + 1)).flatMap e) := by
      conv => lhs; rw [e1]
      rw [List.flatMap_append, List.flatMap_cons]
    rw [e3, ← e2, List.drop_left']
    rfl
  rw [dropO_mk (by rw [hlen]; exact Nat.mul_le_mul_right s (by omega)), ← List.map_drop, h1, List.map_append]
theorem readAl {l : List Ar} {i off : Nat} {x : Ar} (h : off = i * 9) (hx : l[i]? = some x) : readA tbl 41 off ((l.flatMap encAr).map .fv) = some (.agg ((encAr x).map .fv)) := by
  unfold readA
  rw [readE encAr_len h hx]
  generalize ((l.drop (i + 1)).flatMap encAr).map AV.fv = r
  cases r with
  | nil => rfl
  | cons a r => rfl
theorem setAl {l : List Ar} {i off : Nat} {x : Ar} (h : off = i * 9) (hi : i < l.length) : setC ((l.flatMap encAr).map .fv) off ((encAr x).map .fv) = some (((l.set i x).flatMap encAr).map .fv) := by
  subst h
  induction l generalizing i with
  | nil => simp at hi
  | cons y l ih =>
    cases i with
    | zero => simp [setC, encAr, encFr]
    | succ i =>
      have := ih (i := i) (by simpa using hi)
      rw [show (i + 1) * 9 = (i * 9) + 9 from by omega]
      simp only [List.flatMap_cons, List.map_append, List.set_cons_succ]
      show setC (AV.fv _ :: AV.fv _ :: AV.fv _ :: AV.fv _ :: AV.fv _ :: AV.fv _ :: AV.fv _ :: AV.fv _ :: AV.fv _ :: (l.flatMap encAr).map AV.fv) _ _ = _
      simp only [setC, this]
      rfl
def arRw (l : List Ar) : OB := .row 41 9 l.length ((l.flatMap encAr).map .fv)
def cmpA (a b : Ar) : Int := b.prio - a.prio
theorem cmpA_T (a b : Ar) (ha : ArR a) (hb : ArR b) : Fun Tryz.prog 78 [.agg ((encAr a).map .fv), .agg ((encAr b).map .fv)] (.fv (.int .i64 (cmpA a b))) := by
  unfold ArR at ha hb
  unfold cmpA
  refine Fun.body tbl_ok Tryz.func78 rfl (by kernel_rfl) rfl rfl rfl ?_
  repeat' (first | refine X.loc ?_ | refine nx ?_ | refine X.cdT ?_ | refine X.cdF ?_ | (refine WP.condBit rfl ?_ ?_) | (refine WP.cond rfl ?_ ?_ <;> intro hcond) | refine rb ?_ | refine nd ?_ | refine dk ?_ | fail)
  refine .f1 (.inl rfl) rfl ?_
  unfold Ar.prio
  rw [show -b.port - -a.port = a.port - b.port by omega]
def swp (l : List Ar) (i j : Nat) : List Ar := match l[i]?, l[j]? with
  | some x, some y => (l.set i y).set j x
  | _, _ => l
theorem swp_len (l : List Ar) (i j : Nat) : (swp l i j).length = l.length := by
  unfold swp
  split <;> simp
def swpN (l : List Ar) (a b : Nat) : Nat → List Ar
  | 0 => l
  | n + 1 => swp (swpN l a b n) (a + n) (b + n)
theorem swpN_len (l : List Ar) (a b : Nat) : ∀ n, (swpN l a b n).length = l.length
  | 0 => rfl
  | n + 1 => by rw [swpN, swp_len, swpN_len l a b n]
set_option maxHeartbeats 4000000 in
theorem swapRange_T (l : List Ar) (a b n : Nat) (ha : a + n ≤ l.length) (hb : b + n ≤ l.length) (hl : l.length ≤ 40) : FunO Tryz.prog 176 [.osl 1000, .fv (.int .i64 a), .fv (.int .i64 b), .fv (.int .i64 n), .fn 78 []] [(1000, arRw l)] (.tup []) [(1000, arRw (swpN l a b n))] := by
  refine FunO.bodyL tbl_ok Tryz.func176 rfl (by kernel_rfl) rfl rfl rfl ?_
  have hlen := swpN_len l a b
  unfold arRw
  repeat' (first | refine X.loc ?_ | refine nx ?_ | refine X.cdT ?_ | refine X.cdF ?_ | (refine WP.condBit rfl ?_ ?_) | (refine WP.cond rfl ?_ ?_ <;> intro hcond) | refine rb ?_ | refine nd ?_ | refine dk ?_ | fail)
  refine WP.loop (ι := Nat) (fun i => ⟨[(0, .osl 1000), (1, .fv (.int .i64 a)), (2, .fv (.int .i64 b)), (3, .fv (.int .i64 n)), (10, .fv (.int .i64 i))], [(1000, .row 41 9 (swpN l a b i).length (((swpN l a b i).flatMap encAr).map .fv))]⟩) (fun i => i ≤ n) (fun i => n - i) 0 (by omega) ?_ ?_
  · try dsimp only
    rw [show swpN l a b 0 = l from rfl]
    refine St.to [] [] rfl rfl ?_ ?_ <;> (repeat' (first | exact tA | refine t1 ?_ | exact tB | refine t2 ?_ ?_ | refine t3 ?_ | refine t4 ?_ ?_ | refine .ofEq ?_ | refine OB.To.cut rfl rfl ?_ ?_ ?_ ?_ | refine OB.To.box rfl rfl ?_ | refine ⟨⟨_, rfl, ?_⟩, ?_⟩ | refine ⟨?_, ?_⟩ | fail))
  rintro i hi
  try dsimp only
  by_cases hlt : i < n
  case neg =>
    obtain rfl : i = n := by omega
    generalize swpN l a b i = R at *
    repeat' (first | refine X.loc ?_ | refine nx ?_ | refine X.cdT ?_ | refine X.cdF ?_ | (refine WP.condBit rfl ?_ ?_) | (refine WP.cond rfl ?_ ?_ <;> intro hcond) | refine rb ?_ | refine nd ?_ | refine dk ?_ | fail)
    refine .ofL (s' := ⟨[], [(1000, .row 41 9 R.length ((R.flatMap encAr).map .fv))]⟩) (by first | exact .inl rfl | exact .inr rfl) ?_ rfl rfl (by repeat' (first | exact trivial | refine ⟨⟨_, rfl, fun _ _ _ _ h => h⟩, ?_⟩))
    refine St.to [] [] rfl rfl ?_ ?_ <;> (repeat' (first | exact tA | refine t1 ?_ | exact tB | refine t2 ?_ ?_ | refine t3 ?_ | refine t4 ?_ ?_ | refine .ofEq ?_ | refine OB.To.cut rfl rfl ?_ ?_ ?_ ?_ | refine OB.To.box rfl rfl ?_ | refine ⟨⟨_, rfl, ?_⟩, ?_⟩ | refine ⟨?_, ?_⟩ | fail))
  case pos =>
    have h1 := hlen i
    have hs : swpN l a b (i + 1) = swp (swpN l a b i) (a + i) (b + i) := rfl
    generalize swpN l a b i = R at *
    obtain ⟨x, hx⟩ : ∃ x, R[a + i]? = some x := ⟨_, List.getElem?_eq_getElem (by omega)⟩
    obtain ⟨y, hy⟩ : ∃ y, R[b + i]? = some y := ⟨_, List.getElem?_eq_getElem (by omega)⟩
    rw [swp, hx, hy] at hs
    try dsimp only at hs
    have s1 := setAl (l := R) (i := a + i) (off := ((a : Int) + (i : Int)).toNat * 9) (x := y) (by omega) (by omega)
    have s2 := setAl (l := R.set (a + i) y) (i := b + i) (off := ((b : Int) + (i : Int)).toNat * 9) (x := x) (by omega) (by rw [List.length_set]; omega)
    repeat' (first | (apply X.loE; (· exact aR); (· first | (exact .eff (.loadO rfl rfl (readAl (i := a + i) (by omega) hx))) | (exact .eff (.loadO rfl rfl (readAl (i := b + i) (by omega) hy))))) | refine X.loc ?_ | (apply X.stRE; (· exact aS); (· exact s1); (· exact aE)) | (apply X.stRE; (· exact aS); (· exact s2); (· exact aE)) | refine nx ?_ | refine X.cdT ?_ | refine X.cdF ?_ | (refine WP.condBit rfl ?_ ?_) | (refine WP.cond rfl ?_ ?_ <;> intro hcond) | (apply X.gsE; (· exact aR); (· exact aV); (· exact aW); (· intro hc; first | (exact .eff (.loadO rfl rfl (readAl (i := a + i) (by omega) hx))) | (exact .eff (.loadO rfl rfl (readAl (i := b + i) (by omega) hy)))); (· exact aR)) | refine rb ?_ | refine nd ?_ | refine dk ?_ | fail)
    refine ⟨i + 1, by omega, by omega, ?_⟩
    try dsimp only
    rw [hs]
    refine St.to [] [] rfl rfl ?_ ?_ <;> (repeat' (first | exact tA | refine t1 ?_ | exact tB | refine t2 ?_ ?_ | refine t3 ?_ | refine t4 ?_ ?_ | refine .ofEq ?_ | refine OB.To.cut rfl rfl ?_ ?_ ?_ ?_ | refine OB.To.box rfl rfl ?_ | refine ⟨⟨_, rfl, ?_⟩, ?_⟩ | refine ⟨?_, ?_⟩ | fail))
    all_goals first | omega | (simp; done)
end Go.Proofs.YtmidechdlbcepaaGreat.AS

namespace Go.Proofs.YtmidechdlbcepaaGreat.AS
open Go.RowKit
set_option maxRecDepth 100000

def ltA (x y : Option Ar) : Bool := match x, y with
  | some x, some y => decide (cmpA x y < 0)
  | _, _ => false
def bub (a : Nat) : Nat → List Ar → List Ar
  | 0, l => l
  | j + 1, l => if a < j + 1 ∧ ltA l[j + 1]? l[j]? = true then bub a j (swp l (j + 1) j) else l
theorem bub_len (a : Nat) : ∀ (j : Nat) (l : List Ar), (bub a j l).length = l.length
  | 0, _ => rfl
  | j + 1, l => by
    rw [bub]
    split
    · rw [bub_len a j, swp_len]
    · rfl
def insN (l : List Ar) (a : Nat) : Nat → List Ar
  | 0 => l
  | k + 1 => bub a (a + 1 + k) (insN l a k)
theorem insN_len (l : List Ar) (a : Nat) : ∀ k, (insN l a k).length = l.length
  | 0 => rfl
  | k + 1 => by rw [insN, bub_len, insN_len l a k]
theorem swp_mem {l : List Ar} {i j : Nat} {x : Ar} (h : x ∈ swp l i j) : x ∈ l := by
  unfold swp at h
  split at h
  · rename_i a b h1 h2
    rcases List.mem_or_eq_of_mem_set h with h | rfl
    · rcases List.mem_or_eq_of_mem_set h with h | rfl
      · exact h
      · exact List.mem_of_getElem? h2
    · exact List.mem_of_getElem? h1
  · exact h
theorem bub_mem {a : Nat} : ∀ {j : Nat} {l : List Ar} {x : Ar}, x ∈ bub a j l → x ∈ l
  | 0, _, _, h => h
  | j + 1, l, x, h => by
    rw [bub] at h
    split at h
    · exact swp_mem (bub_mem h)
    · exact h
theorem insN_mem {l : List Ar} {a : Nat} {x : Ar} : ∀ {k : Nat}, x ∈ insN l a k → x ∈ l
  | 0, h => h
  | k + 1, h => insN_mem (bub_mem h)
set_option maxHeartbeats 8000000 in
theorem insertion_T (l : List Ar) (a b : Nat) (hr : ∀ x ∈ l, ArR x) (ha : a ≤ b) (hb : b ≤ l.length) (hl : l.length ≤ 40) : FunO Tryz.prog 143 [.osl 1000, .fv (.int .i64 a), .fv (.int .i64 b), .fn 78 []] [(1000, arRw l)] (.tup []) [(1000, arRw (insN l a (b - (a + 1))))] := by
  refine FunO.bodyL tbl_ok Tryz.func143 rfl (by kernel_rfl) rfl rfl rfl ?_
  have hlen := insN_len l a
  have hmem := fun k x => @insN_mem l a x k
  unfold arRw
  repeat' (first | refine X.loc ?_ | refine nx ?_ | refine X.cdT ?_ | refine X.cdF ?_ | (refine WP.condBit rfl ?_ ?_) | (refine WP.cond rfl ?_ ?_ <;> intro hcond) | refine rb ?_ | refine nd ?_ | refine dk ?_ | fail)
  refine WP.loop (ι := Nat) (fun k => ⟨[(0, .osl 1000), (1, .fv (.int .i64 a)), (2, .fv (.int .i64 b)), (3, .fn 78 []), (8, .fv (.int .i64 (a + 1 + k : Nat)))], [(1000, .row 41 9 (insN l a k).length (((insN l a k).flatMap encAr).map .fv))]⟩) (fun k => k ≤ b - (a + 1)) (fun k => b - (a + 1) - k) 0 (by omega) ?_ ?_
  · try dsimp only
    rw [show insN l a 0 = l from rfl, show ((a + 1 + 0 : Nat) : Int) = (a : Int) + 1 by omega]
    refine St.to [] [] rfl rfl ?_ ?_ <;> (repeat' (first | exact tA | refine t1 ?_ | exact tB | refine t2 ?_ ?_ | refine t3 ?_ | refine t4 ?_ ?_ | refine .ofEq ?_ | refine OB.To.cut rfl rfl ?_ ?_ ?_ ?_ | refine OB.To.box rfl rfl ?_ | refine ⟨⟨_, rfl, ?_⟩, ?_⟩ | refine ⟨?_, ?_⟩ | fail))
  rintro k hk
  try dsimp only
  rw [show ((a + 1 + k : Nat) : Int) = (a : Int) + 1 + (k : Int) by omega]
  by_cases hlt : a + 1 + k < b
  case neg =>
    obtain rfl : k = b - (a + 1) := by omega
    generalize insN l a (b - (a + 1)) = R at *
    repeat' (first | refine X.loc ?_ | refine nx ?_ | refine X.cdT ?_ | refine X.cdF ?_ | (refine WP.condBit rfl ?_ ?_) | (refine WP.cond rfl ?_ ?_ <;> intro hcond) | refine rb ?_ | refine nd ?_ | refine dk ?_ | fail)
    refine .ofL (s' := ⟨[], [(1000, .row 41 9 R.length ((R.flatMap encAr).map .fv))]⟩) (by first | exact .inl rfl | exact .inr rfl) ?_ rfl rfl (by repeat' (first | exact trivial | refine ⟨⟨_, rfl, fun _ _ _ _ h => h⟩, ?_⟩))
    refine St.to [] [] rfl rfl ?_ ?_ <;> (repeat' (first | exact tA | refine t1 ?_ | exact tB | refine t2 ?_ ?_ | refine t3 ?_ | refine t4 ?_ ?_ | refine .ofEq ?_ | refine OB.To.cut rfl rfl ?_ ?_ ?_ ?_ | refine OB.To.box rfl rfl ?_ | refine ⟨⟨_, rfl, ?_⟩, ?_⟩ | refine ⟨?_, ?_⟩ | fail))
  case pos =>
    have h1 := hlen k
    have h2 := hmem k
    have hs : insN l a (k + 1) = bub a (a + 1 + k) (insN l a k) := rfl
    have hT := hlen (k + 1)
    rw [hs] at hT
    generalize insN l a k = R at *
    generalize hTT : bub a (a + 1 + k) R = T at *
    repeat' (first | refine X.loc ?_ | refine nx ?_ | refine X.cdT ?_ | refine X.cdF ?_ | (refine WP.condBit rfl ?_ ?_) | (refine WP.cond rfl ?_ ?_ <;> intro hcond) | refine rb ?_ | refine nd ?_ | refine dk ?_ | fail)
    refine WP.loop (ι := Nat × List Ar) (fun q => ⟨[(0, .osl 1000), (1, .fv (.int .i64 a)), (2, .fv (.int .i64 b)), (3, .fn 78 []), (8, .fv (.int .i64 ((a : Int) + 1 + (k : Int)))), (9, .fv (.int .i64 q.1))], [(1000, .row 41 9 q.2.length ((q.2.flatMap encAr).map .fv))]⟩) (fun q => q.1 ≤ a + 1 + k ∧ q.2.length = l.length ∧ (∀ x ∈ q.2, ArR x) ∧ bub a q.1 q.2 = T) (fun q => q.1) (a + 1 + k, R) ⟨by dsimp only; omega, h1, fun x hx => hr x (h2 x hx), hTT⟩ ?_ ?_
    · try dsimp only
      rw [show ((a + 1 + k : Nat) : Int) = (a : Int) + 1 + (k : Int) by omega]
      refine St.to [] [] rfl rfl ?_ ?_ <;> (repeat' (first | exact tA | refine t1 ?_ | exact tB | refine t2 ?_ ?_ | refine t3 ?_ | refine t4 ?_ ?_ | refine .ofEq ?_ | refine OB.To.cut rfl rfl ?_ ?_ ?_ ?_ | refine OB.To.box rfl rfl ?_ | refine ⟨⟨_, rfl, ?_⟩, ?_⟩ | refine ⟨?_, ?_⟩ | fail))
    rintro ⟨j, Q⟩ ⟨g1, g2, g3, g4⟩
    try dsimp only at g1 g2 g3 g4
    try dsimp only
    by_cases hja : a < j
    case neg =>
      have e : Q = T := by
        cases j with
        | zero => exact g4
        | succ j => rw [bub, if_neg (by omega)] at g4; exact g4
      subst e
      repeat' (first | refine X.loc ?_ | (refine X.gst (r := .fv (.bool false)) ?_ (hE := fun hc => absurd hc (by simp only [decide_eq_true_eq]; omega))) | refine nx ?_ | refine X.cdT ?_ | refine X.cdF ?_ | (refine WP.condBit rfl ?_ ?_) | (refine WP.cond rfl ?_ ?_ <;> intro hcond) | refine rb ?_ | refine nd ?_ | refine dk ?_ | fail)
      refine ⟨k + 1, by omega, by omega, ?_⟩
      try dsimp only
      rw [hs, show ((a + 1 + (k + 1) : Nat) : Int) = (a : Int) + 1 + (k : Int) + 1 by omega]
      refine St.to [] [] rfl rfl ?_ ?_ <;> (repeat' (first | exact tA | refine t1 ?_ | exact tB | refine t2 ?_ ?_ | refine t3 ?_ | refine t4 ?_ ?_ | refine .ofEq ?_ | refine OB.To.cut rfl rfl ?_ ?_ ?_ ?_ | refine OB.To.box rfl rfl ?_ | refine ⟨⟨_, rfl, ?_⟩, ?_⟩ | refine ⟨?_, ?_⟩ | fail))
    case pos =>
      obtain ⟨j, rfl⟩ : ∃ i, j = i + 1 := ⟨j - 1, by omega⟩
      obtain ⟨x, hx⟩ : ∃ x, Q[j + 1]? = some x := ⟨_, List.getElem?_eq_getElem (by omega)⟩
      obtain ⟨y, hy⟩ : ∃ y, Q[j]? = some y := ⟨_, List.getElem?_eq_getElem (by omega)⟩
      have hc := cmpA_T x y (g3 x (List.mem_of_getElem? hx)) (g3 y (List.mem_of_getElem? hy))
      rw [bub, hx, hy] at g4
      have hlt2 : ltA (some x) (some y) = decide (cmpA x y < 0) := rfl
      rw [hlt2] at g4
      have hsw : swp Q (j + 1) j = (Q.set (j + 1) y).set j x := by rw [swp, hx, hy]
      have hsl := swp_len Q (j + 1) j
      have hsm := fun z => @swp_mem Q (j + 1) j z
      generalize cmpA x y = o at *
      rw [show ((j + 1 : Nat) : Int) = (j : Int) + 1 by omega]
      by_cases ho : o < 0
      · rw [if_pos ⟨hja, decide_eq_true ho⟩] at g4
        have s1 := setAl (l := Q) (i := j + 1) (off := ((j : Int) + 1).toNat * 9) (x := y) (by omega) (by omega)
        have s2 := setAl (l := Q.set (j + 1) y) (i := j) (off := ((j : Int) + 1 - 1).toNat * 9) (x := x) (by omega) (by rw [List.length_set]; omega)
        rw [← hsw] at s2
        generalize swp Q (j + 1) j = Q2 at *
        repeat' (first | (apply X.loE; (· exact aR); (· first | (exact .eff (.loadO rfl rfl (readAl (i := j + 1) (by omega) hx))) | (exact .eff (.loadO rfl rfl (readAl (i := j) (by omega) hy))))) | refine X.loc ?_ | (apply X.grd; (· exact aR); (· exact decide_eq_true (by omega)); (· first |(refine X.loc ?_; exact X.nil ⟨rfl, rfl⟩) |(apply X.loE; (· exact aR); (· first |exact .eff (.loadO rfl rfl (readAl (i := j + 1) (by omega) hx)) |exact .eff (.loadO rfl rfl (readAl (i := j) (by omega) hy)) |exact .callL rfl rfl rfl hc rfl); exact X.nil ⟨rfl, rfl⟩)); (· rfl)) | (apply X.stRE; (· exact aS); (· exact s1); (· exact aE)) | (apply X.stRE; (· exact aS); (· exact s2); (· exact aE)) | refine nx ?_ | refine X.cdT ?_ | refine X.cdF ?_ | (refine WP.condBit rfl ?_ ?_) | (refine WP.cond rfl ?_ ?_ <;> intro hcond) | (apply X.gsE; (· exact aR); (· exact aV); (· exact aW); (· intro hc; first | (exact .eff (.loadO rfl rfl (readAl (i := j + 1) (by omega) hx))) | (exact .eff (.loadO rfl rfl (readAl (i := j) (by omega) hy)))); (· exact aR)) | refine rb ?_ | refine nd ?_ | refine dk ?_ | fail)
        refine ⟨(j, Q2), ⟨by dsimp only; omega, by dsimp only; omega, fun z hz => g3 z (hsm z hz), g4⟩, by dsimp only; omega, ?_⟩
        try dsimp only
        rw [show (j : Int) = (j : Int) + 1 - 1 by omega]
        refine St.to [] [] rfl rfl ?_ ?_ <;> (repeat' (first | exact tA | refine t1 ?_ | exact tB | refine t2 ?_ ?_ | refine t3 ?_ | refine t4 ?_ ?_ | refine .ofEq ?_ | refine OB.To.cut rfl rfl ?_ ?_ ?_ ?_ | refine OB.To.box rfl rfl ?_ | refine ⟨⟨_, rfl, ?_⟩, ?_⟩ | refine ⟨?_, ?_⟩ | fail))
        all_goals first | omega | (simp; done)
      · rw [if_neg (fun h => ho (of_decide_eq_true h.2))] at g4
        subst g4
        repeat' (first | refine X.loc ?_ | (apply X.grd; (· exact aR); (· exact decide_eq_true (by omega)); (· first |(refine X.loc ?_; exact X.nil ⟨rfl, rfl⟩) |(apply X.loE; (· exact aR); (· first |exact .eff (.loadO rfl rfl (readAl (i := j + 1) (by omega) hx)) |exact .eff (.loadO rfl rfl (readAl (i := j) (by omega) hy)) |exact .callL rfl rfl rfl hc rfl); exact X.nil ⟨rfl, rfl⟩)); (· rfl)) | refine nx ?_ | refine X.cdT ?_ | refine X.cdF ?_ | (refine WP.condBit rfl ?_ ?_) | (refine WP.cond rfl ?_ ?_ <;> intro hcond) | refine rb ?_ | refine nd ?_ | refine dk ?_ | fail)
        refine ⟨k + 1, by omega, by omega, ?_⟩
        try dsimp only
        rw [hs, show ((a + 1 + (k + 1) : Nat) : Int) = (a : Int) + 1 + (k : Int) + 1 by omega]
        refine St.to [] [] rfl rfl ?_ ?_ <;> (repeat' (first | exact tA | refine t1 ?_ | exact tB | refine t2 ?_ ?_ | refine t3 ?_ | refine t4 ?_ ?_ | refine .ofEq ?_ | refine OB.To.cut rfl rfl ?_ ?_ ?_ ?_ | refine OB.To.box rfl rfl ?_ | refine ⟨⟨_, rfl, ?_⟩, ?_⟩ | refine ⟨?_, ?_⟩ | fail))
end Go.Proofs.YtmidechdlbcepaaGreat.AS

namespace Go.Proofs.YtmidechdlbcepaaGreat.AS
open Go.RowKit

theorem swp_two (Q D : List Ar) (x y : Ar) : swp (Q ++ y :: x :: D) (Q.length + 1) Q.length = Q ++ x :: y :: D := by
  have h1 : (Q ++ y :: x :: D)[Q.length + 1]? = some x := by rw [List.getElem?_append_right (by omega)]; simp
  have h2 : (Q ++ y :: x :: D)[Q.length]? = some y := by rw [List.getElem?_append_right (by omega)]; simp
  rw [swp, h1, h2]
  dsimp only
  rw [List.set_append_right _ _ (by omega), List.set_append_right _ _ (by omega)]
  simp
theorem StabA.snoc {R S : List Ar} {x y : Ar} (h : StabA R (S ++ [x])) (hy : ∀ z ∈ S, y.prio ≤ z.prio) (hxy : y.prio < x.prio) : StabA (R ++ [y]) (S ++ [y] ++ [x]) := by
  refine ⟨List.pairwise_append.2 ⟨h.ord, List.pairwise_singleton _ _, fun z hz w hw => ?_⟩, fun p => ?_⟩
  · obtain rfl := List.mem_singleton.1 hw
    rw [h.mem, List.mem_append] at hz
    rcases hz with hz | hz
    · exact hy z hz
    · obtain rfl := List.mem_singleton.1 hz
      omega
  · rw [List.filter_append, h.flt, List.filter_append, List.filter_append, List.filter_append, List.append_assoc, List.append_assoc]
    congr 1
    by_cases hx : x.prio = p
    · have : ¬ y.prio = p := by omega
      simp [hx, this]
    · simp [hx]
theorem bub_is (P : List Ar) (x : Ar) : ∀ (n : Nat) (S D : List Ar), S.length = n → S.Pairwise (fun x y => y.prio ≤ x.prio) → ∃ R, bub P.length (P.length + n) (P ++ S ++ x :: D) = P ++ R ++ D ∧ StabA R (S ++ [x])
  | 0, S, D, hn, _ => by
    obtain rfl := List.eq_nil_of_length_eq_zero hn
    refine ⟨[x], ?_, List.pairwise_singleton _ _, fun p => by simp⟩
    have e : bub P.length (P.length + 0) (P ++ [] ++ x :: D) = P ++ [] ++ x :: D := by
      cases h : P.length with
      | zero => rfl
      | succ k => rw [Nat.add_zero, bub, if_neg (by omega)]
    rw [e]
    simp
  | n + 1, S, D, hn, hS => by
    obtain ⟨S', y, rfl⟩ : ∃ S' y, S = S' ++ [y] := by
      rcases List.eq_nil_or_concat S with rfl | ⟨S', y, h⟩
      · simp at hn
      · exact ⟨S', y, by simpa using h⟩
    have hn' : S'.length = n := by simpa using hn
    obtain ⟨h1, _, h2⟩ := List.pairwise_append.1 hS
    have hl : P ++ (S' ++ [y]) ++ x :: D = (P ++ S') ++ y :: x :: D := by simp
    have hQ : (P ++ S').length = P.length + n := by simp [hn']
    have e1 : ((P ++ S') ++ y :: x :: D)[P.length + n + 1]? = some x := by rw [List.getElem?_append_right (by omega), hQ]; simp
    have e2 : ((P ++ S') ++ y :: x :: D)[P.length + n]? = some y := by rw [List.getElem?_append_right (by omega), hQ]; simp
    rw [hl, ← Nat.add_assoc, bub, e1, e2]
    by_cases hxy : y.prio < x.prio
    · rw [if_pos ⟨by omega, decide_eq_true (show cmpA x y < 0 by unfold cmpA; omega)⟩, ← hQ, swp_two, hQ]
      obtain ⟨R, r1, r2⟩ := bub_is P x n S' (y :: D) hn' h1
      refine ⟨R ++ [y], ?_, r2.snoc (fun z hz => h2 z hz y (by simp)) hxy⟩
      rw [r1]
      simp
    · rw [if_neg (fun h => hxy (by have h3 : cmpA x y < 0 := of_decide_eq_true h.2; unfold cmpA at h3; omega))]
      refine ⟨S' ++ [y] ++ [x], by simp, ?_, fun _ => rfl⟩
      refine List.pairwise_append.2 ⟨hS, List.pairwise_singleton _ _, fun z hz w hw => ?_⟩
      obtain rfl := List.mem_singleton.1 hw
      rcases List.mem_append.1 hz with hz | hz
      · have := h2 z hz y (by simp)
        omega
      · obtain rfl := List.mem_singleton.1 hz
        omega
theorem StabA.trans {R S T : List Ar} (h : StabA R (S ++ T)) {U : List Ar} (hS : StabA S U) : StabA R (U ++ T) := ⟨h.ord, fun p => by rw [h.flt, List.filter_append, List.filter_append, hS.flt]⟩
theorem insN_is (l : List Ar) (a : Nat) : ∀ k, a + 1 + k ≤ l.length → ∃ R, insN l a k = l.take a ++ R ++ l.drop (a + 1 + k) ∧ StabA R ((l.take (a + 1 + k)).drop a)
  | 0, h => by
    obtain ⟨x, hx⟩ : ∃ x, l[a]? = some x := ⟨_, List.getElem?_eq_getElem (by omega)⟩
    refine ⟨(l.take (a + 1)).drop a, ?_, ?_, fun _ => rfl⟩
    · rw [insN]
      have e : l.take a = (l.take (a + 1)).take a := by rw [List.take_take, Nat.min_eq_left (by omega)]
      rw [e, List.take_append_drop, Nat.add_zero, List.take_append_drop]
    · rw [List.take_add_one, hx, List.drop_append_of_le_length (by rw [List.length_take]; omega), List.drop_eq_nil_of_le (by rw [List.length_take]; omega)]
      simp
  | k + 1, h => by
    obtain ⟨S, e, hS⟩ := insN_is l a k (by omega)
    obtain ⟨x, hx⟩ : ∃ x, l[a + 1 + k]? = some x := ⟨_, List.getElem?_eq_getElem (by omega)⟩
    have hd : l.drop (a + 1 + k) = x :: l.drop (a + 1 + k + 1) := by rw [List.drop_eq_getElem_cons (by omega), (List.getElem?_eq_some_iff.1 hx).2]
    have hPl : (l.take a).length = a := by rw [List.length_take]; omega
    have hSl : S.length = 1 + k := by
      have h1 := congrArg List.length e
      rw [insN_len, List.length_append, List.length_append, hPl, List.length_drop] at h1
      omega
    obtain ⟨R, r1, r2⟩ := bub_is (l.take a) x (1 + k) S (l.drop (a + 1 + k + 1)) hSl hS.ord
    refine ⟨R, ?_, ?_⟩
    · rw [insN, e, hd]
      rw [hPl, ← Nat.add_assoc] at r1
      exact r1
    · have h3 := r2.trans hS
      have e4 : (l.take (a + 1 + (k + 1))).drop a = (l.take (a + 1 + k)).drop a ++ [x] := by
        rw [show a + 1 + (k + 1) = a + 1 + k + 1 by omega, List.take_add_one, hx, List.drop_append_of_le_length (by rw [List.length_take]; omega)]
        rfl
      rw [e4]
      exact h3
theorem insN_sort (l : List Ar) {a b : Nat} (ha : a ≤ b) (hb : b ≤ l.length) : insN l a (b - (a + 1)) = l.take a ++ sortA ((l.take b).drop a) ++ l.drop b := by
  by_cases h : a = b
  · subst h
    rw [show a - (a + 1) = 0 by omega, insN, List.drop_eq_nil_of_le (by rw [List.length_take]; omega)]
    have : sortA [] = [] := by simp [sortA]
    rw [this]
    simp
  · obtain ⟨R, e, hR⟩ := insN_is l a (b - (a + 1)) (by omega)
    rw [show a + 1 + (b - (a + 1)) = b by omega] at e hR
    rw [e, hR.is]
end Go.Proofs.YtmidechdlbcepaaGreat.AS

namespace Go.Proofs.YtmidechdlbcepaaGreat.AS
open Go.RowKit
set_option maxRecDepth 100000

def rotL (l : List Ar) (m i j : Nat) : List Ar :=
  if h : i = j ∨ i = 0 ∨ j = 0 then swpN l (m - i) m i
  else if j < i then rotL (swpN l (m - i) m j) m (i - j) j
  else rotL (swpN l (m - i) (m + j - i) i) m i (j - i)
termination_by i + j
decreasing_by all_goals omega
theorem rotL_len (l : List Ar) (m i j : Nat) : (rotL l m i j).length = l.length := by
  unfold rotL
  split
  · exact swpN_len ..
  · split
    · rw [rotL_len, swpN_len]
    · rw [rotL_len, swpN_len]
termination_by i + j
decreasing_by all_goals omega
set_option maxHeartbeats 4000000 in
theorem rotate_T (l : List Ar) (a m b : Nat) (ha : a < m) (hm : m < b) (hb : b ≤ l.length) (hl : l.length ≤ 40) : FunO Tryz.prog 159 [.osl 1000, .fv (.int .i64 a), .fv (.int .i64 m), .fv (.int .i64 b), .fn 78 []] [(1000, arRw l)] (.tup []) [(1000, arRw (rotL l m (m - a) (b - m)))] := by
  refine FunO.bodyL tbl_ok Tryz.func159 rfl (by kernel_rfl) rfl rfl rfl ?_
  have hTl := rotL_len l m (m - a) (b - m)
  generalize hT : rotL l m (m - a) (b - m) = T at *
  have sw := fun R a b n h1 h2 h3 => swapRange_T R a b n h1 h2 h3
  unfold arRw at sw
  unfold arRw
  repeat' (first | refine X.loc ?_ | refine nx ?_ | refine X.cdT ?_ | refine X.cdF ?_ | (refine WP.condBit rfl ?_ ?_) | (refine WP.cond rfl ?_ ?_ <;> intro hcond) | refine rb ?_ | refine nd ?_ | refine dk ?_ | fail)
  refine WP.loop (ι := Nat × Nat × List Ar) (fun q => ⟨[(0, .osl 1000), (2, .fv (.int .i64 m)), (4, .fn 78 []), (10, .fv (.int .i64 q.1)), (11, .fv (.int .i64 q.2.1))], [(1000, .row 41 9 q.2.2.length ((q.2.2.flatMap encAr).map .fv))]⟩) (fun q => 0 < q.1 ∧ 0 < q.2.1 ∧ q.1 ≤ m ∧ m + q.2.1 ≤ q.2.2.length ∧ q.2.2.length = l.length ∧ rotL q.2.2 m q.1 q.2.1 = T) (fun q => q.1 + q.2.1) (m - a, b - m, l) ⟨by dsimp only; omega, by dsimp only; omega, by dsimp only; omega, by dsimp only; omega, rfl, hT⟩ ?_ ?_
  · try dsimp only
    rw [show ((m - a : Nat) : Int) = (m : Int) - (a : Int) by omega, show ((b - m : Nat) : Int) = (b : Int) - (m : Int) by omega]
    refine St.to [] [] rfl rfl ?_ ?_ <;> (repeat' (first | exact tA | refine t1 ?_ | exact tB | refine t2 ?_ ?_ | refine t3 ?_ | refine t4 ?_ ?_ | refine .ofEq ?_ | refine OB.To.cut rfl rfl ?_ ?_ ?_ ?_ | refine OB.To.box rfl rfl ?_ | refine ⟨⟨_, rfl, ?_⟩, ?_⟩ | refine ⟨?_, ?_⟩ | fail))
  rintro ⟨i, j, R⟩ ⟨g1, g2, g3, g4, g5, g6⟩
  try dsimp only at g1 g2 g3 g4 g5 g6
  try dsimp only
  rw [rotL] at g6
  by_cases hij : i = j
  · subst hij
    rw [dif_pos (.inl rfl)] at g6
    have u1 := sw R (m - i) m i (by omega) (by omega) (by omega)
    rw [g6, show ((m - i : Nat) : Int) = (m : Int) - (i : Int) by omega] at u1
    clear g6 hT
    repeat' (first | refine X.loc ?_ | refine nx ?_ | refine X.cdT ?_ | refine X.cdF ?_ | (refine WP.condBit rfl ?_ ?_) | (refine WP.cond rfl ?_ ?_ <;> intro hcond) | refine rb ?_ | refine X.c0 (u1) ?_ | refine nd ?_ | refine dk ?_ | fail)
    refine .ofL (s' := ⟨[], [(1000, .row 41 9 T.length ((T.flatMap encAr).map .fv))]⟩) (by first | exact .inl rfl | exact .inr rfl) ?_ rfl rfl (by repeat' (first | exact trivial | refine ⟨⟨_, rfl, fun _ _ _ _ h => h⟩, ?_⟩))
    refine St.to [] [] rfl rfl ?_ ?_ <;> (repeat' (first | exact tA | refine t1 ?_ | exact tB | refine t2 ?_ ?_ | refine t3 ?_ | refine t4 ?_ ?_ | refine .ofEq ?_ | refine OB.To.cut rfl rfl ?_ ?_ ?_ ?_ | refine OB.To.box rfl rfl ?_ | refine ⟨⟨_, rfl, ?_⟩, ?_⟩ | refine ⟨?_, ?_⟩ | fail))
  · rw [dif_neg (by omega)] at g6
    by_cases hlt : j < i
    · rw [if_pos hlt] at g6
      have u1 := sw R (m - i) m j (by omega) (by omega) (by omega)
      have hl1 := swpN_len R (m - i) m j
      generalize swpN R (m - i) m j = R2 at *
      rw [show ((m - i : Nat) : Int) = (m : Int) - (i : Int) by omega] at u1
      repeat' (first | refine X.loc ?_ | refine nx ?_ | refine X.cdT ?_ | refine X.cdF ?_ | (refine WP.condBit rfl ?_ ?_) | (refine WP.cond rfl ?_ ?_ <;> intro hcond) | refine rb ?_ | refine X.c0 (u1) ?_ | refine nd ?_ | refine dk ?_ | fail)
      refine ⟨(i - j, j, R2), ⟨by dsimp only; omega, g2, by dsimp only; omega, by dsimp only; omega, by dsimp only; omega, g6⟩, by dsimp only; omega, ?_⟩
      try dsimp only
      rw [show ((i - j : Nat) : Int) = (i : Int) - (j : Int) by omega]
      refine St.to [] [] rfl rfl ?_ ?_ <;> (repeat' (first | exact tA | refine t1 ?_ | exact tB | refine t2 ?_ ?_ | refine t3 ?_ | refine t4 ?_ ?_ | refine .ofEq ?_ | refine OB.To.cut rfl rfl ?_ ?_ ?_ ?_ | refine OB.To.box rfl rfl ?_ | refine ⟨⟨_, rfl, ?_⟩, ?_⟩ | refine ⟨?_, ?_⟩ | fail))
    · rw [if_neg hlt] at g6
      have u1 := sw R (m - i) (m + j - i) i (by omega) (by omega) (by omega)
      have hl1 := swpN_len R (m - i) (m + j - i) i
      generalize swpN R (m - i) (m + j - i) i = R2 at *
      rw [show ((m - i : Nat) : Int) = (m : Int) - (i : Int) by omega, show ((m + j - i : Nat) : Int) = (m : Int) + (j : Int) - (i : Int) by omega] at u1
      repeat' (first | refine X.loc ?_ | refine nx ?_ | refine X.cdT ?_ | refine X.cdF ?_ | (refine WP.condBit rfl ?_ ?_) | (refine WP.cond rfl ?_ ?_ <;> intro hcond) | refine rb ?_ | refine X.c0 (u1) ?_ | refine nd ?_ | refine dk ?_ | fail)
      refine ⟨(i, j - i, R2), ⟨g1, by dsimp only; omega, g3, by dsimp only; omega, by dsimp only; omega, g6⟩, by dsimp only; omega, ?_⟩
      try dsimp only
      rw [show ((j - i : Nat) : Int) = (j : Int) - (i : Int) by omega]
      refine St.to [] [] rfl rfl ?_ ?_ <;> (repeat' (first | exact tA | refine t1 ?_ | exact tB | refine t2 ?_ ?_ | refine t3 ?_ | refine t4 ?_ ?_ | refine .ofEq ?_ | refine OB.To.cut rfl rfl ?_ ?_ ?_ ?_ | refine OB.To.box rfl rfl ?_ | refine ⟨⟨_, rfl, ?_⟩, ?_⟩ | refine ⟨?_, ?_⟩ | fail))
end Go.Proofs.YtmidechdlbcepaaGreat.AS

namespace Go.Proofs.YtmidechdlbcepaaGreat.AS
open Go.RowKit

theorem swp_gen (U V W : List Ar) (x y : Ar) : swp (U ++ x :: (V ++ y :: W)) U.length (U.length + 1 + V.length) = U ++ y :: (V ++ x :: W) := by
  have h1 : (U ++ x :: (V ++ y :: W))[U.length]? = some x := by rw [List.getElem?_append_right (by omega)]; simp
  have h2 : (U ++ x :: (V ++ y :: W))[U.length + 1 + V.length]? = some y := by
    rw [List.getElem?_append_right (by omega), show U.length + 1 + V.length - U.length = V.length + 1 by omega, List.getElem?_cons_succ, List.getElem?_append_right (by omega)]
    simp
  rw [swp, h1, h2]
  dsimp only
  rw [List.set_append_right _ _ (by omega), Nat.sub_self, List.set_cons_zero, List.set_append_right _ _ (by omega), show U.length + 1 + V.length - U.length = V.length + 1 by omega, List.set_cons_succ, List.set_append_right _ _ (by omega), Nat.sub_self, List.set_cons_zero]
theorem swpN_is (P X M Y Q : List Ar) (h : X.length = Y.length) : ∀ k, k ≤ X.length → swpN (P ++ X ++ M ++ Y ++ Q) P.length (P.length + X.length + M.length) k = P ++ Y.take k ++ X.drop k ++ M ++ X.take k ++ Y.drop k ++ Q
  | 0, _ => by simp [swpN]
  | k + 1, hk => by
    have ih := swpN_is P X M Y Q h k (by omega)
    obtain ⟨x, hx⟩ : ∃ x, X[k]? = some x := ⟨_, List.getElem?_eq_getElem (by omega)⟩
    obtain ⟨y, hy⟩ : ∃ y, Y[k]? = some y := ⟨_, List.getElem?_eq_getElem (by omega)⟩
    have dx : X.drop k = x :: X.drop (k + 1) := by rw [List.drop_eq_getElem_cons (by omega), (List.getElem?_eq_some_iff.1 hx).2]
    have dy : Y.drop k = y :: Y.drop (k + 1) := by rw [List.drop_eq_getElem_cons (by omega), (List.getElem?_eq_some_iff.1 hy).2]
    have tx : X.take (k + 1) = X.take k ++ [x] := by rw [List.take_add_one, hx]; rfl
    have ty : Y.take (k + 1) = Y.take k ++ [y] := by rw [List.take_add_one, hy]; rfl
    rw [swpN, ih, dx, dy, tx, ty]
    have e : P ++ Y.take k ++ x :: X.drop (k + 1) ++ M ++ X.take k ++ y :: Y.drop (k + 1) ++ Q = (P ++ Y.take k) ++ x :: ((X.drop (k + 1) ++ M ++ X.take k) ++ y :: (Y.drop (k + 1) ++ Q)) := by simp
    have l1 : P.length + k = (P ++ Y.take k).length := by rw [List.length_append, List.length_take]; omega
    have l2 : P.length + X.length + M.length + k = (P ++ Y.take k).length + 1 + (X.drop (k + 1) ++ M ++ X.take k).length := by
      simp only [List.length_append, List.length_take, List.length_drop]
      omega
    rw [e, l1, l2, swp_gen]
    simp
theorem swpN_all (P X M Y Q : List Ar) (h : X.length = Y.length) : swpN (P ++ X ++ M ++ Y ++ Q) P.length (P.length + X.length + M.length) X.length = P ++ Y ++ M ++ X ++ Q := by
  rw [swpN_is P X M Y Q h X.length (Nat.le_refl _), List.take_length, List.drop_length, h, List.take_length, List.drop_length]
  simp
theorem rotL_is : ∀ (n : Nat) (P X Y Q : List Ar), X.length + Y.length = n → 0 < X.length → 0 < Y.length → rotL (P ++ X ++ Y ++ Q) (P.length + X.length) X.length Y.length = P ++ Y ++ X ++ Q := by
  intro n
  induction n using Nat.strongRecOn with
  | _ n ih =>
    intro P X Y Q hn h1 h2
    rw [rotL]
    by_cases he : X.length = Y.length
    · rw [dif_pos (.inl he), show P.length + X.length - X.length = P.length by omega]
      have := swpN_all P X [] Y Q he
      simpa using this
    · rw [dif_neg (by omega)]
      by_cases hlt : Y.length < X.length
      · rw [if_pos hlt, show P.length + X.length - X.length = P.length by omega]
        have e1 : X = X.take Y.length ++ X.drop Y.length := (List.take_append_drop _ _).symm
        have l1 : (X.take Y.length).length = Y.length := by rw [List.length_take]; omega
        have l2 : (X.drop Y.length).length = X.length - Y.length := List.length_drop
        generalize X.take Y.length = X1 at *
        generalize X.drop Y.length = X2 at *
        have hs := swpN_all P X1 X2 Y Q l1
        have hx : X.length = X1.length + X2.length := by rw [e1, List.length_append]
        have e2 : P ++ X ++ Y ++ Q = P ++ X1 ++ X2 ++ Y ++ Q := by rw [e1]; simp
        rw [e2, show P.length + X.length = P.length + X1.length + X2.length by omega, ← l1, hs]
        have hr := ih (X2.length + X1.length) (by omega) (P ++ Y) X2 X1 Q rfl (by omega) (by omega)
        rw [show X.length - X1.length = X2.length by omega, show P.length + X1.length + X2.length = (P ++ Y).length + X2.length by rw [List.length_append]; omega, hr, e1]
        simp
      · rw [if_neg hlt, show P.length + X.length - X.length = P.length by omega]
        have e1 : Y = Y.take (Y.length - X.length) ++ Y.drop (Y.length - X.length) := (List.take_append_drop _ _).symm
        have l1 : (Y.take (Y.length - X.length)).length = Y.length - X.length := by rw [List.length_take]; omega
        have l2 : (Y.drop (Y.length - X.length)).length = X.length := by rw [List.length_drop]; omega
        generalize Y.take (Y.length - X.length) = Y1 at *
        generalize Y.drop (Y.length - X.length) = Y2 at *
        have hs := swpN_all P X Y1 Y2 Q l2.symm
        have hy : Y.length = Y1.length + Y2.length := by rw [e1, List.length_append]
        have e2 : P ++ X ++ Y ++ Q = P ++ X ++ Y1 ++ Y2 ++ Q := by rw [e1]; simp
        rw [e2, show P.length + X.length + Y.length - X.length = P.length + X.length + Y1.length by omega, hs]
        have hr := ih (Y2.length + Y1.length) (by omega) P Y2 Y1 (X ++ Q) rfl (by omega) (by omega)
        have e3 : P ++ Y2 ++ Y1 ++ X ++ Q = P ++ Y2 ++ Y1 ++ (X ++ Q) := by simp
        rw [e3, ← l1, show P.length + X.length = P.length + Y2.length by omega, ← l2, hr, e1]
        simp
end Go.Proofs.YtmidechdlbcepaaGreat.AS

namespace Go.Proofs.YtmidechdlbcepaaGreat.AS
open Go.RowKit
set_option maxRecDepth 100000

theorem U64.wrap {a : Int} (h1 : 0 ≤ a) (h2 : a ≤ 9223372036854775807) : IntKind.u64.wrap a = a := by
  simp [IntKind.wrap, IntKind.signed, IntKind.bits]
  omega
theorem ord_at {l : List Ar} {a b i j : Nat} (h : ((l.take b).drop a).Pairwise fun x y => y.prio ≤ x.prio) (hi : a ≤ i) (hij : i ≤ j) (hj : j < b) {x y : Ar} (hx : l[i]? = some x) (hy : l[j]? = some y) : y.prio ≤ x.prio := by
  rcases Nat.lt_or_ge i j with hlt | hge
  · have e1 : ((l.take b).drop a)[i - a]? = some x := by rw [List.getElem?_drop, show a + (i - a) = i by omega, List.getElem?_take_of_lt (by omega), hx]
    have e2 : ((l.take b).drop a)[j - a]? = some y := by rw [List.getElem?_drop, show a + (j - a) = j by omega, List.getElem?_take_of_lt (by omega), hy]
    obtain ⟨g1, e1⟩ := List.getElem?_eq_some_iff.1 e1
    obtain ⟨g2, e2⟩ := List.getElem?_eq_some_iff.1 e2
    have := List.pairwise_iff_getElem.1 h (i - a) (j - a) g1 g2 (by omega)
    rwa [e1, e2] at this
  · obtain rfl : i = j := by omega
    rw [hx] at hy
    obtain rfl := Option.some.inj hy
    exact Int.le_refl _
end Go.Proofs.YtmidechdlbcepaaGreat.AS

namespace Go.Proofs.YtmidechdlbcepaaGreat.AS
open Go.RowKit
set_option maxRecDepth 100000

def mvF (l : List Ar) (a : Nat) : Nat → List Ar
  | 0 => l
  | t + 1 => swp (mvF l a t) (a + t) (a + t + 1)
theorem mvF_len (l : List Ar) (a : Nat) : ∀ t, (mvF l a t).length = l.length
  | 0 => rfl
  | t + 1 => by rw [mvF, swp_len, mvF_len l a t]
theorem mvF_is (P : List Ar) (x : Ar) : ∀ (Y Q : List Ar), mvF (P ++ x :: (Y ++ Q)) P.length Y.length = P ++ Y ++ x :: Q := by
  have key : ∀ (t : Nat) (Y Q : List Ar), t ≤ Y.length → mvF (P ++ x :: (Y ++ Q)) P.length t = P ++ Y.take t ++ x :: (Y.drop t ++ Q) := by
    intro t
    induction t with
    | zero => intro Y Q _; simp [mvF]
    | succ t ih =>
      intro Y Q ht
      rw [mvF, ih Y Q (by omega)]
      obtain ⟨y, hy⟩ : ∃ y, Y[t]? = some y := ⟨_, List.getElem?_eq_getElem (by omega)⟩
      have dy : Y.drop t = y :: Y.drop (t + 1) := by rw [List.drop_eq_getElem_cons (by omega), (List.getElem?_eq_some_iff.1 hy).2]
      have ty : Y.take (t + 1) = Y.take t ++ [y] := by rw [List.take_add_one, hy]; rfl
      have l1 : P.length + t = (P ++ Y.take t).length := by rw [List.length_append, List.length_take]; omega
      rw [dy, ty, l1]
      have := swp_gen (P ++ Y.take t) [] (Y.drop (t + 1) ++ Q) x y
      simp only [List.length_nil, Nat.add_zero, List.nil_append] at this
      rw [List.cons_append, this]
      simp
  intro Y Q
  have := key Y.length Y Q (Nat.le_refl _)
  simpa using this
theorem sortA_id {l : List Ar} (h : l.Pairwise fun x y => y.prio ≤ x.prio) : sortA l = l := (StabA.is ⟨h, fun _ => rfl⟩).symm
theorem mv_sort {P B1 B2 Q : List Ar} {x : Ar} (hB : (B1 ++ B2).Pairwise fun x y => y.prio ≤ x.prio) (h1 : ∀ y ∈ B1, cmpA y x < 0) (h2 : ∀ y ∈ B2, ¬ cmpA y x < 0) : mvF (P ++ x :: (B1 ++ B2 ++ Q)) P.length B1.length = P ++ sortA (x :: (B1 ++ B2)) ++ Q := by
  obtain ⟨o1, o2, o3⟩ := List.pairwise_append.1 hB
  unfold cmpA at h1 h2
  have hs := sortA_split (A1 := []) (A2 := [x]) (B1 := B1) (B2 := B2) (by simp) (by simp) (fun y hy z hz => by obtain rfl := List.mem_singleton.1 hz; have := h1 y hy; omega) o3
  have hx : sortA ([x] ++ B2) = x :: B2 := sortA_id (List.pairwise_cons.2 ⟨fun y hy => by have := h2 y hy; omega, o2⟩)
  rw [List.nil_append, List.nil_append, sortA_id o1, hx] at hs
  rw [show x :: (B1 ++ B2) = [x] ++ (B1 ++ B2) from rfl, ← hs, List.append_assoc B1 B2 Q, mvF_is]
  simp
end Go.Proofs.YtmidechdlbcepaaGreat.AS
