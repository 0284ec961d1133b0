import Derived.Test.YtmidechdlbcepaaPack30
import Derived.Test.YtmidechdlbcepaaPack28
import Derived.Test.YtmidechdlbcepaaPack27
import Derived.Test.YtmidechdlbcepaaPack24
import Derived.Test.YtmidechdlbcepaaPack26
set_option linter.unusedSimpArgs false
set_option linter.unusedVariables false
namespace Go.Proofs.Ytmidechdlbcepaa
open Go.RowKit
set_option maxRecDepth 100000

theorem flat_succ {α β : Type} {l : List α} {k : Nat} {x : α} (L : List β) (f : α → List β) (hx : l[k]? = some x) : L ++ (l.take (k + 1)).flatMap f = (L ++ (l.take k).flatMap f) ++ f x := by
  rw [take_succ hx]
  simp
theorem flat_len_le {α β : Type} {f : α → List β} {n m : Nat} (h : ∀ x, (f x).length ≤ n) {l : List α} (hl : l.length ≤ m) (k : Nat) : ((l.take k).flatMap f).length ≤ n * m := by
  have h1 := flat_le h (l.take k)
  have h2 : (l.take k).length ≤ m := by rw [List.length_take]; omega
  exact Nat.le_trans h1 (Nat.mul_le_mul_left n h2)
set_option maxHeartbeats 16000000 in
theorem leads_T (c : Cf) (ch : Int) (L : List Fl) (hc : CfOk c) (hL : L.length ≤ 100000) : FunO Try.prog 26 [.optr 1000 0] [(1000, mkB c ch 1001), (1001, flR L)] (.tup []) [(1000, mkB c ch 7), (7, flR (L ++ leadsF c (hereF c ch)))] := by
  have hps := hc.pl
  have hss := hc.sl
  have hsr := hc.sr
  have hpg := hc.pg
  have c1 := is_T
  have c2 := to_T
  have c3 := put_T
  have hh := fun L => here_T c ch L hps
  have hH : (hereF c ch).length ≤ 40 := Nat.le_trans (List.length_filter_le _ _) hps
  have aa := fun L f h => add_T c ch L f h
  unfold mkB flR mkC at aa
  unfold mkB flR mkC poR at hh
  refine FunO.bodyL tbl_ok Try.func26 rfl (by kernel_rfl) rfl rfl rfl ?_
  unfold mkB flR mkC
  repeat' (first | refine X.loc ?_ | refine nx ?_ | refine X.cdT ?_ | refine X.cdF ?_ | (refine WP.condBit rfl ?_ ?_) | (refine WP.cond rfl ?_ ?_ <;> intro hcond) | refine rb ?_ | refine nd ?_ | refine dk ?_ | fail)
  refine WP.loop (ι := Nat) (fun k => ⟨[(0, .optr 1000 0), (21, .fv (slOf encPo c.ps)), (22, .fv (.int .i64 c.ps.length)), (23, .fv (.int .i64 k))], [(1000, .box 59 ((encCf c).map .fv ++ [.fv (.int .i64 ch), .osl 900])), (900, .row 74 4 (L ++ (c.ps.take k).map leadPort).length (((L ++ (c.ps.take k).map leadPort).flatMap encFl).map .fv))]⟩) (fun k => k ≤ c.ps.length) (fun k => c.ps.length - k) 0 (by omega) ?_ ?_
  · try dsimp only
    rw [List.take_zero, List.map_nil, List.append_nil]
    refine St.to [(900, .id 1001)] [] rfl rfl ?_ ?_ <;> (repeat' (first | exact tA | refine t1 ?_ | exact tB | refine t2 ?_ ?_ | refine t3 ?_ | refine t4 ?_ ?_ | refine .ofEq ?_ | refine OB.To.cut rfl rfl ?_ ?_ ?_ ?_ | refine OB.To.box rfl rfl ?_ | refine ⟨⟨_, rfl, ?_⟩, ?_⟩ | refine ⟨?_, ?_⟩ | fail))
  rintro k hk
  try dsimp only
  by_cases hlt : k < c.ps.length
  case pos =>
    obtain ⟨x, hx⟩ : ∃ x, c.ps[k]? = some x := ⟨_, List.getElem?_eq_getElem hlt⟩
    have hs : (L ++ (c.ps.take (k + 1)).map leadPort) = (L ++ (c.ps.take k).map leadPort) ++ [leadPort x] := by
      rw [take_succ hx]
      simp
    have hOl : (L ++ (c.ps.take k).map leadPort).length ≤ 100040 := by
      rw [List.length_append, List.length_map, List.length_take]
      omega
    generalize (L ++ (c.ps.take k).map leadPort) = O at *
    have u1 := aa O (leadPort x) (by omega)
    repeat' (first | (apply X.loE; (· exact aR); (· first | exact .eff (.bsliceFS rfl rfl rfl rfl rfl rfl) | exact .callL rfl rfl rfl (by first | exact c1 _ _ | exact c2 _ | exact c3 _ _) rfl | exact bl (c1 _ _) | exact bl (c2 _) | exact bl (c3 _ _))) | refine X.loc ?_ | refine nx ?_ | refine X.cdT ?_ | refine X.cdF ?_ | (refine WP.condBit rfl ?_ ?_) | (refine WP.cond rfl ?_ ?_ <;> intro hcond) | (apply X.gsE; (· exact aR); (· exact aV); (· exact aW); (· intro hc; first | exact .eff (.bsliceFS rfl rfl rfl rfl rfl rfl) | exact .callG rfl rfl rfl (by first | exact c1 _ _ | exact c2 _ | exact c3 _ _) rfl | exact bg (c1 _ _) | exact bg (c2 _) | exact bg (c3 _ _)); (· exact aR)) | refine rb ?_ | refine X.c0 (u1) ?_ | refine nd ?_ | refine dk ?_ | fail)
    refine ⟨k + 1, by omega, by omega, ?_⟩
    try dsimp only
    rw [hs]
    refine St.to [(900, .id 40)] [] rfl rfl ?_ ?_ <;> (repeat' (first | exact tA | refine t1 ?_ | exact tB | refine t2 ?_ ?_ | refine t3 ?_ | refine t4 ?_ ?_ | refine .ofEq ?_ | refine OB.To.cut rfl rfl ?_ ?_ ?_ ?_ | refine OB.To.box rfl rfl ?_ | refine ⟨⟨_, rfl, ?_⟩, ?_⟩ | refine ⟨?_, ?_⟩ | fail))
  case neg =>
    rw [List.take_of_length_le (by omega)]
    have hOl : (L ++ c.ps.map leadPort).length ≤ 100040 := by
      rw [List.length_append, List.length_map]
      omega
    have hR : L ++ leadsF c (hereF c ch) = (L ++ c.ps.map leadPort) ++ ((hereF c ch).flatMap fun p => [leadSelf p, leadAll c p]) ++ c.ss.flatMap (leadSw c) := by simp [leadsF]
    rw [hR]
    clear hR
    generalize (L ++ c.ps.map leadPort) = O at *
    have h1 := hh O
    have e1 : (c.ps.filter fun x => !(x.ch != ch)) = hereF c ch := rfl
    rw [e1] at h1
    generalize hereF c ch = H at *
    repeat' (first | refine X.loc ?_ | refine nx ?_ | refine X.cdT ?_ | refine X.cdF ?_ | (refine WP.condBit rfl ?_ ?_) | (refine WP.cond rfl ?_ ?_ <;> intro hcond) | refine rb ?_ | refine X.c0 (h1) ?_ | refine nd ?_ | refine dk ?_ | fail)
    refine WP.loop (ι := Nat) (fun k => ⟨[(0, .optr 1000 0), (43, .osl 43), (44, .fv (.int .i64 H.length)), (45, .fv (.int .i64 k))], [(43, .row 66 5 H.length ((H.flatMap encPo).map .fv)), (1000, .box 59 ((encCf c).map .fv ++ [.fv (.int .i64 ch), .osl 900])), (900, .row 74 4 (O ++ (H.take k).flatMap fun p => [leadSelf p, leadAll c p]).length (((O ++ (H.take k).flatMap fun p => [leadSelf p, leadAll c p]).flatMap encFl).map .fv))]⟩) (fun k => k ≤ H.length) (fun k => H.length - k) 0 (by omega) ?_ ?_
    · try dsimp only
      rw [List.take_zero, List.flatMap_nil, List.append_nil]
      refine St.to [(900, .id 900)] [] rfl rfl ?_ ?_ <;> (repeat' (first | exact tA | refine t1 ?_ | exact tB | refine t2 ?_ ?_ | refine t3 ?_ | refine t4 ?_ ?_ | refine .ofEq ?_ | refine OB.To.cut rfl rfl ?_ ?_ ?_ ?_ | refine OB.To.box rfl rfl ?_ | refine ⟨⟨_, rfl, ?_⟩, ?_⟩ | refine ⟨?_, ?_⟩ | fail))
    rintro k hk
    try dsimp only
    by_cases hlt : k < H.length
    case pos =>
      obtain ⟨x, hx⟩ : ∃ x, H[k]? = some x := ⟨_, List.getElem?_eq_getElem hlt⟩
      have hs := flat_succ O (fun p => [leadSelf p, leadAll c p]) hx
      have hfl := flat_len_le (f := fun p => [leadSelf p, leadAll c p]) (n := 2) (fun _ => by simp) hH k
      have hOl2 : (O ++ (H.take k).flatMap fun p => [leadSelf p, leadAll c p]).length ≤ 100120 := by
        rw [List.length_append]
        omega
      try dsimp only at hs
      generalize (O ++ (H.take k).flatMap fun p => [leadSelf p, leadAll c p]) = Q at *
      have u1 := aa Q (leadSelf x) (by omega)
      repeat' (first | (apply X.loE; (· exact aR); (· first | exact .eff (.bsliceFS rfl rfl rfl rfl rfl rfl) | (exact .eff (.loadO rfl rfl (readPl (i := k) (by omega) hx))) | exact .callL rfl rfl rfl (c1 _ _) rfl | exact bl (c1 _ _))) | refine X.loc ?_ | refine nx ?_ | refine X.cdT ?_ | refine X.cdF ?_ | (refine WP.condBit rfl ?_ ?_) | (refine WP.cond rfl ?_ ?_ <;> intro hcond) | (apply X.gsE; (· exact aR); (· exact aV); (· exact aW); (· intro hc; first | exact .eff (.bsliceFS rfl rfl rfl rfl rfl rfl) | (exact .eff (.loadO rfl rfl (readPl (i := k) (by omega) hx))) | exact .callG rfl rfl rfl (c1 _ _) rfl | exact bg (c1 _ _)); (· exact aR)) | refine rb ?_ | refine X.c0 (u1) ?_ | refine nd ?_ | refine dk ?_ | fail)
      refine WP.loop (ι := Nat) (fun j => ⟨[(0, .optr 1000 0), (43, .osl 43), (44, .fv (.int .i64 H.length)), (45, .fv (.int .i64 k)), (5, .optr 5 0), (6, .osl 901), (62, .fv (slOf encPo c.ps)), (63, .fv (.int .i64 c.ps.length)), (64, .fv (.int .i64 j))], [(43, .row 66 5 H.length ((H.flatMap encPo).map .fv)), (1000, .box 59 ((encCf c).map .fv ++ [.fv (.int .i64 ch), .osl 902])), (902, .row 74 4 (Q ++ [leadSelf x]).length (((Q ++ [leadSelf x]).flatMap encFl).map .fv)), (5, .box 66 ((encPo x).map .fv)), (901, .row 80 3 ((c.ps.take j).flatMap (floodQ x)).length ((((c.ps.take j).flatMap (floodQ x)).flatMap encDx).map .fv))]⟩) (fun j => j ≤ c.ps.length) (fun j => c.ps.length - j) 0 (by omega) ?_ ?_
      · try dsimp only
        refine St.to [(901, .nil), (902, .id 57)] [] rfl rfl ?_ ?_ <;> (repeat' (first | exact tA | refine t1 ?_ | exact tB | refine t2 ?_ ?_ | refine t3 ?_ | refine t4 ?_ ?_ | refine .ofEq ?_ | refine OB.To.cut rfl rfl ?_ ?_ ?_ ?_ | refine OB.To.box rfl rfl ?_ | refine ⟨⟨_, rfl, ?_⟩, ?_⟩ | refine ⟨?_, ?_⟩ | fail))
      rintro j hj
      try dsimp only
      have hDl := flat_len_le (f := floodQ x) (n := 2) (fun q => by unfold floodQ; split <;> simp) hps j
      by_cases hjl : j < c.ps.length
      case pos =>
        obtain ⟨y, hy⟩ : ∃ y, c.ps[j]? = some y := ⟨_, List.getElem?_eq_getElem hjl⟩
        have hsd := flat_succ [] (floodQ x) hy
        rw [List.nil_append, List.nil_append] at hsd
        generalize (c.ps.take j).flatMap (floodQ x) = D at *
        by_cases hq : y.sw = x.sw ∧ y.id ≠ x.id ∧ 0 ≤ y.ch
        · rw [floodQ, if_pos hq] at hsd
          repeat' (first | (apply X.loE; (· exact aR); (· first | exact .eff (.bsliceFS rfl rfl rfl rfl rfl rfl) | exact .callL rfl rfl rfl (c3 _ _) rfl | exact bl (c3 _ _))) | refine X.loc ?_ | refine nx ?_ | refine X.cdT ?_ | refine X.cdF ?_ | (refine WP.condBit rfl ?_ ?_) | (refine WP.cond rfl ?_ ?_ <;> intro hcond) | (apply X.gsE; (· exact aR); (· exact aV); (· exact aW); (· intro hc; first | exact .eff (.bsliceFS rfl rfl rfl rfl rfl rfl) | exact .callG rfl rfl rfl (c3 _ _) rfl | exact bg (c3 _ _)); (· exact aR)) | refine rb ?_ | refine nd ?_ | refine dk ?_ | fail)
          refine ⟨j + 1, by omega, by omega, ?_⟩
          try dsimp only
          rw [hsd]
          refine St.to [(901, .id 93)] [] rfl rfl ?_ ?_ <;> (repeat' (first | exact tA | refine t1 ?_ | exact tB | refine t2 ?_ ?_ | refine t3 ?_ | refine t4 ?_ ?_ | refine .ofEq ?_ | refine OB.To.cut rfl rfl ?_ ?_ ?_ ?_ | refine OB.To.box rfl rfl ?_ | refine ⟨⟨_, rfl, ?_⟩, ?_⟩ | refine ⟨?_, ?_⟩ | fail))
          all_goals first | omega | (simp; done) | (simp only [List.flatMap_append, List.map_append]; rfl)
        · rw [floodQ, if_neg hq, List.append_nil] at hsd
          repeat' (first | (apply X.loE; (· exact aR); (· first | exact .eff (.bsliceFS rfl rfl rfl rfl rfl rfl) | exact .callL rfl rfl rfl (c3 _ _) rfl | exact bl (c3 _ _))) | refine X.loc ?_ | refine nx ?_ | refine X.cdT ?_ | refine X.cdF ?_ | (refine WP.condBit rfl ?_ ?_) | (refine WP.cond rfl ?_ ?_ <;> intro hcond) | (apply X.gsE; (· exact aR); (· exact aV); (· exact aW); (· intro hc; first | exact .eff (.bsliceFS rfl rfl rfl rfl rfl rfl) | exact .callG rfl rfl rfl (c3 _ _) rfl | exact bg (c3 _ _)); (· exact aR)) | refine rb ?_ | refine nd ?_ | refine dk ?_ | fail)
          refine ⟨j + 1, by omega, by omega, ?_⟩
          try dsimp only
          rw [hsd]
          refine St.to [] [] rfl rfl ?_ ?_ <;> (repeat' (first | exact tA | refine t1 ?_ | exact tB | refine t2 ?_ ?_ | refine t3 ?_ | refine t4 ?_ ?_ | refine .ofEq ?_ | refine OB.To.cut rfl rfl ?_ ?_ ?_ ?_ | refine OB.To.box rfl rfl ?_ | refine ⟨⟨_, rfl, ?_⟩, ?_⟩ | refine ⟨?_, ?_⟩ | fail))
      case neg =>
        rw [List.take_of_length_le (by omega)] at hDl ⊢
        have eA : leadAll c x = ⟨3, 2, [⟨0, 65535, x.id⟩, ⟨1, 65535, 65535⟩], c.ps.flatMap (floodQ x)⟩ := rfl
        have u2 := aa (Q ++ [leadSelf x]) (leadAll c x) (by simp; omega)
        rw [eA] at u2 hs
        generalize c.ps.flatMap (floodQ x) = D at *
        repeat' (first | (apply X.loE; (· exact aR); (· first | exact .eff (.bsliceFS rfl rfl rfl rfl rfl rfl) | exact .callL rfl rfl rfl (c1 _ _) rfl | exact bl (c1 _ _))) | refine X.loc ?_ | refine nx ?_ | refine X.cdT ?_ | refine X.cdF ?_ | (refine WP.condBit rfl ?_ ?_) | (refine WP.cond rfl ?_ ?_ <;> intro hcond) | (apply X.gsE; (· exact aR); (· exact aV); (· exact aW); (· intro hc; first | exact .eff (.bsliceFS rfl rfl rfl rfl rfl rfl) | exact .callG rfl rfl rfl (c1 _ _) rfl | exact bg (c1 _ _)); (· exact aR)) | refine rb ?_ | refine X.c0 (u2) ?_ | refine nd ?_ | refine dk ?_ | fail)
        refine ⟨k + 1, by omega, by omega, ?_⟩
        try dsimp only
        rw [hs, show ∀ a b : Fl, Q ++ [a, b] = Q ++ [a] ++ [b] from fun a b => by simp]
        refine St.to [(900, .id 102)] [] rfl rfl ?_ ?_ <;> (repeat' (first | exact tA | refine t1 ?_ | exact tB | refine t2 ?_ ?_ | refine t3 ?_ | refine t4 ?_ ?_ | refine .ofEq ?_ | refine OB.To.cut rfl rfl ?_ ?_ ?_ ?_ | refine OB.To.box rfl rfl ?_ | refine ⟨⟨_, rfl, ?_⟩, ?_⟩ | refine ⟨?_, ?_⟩ | fail))
    case neg =>
      rw [List.take_of_length_le (by omega)]
      have hfl := flat_le (f := fun p => [leadSelf p, leadAll c p]) (n := 2) (fun _ => by simp) H
      have hOl2 : (O ++ H.flatMap fun p => [leadSelf p, leadAll c p]).length ≤ 100120 := by
        rw [List.length_append]
        omega
      generalize (O ++ H.flatMap fun p => [leadSelf p, leadAll c p]) = Q at *
      have hP : ∀ (s : Sw) (p : Po), (leadSwP c s p).length ≤ 1 := fun s p => by unfold leadSwP; split <;> simp
      have hS : ∀ s : Sw, (leadSw c s).length ≤ 42 := fun s => by
        have := flat_le (hP s) c.ps
        unfold leadSw
        split
        · simp
        · rw [List.length_append]
          show 2 + _ ≤ 42
          omega
      repeat' (first | refine X.loc ?_ | refine nx ?_ | refine X.cdT ?_ | refine X.cdF ?_ | (refine WP.condBit rfl ?_ ?_) | (refine WP.cond rfl ?_ ?_ <;> intro hcond) | refine rb ?_ | refine nd ?_ | refine dk ?_ | fail)
      refine WP.loop (ι := Nat) (fun k => ⟨[(0, .optr 1000 0), (108, .fv (slOf encSw c.ss)), (109, .fv (.int .i64 c.ss.length)), (110, .fv (.int .i64 k))], [(1000, .box 59 ((encCf c).map .fv ++ [.fv (.int .i64 ch), .osl 903])), (903, .row 74 4 (Q ++ (c.ss.take k).flatMap (leadSw c)).length (((Q ++ (c.ss.take k).flatMap (leadSw c)).flatMap encFl).map .fv))]⟩) (fun k => k ≤ c.ss.length) (fun k => c.ss.length - k) 0 (by omega) ?_ ?_
      · try dsimp only
        rw [List.take_zero, List.flatMap_nil, List.append_nil]
        refine St.to [(903, .id 900)] [] rfl rfl ?_ ?_ <;> (repeat' (first | exact tA | refine t1 ?_ | exact tB | refine t2 ?_ ?_ | refine t3 ?_ | refine t4 ?_ ?_ | refine .ofEq ?_ | refine OB.To.cut rfl rfl ?_ ?_ ?_ ?_ | refine OB.To.box rfl rfl ?_ | refine ⟨⟨_, rfl, ?_⟩, ?_⟩ | refine ⟨?_, ?_⟩ | fail))
      rintro k hk
      try dsimp only
      by_cases hlt : k < c.ss.length
      case neg =>
        rw [List.take_of_length_le (by omega)]
        generalize (Q ++ c.ss.flatMap (leadSw c)) = U at *
        repeat' (first | refine X.loc ?_ | refine nx ?_ | refine X.cdT ?_ | refine X.cdF ?_ | (refine WP.condBit rfl ?_ ?_) | (refine WP.cond rfl ?_ ?_ <;> intro hcond) | refine rb ?_ | refine nd ?_ | refine dk ?_ | fail)
        refine .ofL (s' := ⟨[], [(1000, .box 59 ((encCf c).map .fv ++ [.fv (.int .i64 ch), .osl 7])), (7, .row 74 4 U.length ((U.flatMap encFl).map .fv))]⟩) (by first | exact .inl rfl | exact .inr rfl) ?_ rfl rfl (by repeat' (first | exact trivial | refine ⟨⟨_, rfl, fun _ _ _ _ h => h⟩, ?_⟩))
        refine St.to [(7, .id 903)] [] rfl rfl ?_ ?_ <;> (repeat' (first | exact tA | refine t1 ?_ | exact tB | refine t2 ?_ ?_ | refine t3 ?_ | refine t4 ?_ ?_ | refine .ofEq ?_ | refine OB.To.cut rfl rfl ?_ ?_ ?_ ?_ | refine OB.To.box rfl rfl ?_ | refine ⟨⟨_, rfl, ?_⟩, ?_⟩ | refine ⟨?_, ?_⟩ | fail))
      case pos =>
        obtain ⟨x, hx⟩ : ∃ x, c.ss[k]? = some x := ⟨_, List.getElem?_eq_getElem hlt⟩
        have hxr := hsr x (List.mem_of_getElem? hx)
        unfold SwR at hxr
        have hs := flat_succ Q (leadSw c) hx
        have hfl2 := flat_len_le (f := leadSw c) hS hss k
        have hOl3 : (Q ++ (c.ss.take k).flatMap (leadSw c)).length ≤ 100700 := by
          rw [List.length_append]
          omega
        generalize (Q ++ (c.ss.take k).flatMap (leadSw c)) = U at *
        by_cases hg : x.gate = 0
        · rw [leadSw, if_pos hg, List.append_nil] at hs
          repeat' (first | refine X.loc ?_ | refine nx ?_ | refine X.cdT ?_ | refine X.cdF ?_ | (refine WP.condBit rfl ?_ ?_) | (refine WP.cond rfl ?_ ?_ <;> intro hcond) | refine rb ?_ | refine nd ?_ | refine dk ?_ | fail)
          refine ⟨k + 1, by omega, by omega, ?_⟩
          try dsimp only
          rw [hs]
          refine St.to [] [] rfl rfl ?_ ?_ <;> (repeat' (first | exact tA | refine t1 ?_ | exact tB | refine t2 ?_ ?_ | refine t3 ?_ | refine t4 ?_ ?_ | refine .ofEq ?_ | refine OB.To.cut rfl rfl ?_ ?_ ?_ ?_ | refine OB.To.box rfl rfl ?_ | refine ⟨⟨_, rfl, ?_⟩, ?_⟩ | refine ⟨?_, ?_⟩ | fail))
        · rw [leadSw, if_neg hg, ← List.append_assoc] at hs
          repeat' (first | (apply X.loE; (· exact aR); (· first | exact .eff (.bsliceFS rfl rfl rfl rfl rfl rfl) | exact .callL rfl rfl rfl (c1 _ _) rfl | exact bl (c1 _ _))) | refine X.loc ?_ | refine nx ?_ | refine X.cdT ?_ | refine X.cdF ?_ | (refine WP.condBit rfl ?_ ?_) | (refine WP.cond rfl ?_ ?_ <;> intro hcond) | (apply X.gsE; (· exact aR); (· exact aV); (· exact aW); (· intro hc; first | exact .eff (.bsliceFS rfl rfl rfl rfl rfl rfl) | exact .callG rfl rfl rfl (c1 _ _) rfl | exact bg (c1 _ _)); (· exact aR)) | refine rb ?_ | refine nd ?_ | refine dk ?_ | fail)
          refine WP.loop (ι := Nat) (fun j => ⟨[(0, .optr 1000 0), (108, .fv (slOf encSw c.ss)), (109, .fv (.int .i64 c.ss.length)), (110, .fv (.int .i64 k)), (10, .optr 10 0), (11, .fv (slOf encMx (routerM x))), (125, .fv (.int .i64 j))], [(1000, .box 59 ((encCf c).map .fv ++ [.fv (.int .i64 ch), .osl 904])), (904, .row 74 4 (U ++ (List.range j).map fun n : Nat => leadTtl x n).length (((U ++ (List.range j).map fun n : Nat => leadTtl x n).flatMap encFl).map .fv)), (10, .box 63 ((encSw x).map .fv))]⟩) (fun j => j ≤ 2) (fun j => 2 - j) 0 (by omega) ?_ ?_
          · try dsimp only
            rw [List.range_zero, List.map_nil, List.append_nil]
            refine St.to [(904, .id 903)] [] rfl rfl ?_ ?_ <;> (repeat' (first | exact tA | refine t1 ?_ | exact tB | refine t2 ?_ ?_ | refine t3 ?_ | refine t4 ?_ ?_ | refine .ofEq ?_ | refine OB.To.cut rfl rfl ?_ ?_ ?_ ?_ | refine OB.To.box rfl rfl ?_ | refine ⟨⟨_, rfl, ?_⟩, ?_⟩ | refine ⟨?_, ?_⟩ | fail))
          rintro j hj
          try dsimp only
          have cl := cloneOMx_T (routerM x) (by simp [routerM])
          have hM : (routerM x).length = 2 := rfl
          by_cases hj2 : j < 2
          case pos =>
            have hrs : (U ++ (List.range (j + 1)).map fun n : Nat => leadTtl x n) = (U ++ (List.range j).map fun n : Nat => leadTtl x n) ++ [leadTtl x j] := by
              rw [List.range_succ]
              simp
            have hrl : (U ++ (List.range j).map fun n : Nat => leadTtl x n).length ≤ 100702 := by
              rw [List.length_append, List.length_map, List.length_range]
              omega
            generalize (U ++ (List.range j).map fun n : Nat => leadTtl x n) = V at *
            have u1 := aa V (leadTtl x j) (by omega)
            repeat' (first | (apply X.loE; (· exact aR); (· first | exact .eff (.bsliceFS rfl rfl rfl rfl rfl rfl) | exact .callL rfl rfl rfl (c1 _ _) rfl | exact bl (c1 _ _))) | refine X.loc ?_ | refine nx ?_ | refine X.cdT ?_ | refine X.cdF ?_ | (refine WP.condBit rfl ?_ ?_) | (refine WP.cond rfl ?_ ?_ <;> intro hcond) | (apply X.gsE; (· exact aR); (· exact aV); (· exact aW); (· intro hc; first | exact .eff (.bsliceFS rfl rfl rfl rfl rfl rfl) | exact .callG rfl rfl rfl (c1 _ _) rfl | exact bg (c1 _ _)); (· exact aR)) | refine rb ?_ | refine X.c0 (cl) ?_ | refine X.c0 (u1) ?_ | refine nd ?_ | refine dk ?_ | fail)
            refine ⟨j + 1, by omega, by omega, ?_⟩
            try dsimp only
            rw [hrs]
            refine St.to [(904, .id 135)] [] rfl rfl ?_ ?_ <;> (repeat' (first | exact tA | refine t1 ?_ | exact tB | refine t2 ?_ ?_ | refine t3 ?_ | refine t4 ?_ ?_ | refine .ofEq ?_ | refine OB.To.cut rfl rfl ?_ ?_ ?_ ?_ | refine OB.To.box rfl rfl ?_ | refine ⟨⟨_, rfl, ?_⟩, ?_⟩ | refine ⟨?_, ?_⟩ | fail))
          case neg =>
            obtain rfl : j = 2 := by omega
            have hr2 : (U ++ (List.range 2).map fun n : Nat => leadTtl x n) = U ++ [leadTtl x 0, leadTtl x 1] := rfl
            rw [hr2]
            have hVl : (U ++ [leadTtl x 0, leadTtl x 1]).length ≤ 100702 := by
              rw [List.length_append]
              simp
              omega
            generalize (U ++ [leadTtl x 0, leadTtl x 1]) = V at *
            repeat' (first | refine X.loc ?_ | refine nx ?_ | refine X.cdT ?_ | refine X.cdF ?_ | (refine WP.condBit rfl ?_ ?_) | (refine WP.cond rfl ?_ ?_ <;> intro hcond) | refine rb ?_ | refine nd ?_ | refine dk ?_ | fail)
            refine WP.loop (ι := Nat) (fun j => ⟨[(0, .optr 1000 0), (108, .fv (slOf encSw c.ss)), (109, .fv (.int .i64 c.ss.length)), (110, .fv (.int .i64 k)), (10, .optr 10 0), (11, .fv (slOf encMx (routerM x))), (141, .fv (slOf encPo c.ps)), (142, .fv (.int .i64 c.ps.length)), (143, .fv (.int .i64 j))], [(1000, .box 59 ((encCf c).map .fv ++ [.fv (.int .i64 ch), .osl 905])), (905, .row 74 4 (V ++ (c.ps.take j).flatMap (leadSwP c x)).length (((V ++ (c.ps.take j).flatMap (leadSwP c x)).flatMap encFl).map .fv)), (10, .box 63 ((encSw x).map .fv))]⟩) (fun j => j ≤ c.ps.length) (fun j => c.ps.length - j) 0 (by omega) ?_ ?_
            · try dsimp only
              rw [List.take_zero, List.flatMap_nil, List.append_nil]
              refine St.to [(905, .id 904)] [] rfl rfl ?_ ?_ <;> (repeat' (first | exact tA | refine t1 ?_ | exact tB | refine t2 ?_ ?_ | refine t3 ?_ | refine t4 ?_ ?_ | refine .ofEq ?_ | refine OB.To.cut rfl rfl ?_ ?_ ?_ ?_ | refine OB.To.box rfl rfl ?_ | refine ⟨⟨_, rfl, ?_⟩, ?_⟩ | refine ⟨?_, ?_⟩ | fail))
            rintro j hj
            try dsimp only
            by_cases hjl : j < c.ps.length
            case neg =>
              rw [List.take_of_length_le (by omega)]
              generalize (V ++ c.ps.flatMap (leadSwP c x)) = V2 at *
              repeat' (first | refine X.loc ?_ | refine nx ?_ | refine X.cdT ?_ | refine X.cdF ?_ | (refine WP.condBit rfl ?_ ?_) | (refine WP.cond rfl ?_ ?_ <;> intro hcond) | refine rb ?_ | refine nd ?_ | refine dk ?_ | fail)
              refine ⟨k + 1, by omega, by omega, ?_⟩
              try dsimp only
              rw [hs]
              refine St.to [(903, .id 905)] [] rfl rfl ?_ ?_ <;> (repeat' (first | exact tA | refine t1 ?_ | exact tB | refine t2 ?_ ?_ | refine t3 ?_ | refine t4 ?_ ?_ | refine .ofEq ?_ | refine OB.To.cut rfl rfl ?_ ?_ ?_ ?_ | refine OB.To.box rfl rfl ?_ | refine ⟨⟨_, rfl, ?_⟩, ?_⟩ | refine ⟨?_, ?_⟩ | fail))
            case pos =>
              obtain ⟨y, hy⟩ : ∃ y, c.ps[j]? = some y := ⟨_, List.getElem?_eq_getElem hjl⟩
              have hsw := (hpg y (List.mem_of_getElem? hy)).2.1
              obtain ⟨i, hi, hsi⟩ := swAt_idx hsw
              have hxt := hsr _ (List.mem_of_getElem? hsi)
              have ci := indexSw_T c.ss 72 [.fptr (encPo y)] (fun s => s.id == y.sw) (by omega) (fun s _ => leadq_T s y)
              rw [hi] at ci
              have hvs := flat_succ V (leadSwP c x) hy
              have hvl := flat_len_le (f := leadSwP c x) (hP x) hps j
              have hVl2 : (V ++ (c.ps.take j).flatMap (leadSwP c x)).length ≤ 100742 := by
                rw [List.length_append]
                omega
              have hLP : leadSwP c x y = if (swAt c.ss y.sw).tenant = x.tenant ∧ (swAt c.ss y.sw).gate ≠ 0 then [leadTo x y (swAt c.ss y.sw)] else [] := rfl
              rw [hLP] at hvs
              generalize (V ++ (c.ps.take j).flatMap (leadSwP c x)) = V3 at *
              generalize swAt c.ss y.sw = t at *
              unfold SwR at hxt
              by_cases ht : t.tenant = x.tenant ∧ t.gate ≠ 0
              · rw [if_pos ht] at hvs
                have u1 := aa V3 (leadTo x y t) (by omega)
                repeat' (first | (apply X.loE; (· exact aR); (· first | exact .eff (.bsliceFS rfl rfl rfl rfl rfl rfl) | exact .callL rfl rfl rfl (by first | exact c1 _ _ | exact c2 _ | exact c3 _ _ | exact ci) rfl | exact bl (c1 _ _) | exact bl (c2 _) | exact bl (c3 _ _) | exact bl (ci))) | refine X.loc ?_ | refine nx ?_ | refine X.cdT ?_ | refine X.cdF ?_ | (refine WP.condBit rfl ?_ ?_) | (refine WP.cond rfl ?_ ?_ <;> intro hcond) | (apply X.gsE; (· exact aR); (· exact aV); (· exact aW); (· intro hc; first | exact .eff (.bsliceFS rfl rfl rfl rfl rfl rfl) | exact .callG rfl rfl rfl (by first | exact c1 _ _ | exact c2 _ | exact c3 _ _ | exact ci) rfl | exact bg (c1 _ _) | exact bg (c2 _) | exact bg (c3 _ _) | exact bg (ci)); (· exact aR)) | refine rb ?_ | refine X.c0 (cl) ?_ | refine X.c0 (u1) ?_ | refine nd ?_ | refine dk ?_ | fail)
                refine ⟨j + 1, by omega, by omega, ?_⟩
                try dsimp only
                rw [hvs]
                refine St.to [(905, .id 196)] [] rfl rfl ?_ ?_ <;> (repeat' (first | exact tA | refine t1 ?_ | exact tB | refine t2 ?_ ?_ | refine t3 ?_ | refine t4 ?_ ?_ | refine .ofEq ?_ | refine OB.To.cut rfl rfl ?_ ?_ ?_ ?_ | refine OB.To.box rfl rfl ?_ | refine ⟨⟨_, rfl, ?_⟩, ?_⟩ | refine ⟨?_, ?_⟩ | fail))
              · rw [if_neg ht, List.append_nil] at hvs
                repeat' (first | (apply X.loE; (· exact aR); (· first | exact .eff (.bsliceFS rfl rfl rfl rfl rfl rfl) | exact .callL rfl rfl rfl (ci) rfl | exact bl (ci))) | refine X.loc ?_ | refine nx ?_ | refine X.cdT ?_ | refine X.cdF ?_ | (refine WP.condBit rfl ?_ ?_) | (refine WP.cond rfl ?_ ?_ <;> intro hcond) | (apply X.gsE; (· exact aR); (· exact aV); (· exact aW); (· intro hc; first | exact .eff (.bsliceFS rfl rfl rfl rfl rfl rfl) | exact .callG rfl rfl rfl (ci) rfl | exact bg (ci)); (· exact aR)) | refine rb ?_ | refine nd ?_ | refine dk ?_ | fail)
                refine ⟨j + 1, by omega, by omega, ?_⟩
                try dsimp only
                rw [hvs]
                refine St.to [] [] rfl rfl ?_ ?_ <;> (repeat' (first | exact tA | refine t1 ?_ | exact tB | refine t2 ?_ ?_ | refine t3 ?_ | refine t4 ?_ ?_ | refine .ofEq ?_ | refine OB.To.cut rfl rfl ?_ ?_ ?_ ?_ | refine OB.To.box rfl rfl ?_ | refine ⟨⟨_, rfl, ?_⟩, ?_⟩ | refine ⟨?_, ?_⟩ | fail))
end Go.Proofs.Ytmidechdlbcepaa

namespace Go.Proofs.Ytmidechdlbcepaa
open Go.RowKit
set_option maxRecDepth 100000

def FlS (x : Fl) : Prop := x.ms.length ≤ 12 ∧ x.ds.length ≤ 100
theorem FlS.fit {f : Fl} (h : FlS f) : f.Fit := by
  obtain ⟨h1, h2⟩ := h
  unfold Fl.Fit
  omega
end Go.Proofs.Ytmidechdlbcepaa

namespace Go.Proofs.Ytmidechdlbcepaa
open Go.RowKit
set_option maxRecDepth 100000

theorem flS_ok {g : Fl} (h : flFault g = 0) : FlS g := ⟨(flMay h).ms, (flMay h).ds⟩
theorem fit_of {g : Fl} (h : FlS g) : g.Fit := by
  unfold Fl.Fit
  have := h.1
  have := h.2
  omega
theorem all_mem {c : Cf} {ch : Int} {g : Fl} : g ∈ allF c ch ↔ g ∈ compF_ c ch := by rw [compF_, sortedF_mem]
theorem comp_room {c : Cf} (hc : CfOk c) {ch : Int} (hch : 0 ≤ ch ∧ ch ≤ 5) : Room (compF_ c ch) := ⟨fun g hg => fit_of (flS_ok (comp_ok hc hch hg)), by have := comp_len (ch := ch) hc; omega⟩
set_option maxHeartbeats 8000000 in
theorem compile0_T (c : Cf) (ch : Int) (hl : c.Small) : FunO Try.prog 5 [.agg ((encCf c).map .fv), .fv (.int .i64 ch)] [] (.tup [.osl 7, .fv (.int .i64 (compE c ch))]) [(7, .row 74 4 (compR c ch).length (((compR c ch).flatMap encFl).map .fv))] := by
  have ck := confCheck_T c hl
  refine FunO.bodyL tbl_ok Try.func5 rfl (by kernel_rfl) rfl rfl rfl ?_
  unfold compR compE
  cases hm : cfMay c with
  | false =>
    rw [hm, if_neg (by decide)] at ck
    rw [if_pos rfl, if_pos (by decide)]
    repeat' (first | (apply X.loE; (· exact aR); (· first | exact .callL rfl rfl rfl (ck) rfl | exact bl (ck))) | refine X.loc ?_ | refine nx ?_ | refine X.cdT ?_ | refine X.cdF ?_ | (refine WP.condBit rfl ?_ ?_) | (refine WP.cond rfl ?_ ?_ <;> intro hcond) | (apply X.gsE; (· exact aR); (· exact aV); (· exact aW); (· intro hc; first | exact .callG rfl rfl rfl (ck) rfl | exact bg (ck)); (· exact aR)) | refine rb ?_ | refine nd ?_ | refine dk ?_ | fail)
    refine .ofL (s' := ⟨[(4, .osl 7), (5, .fv (.int .i64 8))], [(7, .row 74 4 0 [])]⟩) (by first | exact .inl rfl | exact .inr rfl) ?_ rfl rfl (by repeat' (first | exact trivial | refine ⟨⟨_, rfl, fun _ _ _ _ h => h⟩, ?_⟩))
    refine St.to [(7, .nil)] [] rfl rfl ?_ ?_ <;> (repeat' (first | exact tA | refine t1 ?_ | exact tB | refine t2 ?_ ?_ | refine t3 ?_ | refine t4 ?_ ?_ | refine .ofEq ?_ | refine OB.To.cut rfl rfl ?_ ?_ ?_ ?_ | refine OB.To.box rfl rfl ?_ | refine ⟨⟨_, rfl, ?_⟩, ?_⟩ | refine ⟨?_, ?_⟩ | fail))
  | true =>
    rw [hm, if_pos rfl] at ck
    rw [if_neg (by decide)]
    have hc := cfMay_iff.1 hm
    by_cases hch : ch < 0 ∨ 6 ≤ ch
    · rw [if_pos hch, if_pos (by decide)]
      repeat' (first | (apply X.loE; (· exact aR); (· first | exact .callL rfl rfl rfl (ck) rfl | exact bl (ck))) | refine X.loc ?_ | refine nx ?_ | refine X.cdT ?_ | refine X.cdF ?_ | (refine WP.condBit rfl ?_ ?_) | (refine WP.cond rfl ?_ ?_ <;> intro hcond) | (apply X.gsE; (· exact aR); (· exact aV); (· exact aW); (· intro hc; first | exact .callG rfl rfl rfl (ck) rfl | exact bg (ck)); (· exact aR)) | refine rb ?_ | refine nd ?_ | refine dk ?_ | fail)
      refine .ofL (s' := ⟨[(4, .osl 7), (5, .fv (.int .i64 2))], [(7, .row 74 4 0 [])]⟩) (by first | exact .inl rfl | exact .inr rfl) ?_ rfl rfl (by repeat' (first | exact trivial | refine ⟨⟨_, rfl, fun _ _ _ _ h => h⟩, ?_⟩))
      refine St.to [(7, .nil)] [] rfl rfl ?_ ?_ <;> (repeat' (first | exact tA | refine t1 ?_ | exact tB | refine t2 ?_ ?_ | refine t3 ?_ | refine t4 ?_ ?_ | refine .ofEq ?_ | refine OB.To.cut rfl rfl ?_ ?_ ?_ ?_ | refine OB.To.box rfl rfl ?_ | refine ⟨⟨_, rfl, ?_⟩, ?_⟩ | refine ⟨?_, ?_⟩ | fail))
    · rw [if_neg hch, if_neg (by decide)]
      have hlen := all_len (ch := ch) hc
      have hfit : FitL (allF c ch) := fun g hg => fit_of (flS_ok (comp_ok hc (by omega) (all_mem.1 hg)))
      have eA : allF c ch = ([] ++ entersF (hereF c ch)) ++ rulesF c 1 3 true ++ answersF c (hereF c ch) ++ leadsF c (hereF c ch) ++ leavesF c ch ++ rulesF c 6 7 false := rfl
      have so := sort_T (allF c ch) hfit (by omega)
      have hcomp : compF_ c ch = sortedF (allF c ch) := rfl
      rw [hcomp]
      generalize sortedF (allF c ch) = Z at *
      rw [eA] at hlen so
      clear eA hfit hcomp
      have u1 := enters_T c ch [] hc.pl (by simp)
      generalize [] ++ entersF (hereF c ch) = L1 at *
      have k1 : L1.length ≤ 1100 := by simp only [List.length_append] at hlen; omega
      have u2 := rules_T c ch L1 1 3 true hc (by omega)
      generalize L1 ++ rulesF c 1 3 true = L2 at *
      have k2 : L2.length ≤ 1100 := by simp only [List.length_append] at hlen; omega
      have u3 := answers_T c ch L2 hc (by omega)
      generalize L2 ++ answersF c (hereF c ch) = L3 at *
      have k3 : L3.length ≤ 1100 := by simp only [List.length_append] at hlen; omega
      have u4 := leads_T c ch L3 hc (by omega)
      generalize L3 ++ leadsF c (hereF c ch) = L4 at *
      have k4 : L4.length ≤ 1100 := by simp only [List.length_append] at hlen; omega
      have u5 := leaves_T c ch L4 hc.pl (by omega)
      generalize L4 ++ leavesF c ch = L5 at *
      have k5 : L5.length ≤ 1100 := by simp only [List.length_append] at hlen; omega
      have u6 := rules_T c ch L5 6 7 false hc (by omega)
      generalize L5 ++ rulesF c 6 7 false = L6 at *
      unfold mkB flR mkC at u1 u2 u3 u4 u5 u6
      repeat' (first | (apply X.loE; (· exact aR); (· first | exact .callL rfl rfl rfl (ck) rfl | exact bl (ck))) | refine X.loc ?_ | refine nx ?_ | refine X.cdT ?_ | refine X.cdF ?_ | (refine WP.condBit rfl ?_ ?_) | (refine WP.cond rfl ?_ ?_ <;> intro hcond) | (apply X.gsE; (· exact aR); (· exact aV); (· exact aW); (· intro hc; first | exact .callG rfl rfl rfl (ck) rfl | exact bg (ck)); (· exact aR)) | refine rb ?_ | refine X.c0 (u1) ?_ | refine X.c0 (u2) ?_ | refine X.c0 (u3) ?_ | refine X.c0 (u4) ?_ | refine X.c0 (u5) ?_ | refine X.c0 (u6) ?_ | refine X.c0 (so) ?_ | refine nd ?_ | refine dk ?_ | fail)
      refine .ofL (s' := ⟨[(4, .osl 7), (5, .fv (.int .i64 0))], [(7, .row 74 4 Z.length ((Z.flatMap encFl).map .fv))]⟩) (by first | exact .inl rfl | exact .inr rfl) ?_ rfl rfl (by repeat' (first | exact trivial | refine ⟨⟨_, rfl, fun _ _ _ _ h => h⟩, ?_⟩))
      refine St.to [(7, .id 39)] [] rfl rfl ?_ ?_ <;> (repeat' (first | exact tA | refine t1 ?_ | exact tB | refine t2 ?_ ?_ | refine t3 ?_ | refine t4 ?_ ?_ | refine .ofEq ?_ | refine OB.To.cut rfl rfl ?_ ?_ ?_ ?_ | refine OB.To.box rfl rfl ?_ | refine ⟨⟨_, rfl, ?_⟩, ?_⟩ | refine ⟨?_, ?_⟩ | fail))
end Go.Proofs.Ytmidechdlbcepaa

namespace Go.Proofs.Ytmidechdlbcepaa
open Go.RowKit
set_option maxRecDepth 100000

theorem compile_T (c : Cf) (ch : Int) (hl : c.Small) : Fun Try.prog 5 [.agg ((encCf c).map .fv), .fv (.int .i64 ch)] (.tup [.fv (slOf encFl (compR c ch)), .fv (.int .i64 (compE c ch))]) :=
  (compile0_T c ch hl).froz [7] (.tup (.cons (.frz rfl rfl rfl) (.cons (.le (.refl _) rfl) .nil)))
theorem CfOk.small {c : Cf} (h : CfOk c) : c.Small := ⟨by have := h.sl; omega, by have := h.pl; omega, by have := h.al; omega⟩
theorem compE_ok {c : Cf} (h : CfOk c) {ch : Int} (hch : 0 ≤ ch ∧ ch ≤ 5) : compE c ch = 0 := by
  unfold compE
  rw [if_neg (by rw [cfMay_iff.2 h]; simp), if_neg (by omega)]
theorem compR_ok {c : Cf} (h : CfOk c) {ch : Int} (hch : 0 ≤ ch ∧ ch ≤ 5) : compR c ch = compF_ c ch := by
  unfold compR
  rw [compE_ok h hch, if_neg (by decide)]
end Go.Proofs.Ytmidechdlbcepaa

namespace Go.Proofs.Ytmidechdlbcepaa
open Go.RowKit
set_option maxRecDepth 100000

def encGl (g : Gl) : List FV := [.int .i64 g.net, .int .i64 g.to] ++ encFr g.is
theorem encGl_len (g : Gl) : (encGl g).length = 10 := rfl
theorem po_any {c : Cf} {n : Int} : (c.ps.any fun p => p.id == n) = (poAt c n).isSome := by
  unfold poAt
  rw [Bool.eq_iff_iff, List.find?_isSome, List.any_eq_true]
theorem goalQ_len (c : Cf) (p : Po) (f : Fr) (q : Po) : (goalQ c p f q).length ≤ 2 := by
  unfold goalQ
  split
  · simp
  · rw [List.length_append]
    have : ∀ {P : Prop} [Decidable P] (g : Gl), (if P then [g] else []).length ≤ 1 := fun g => by split <;> simp
    exact Nat.add_le_add (this _) (this _)
set_option maxHeartbeats 16000000 in
theorem ledOf0_T (c : Cf) (hc : CfOk c) (ch id : Int) (f : Fr) (hf : FrMay f) : FunO Try.prog 39 [.agg ((encCf c).map .fv), .fv (.int .i64 ch), .fv (.int .i64 id), .agg ((encFr f).map .fv)] [] (.osl 7) [(7, .row 92 10 (ledF c ch id f).length (((ledF c ch id f).flatMap encGl).map .fv))] := by
  have hpl := hc.pl
  have c1 := portOf_T c id hc.small
  rw [po_any] at c1
  have ep : (c.ps.find? fun p => p.id == id) = poAt c id := rfl
  rw [ep] at c1
  have httl := hf.ttl
  refine FunO.bodyL tbl_ok Try.func39 rfl (by kernel_rfl) rfl rfl rfl ?_
  unfold ledF
  cases hpo : poAt c id with
  | none =>
    rw [hpo] at c1
    simp only [Option.getD_some, Option.getD_none, Option.isSome_some, Option.isSome_none] at c1
    repeat' (first | (apply X.loE; (· exact aR); (· first | exact .callL rfl rfl rfl (c1) rfl | exact bl (c1))) | refine X.loc ?_ | (refine X.cdT ?_ rfl (by first |(simp only [Bool.not_false, Bool.true_or, Bool.or_true]; done) |(simp only [Bool.not_true, Bool.not_false, Bool.false_or, Bool.or_false, Bool.true_or, Bool.or_eq_true, bne_iff_ne, ne_eq]; omega) |fail)) | (refine X.cdF ?_ rfl (by first |(simp only [Bool.not_true, Bool.false_or, Bool.or_false, Bool.or_eq_false_iff, bne_eq_false_iff_eq]; omega) |fail)) | refine nx ?_ | refine X.cdT ?_ | refine X.cdF ?_ | (refine WP.condBit rfl ?_ ?_) | (refine WP.cond rfl ?_ ?_ <;> intro hcond) | (apply X.gsE; (· exact aR); (· exact aV); (· exact aW); (· intro hc; first | exact .callG rfl rfl rfl (c1) rfl | exact bg (c1)); (· exact aR)) | refine rb ?_ | refine nd ?_ | refine dk ?_ | fail)
    refine .ofL (s' := ⟨[(8, .osl 7)], [(7, .row 92 10 0 [])]⟩) (by first | exact .inl rfl | exact .inr rfl) ?_ rfl rfl (by repeat' (first | exact trivial | refine ⟨⟨_, rfl, fun _ _ _ _ h => h⟩, ?_⟩))
    refine St.to [(7, .nil)] [] rfl rfl ?_ ?_ <;> (repeat' (first | exact tA | refine t1 ?_ | exact tB | refine t2 ?_ ?_ | refine t3 ?_ | refine t4 ?_ ?_ | refine .ofEq ?_ | refine OB.To.cut rfl rfl ?_ ?_ ?_ ?_ | refine OB.To.box rfl rfl ?_ | refine ⟨⟨_, rfl, ?_⟩, ?_⟩ | refine ⟨?_, ?_⟩ | fail))
  | some p =>
    obtain ⟨hp, hid⟩ := poAt_mem hpo
    rw [hpo] at c1
    simp only [Option.getD_some, Option.getD_none, Option.isSome_some, Option.isSome_none] at c1
    try dsimp only
    have c2 := switchOf_T c p.sw hc.small
    have es : swOf c.ss p.sw = swAt c.ss p.sw := rfl
    rw [es] at c2
    have hs := hc.swIn hp
    have hsr := hc.sr _ hs.1
    unfold SwR at hsr
    by_cases hbad : p.ch ≠ ch ∨ f.src ≠ p.mac ∨ f.ipSrc ≠ p.ip
    · rw [if_pos hbad]
      repeat' (first | (apply X.loE; (· exact aR); (· first | exact .callL rfl rfl rfl (c1) rfl | exact bl (c1))) | refine X.loc ?_ | (refine X.cdT ?_ rfl (by first |(simp only [Bool.not_false, Bool.true_or, Bool.or_true]; done) |(simp only [Bool.not_true, Bool.not_false, Bool.false_or, Bool.or_false, Bool.true_or, Bool.or_eq_true, bne_iff_ne, ne_eq]; omega) |fail)) | (refine X.cdF ?_ rfl (by first |(simp only [Bool.not_true, Bool.false_or, Bool.or_false, Bool.or_eq_false_iff, bne_eq_false_iff_eq]; omega) |fail)) | refine nx ?_ | refine X.cdT ?_ | refine X.cdF ?_ | (refine WP.condBit rfl ?_ ?_) | (refine WP.cond rfl ?_ ?_ <;> intro hcond) | (apply X.gsE; (· exact aR); (· exact aV); (· exact aW); (· intro hc; first | exact .callG rfl rfl rfl (c1) rfl | exact bg (c1)); (· exact aR)) | refine rb ?_ | refine nd ?_ | refine dk ?_ | fail)
      refine .ofL (s' := ⟨[(8, .osl 7)], [(7, .row 92 10 0 [])]⟩) (by first | exact .inl rfl | exact .inr rfl) ?_ rfl rfl (by repeat' (first | exact trivial | refine ⟨⟨_, rfl, fun _ _ _ _ h => h⟩, ?_⟩))
      refine St.to [(7, .nil)] [] rfl rfl ?_ ?_ <;> (repeat' (first | exact tA | refine t1 ?_ | exact tB | refine t2 ?_ ?_ | refine t3 ?_ | refine t4 ?_ ?_ | refine .ofEq ?_ | refine OB.To.cut rfl rfl ?_ ?_ ?_ ?_ | refine OB.To.box rfl rfl ?_ | refine ⟨⟨_, rfl, ?_⟩, ?_⟩ | refine ⟨?_, ?_⟩ | fail))
    rw [if_neg hbad]
    by_cases hk1 : f.kind = 1
    · rw [if_pos hk1]
      unfold askG
      generalize swAt c.ss p.sw = s at *
      by_cases hg : 0 < s.gate ∧ s.gate = f.ipDst
      · rw [if_pos hg]
        unfold tellG
        rw [hid]
        repeat' (first | (apply X.loE; (· exact aR); (· first | exact .callL rfl rfl rfl (by first | exact c1 | exact c2) rfl | exact bl (c1) | exact bl (c2))) | refine X.loc ?_ | (refine X.cdT ?_ rfl (by first |(simp only [Bool.not_false, Bool.true_or, Bool.or_true]; done) |(simp only [Bool.not_true, Bool.not_false, Bool.false_or, Bool.or_false, Bool.true_or, Bool.or_eq_true, bne_iff_ne, ne_eq]; omega) |fail)) | (refine X.cdF ?_ rfl (by first |(simp only [Bool.not_true, Bool.false_or, Bool.or_false, Bool.or_eq_false_iff, bne_eq_false_iff_eq]; omega) |fail)) | refine nx ?_ | refine X.cdT ?_ | refine X.cdF ?_ | (refine WP.condBit rfl ?_ ?_) | (refine WP.cond rfl ?_ ?_ <;> intro hcond) | (apply X.gsE; (· exact aR); (· exact aV); (· exact aW); (· intro hc; first | exact .callG rfl rfl rfl (by first | exact c1 | exact c2) rfl | exact bg (c1) | exact bg (c2)); (· exact aR)) | refine rb ?_ | refine nd ?_ | refine dk ?_ | fail)
        refine .ofL (s' := ⟨[(8, .osl 7)], [(7, .row 92 10 1 ((encGl ⟨s.id, id, ⟨p.mac, 60000 + s.id, 2, f.ipDst, p.ip, 0, 0, ⟨#[]⟩⟩⟩).map .fv))]⟩) (by first | exact .inl rfl | exact .inr rfl) ?_ rfl rfl (by repeat' (first | exact trivial | refine ⟨⟨_, rfl, fun _ _ _ _ h => h⟩, ?_⟩))
        refine St.to [(7, .id 86)] [] rfl rfl ?_ ?_ <;> (repeat' (first | exact tA | refine t1 ?_ | exact tB | refine t2 ?_ ?_ | refine t3 ?_ | refine t4 ?_ ?_ | refine .ofEq ?_ | refine OB.To.cut rfl rfl ?_ ?_ ?_ ?_ | refine OB.To.box rfl rfl ?_ | refine ⟨⟨_, rfl, ?_⟩, ?_⟩ | refine ⟨?_, ?_⟩ | fail))
      · rw [if_neg hg]
        repeat' (first | (apply X.loE; (· exact aR); (· first | exact .callL rfl rfl rfl (by first | exact c1 | exact c2) rfl | exact bl (c1) | exact bl (c2))) | refine X.loc ?_ | (refine X.cdT ?_ rfl (by first |(simp only [Bool.not_false, Bool.true_or, Bool.or_true]; done) |(simp only [Bool.not_true, Bool.not_false, Bool.false_or, Bool.or_false, Bool.true_or, Bool.or_eq_true, bne_iff_ne, ne_eq]; omega) |fail)) | (refine X.cdF ?_ rfl (by first |(simp only [Bool.not_true, Bool.false_or, Bool.or_false, Bool.or_eq_false_iff, bne_eq_false_iff_eq]; omega) |fail)) | refine nx ?_ | refine X.cdT ?_ | refine X.cdF ?_ | (refine WP.condBit rfl ?_ ?_) | (refine WP.cond rfl ?_ ?_ <;> intro hcond) | (apply X.gsE; (· exact aR); (· exact aV); (· exact aW); (· intro hc; first | exact .callG rfl rfl rfl (by first | exact c1 | exact c2) rfl | exact bg (c1) | exact bg (c2)); (· exact aR)) | refine rb ?_ | refine nd ?_ | refine dk ?_ | fail)
        refine WP.loop (ι := Nat) (fun k => ⟨[(2, .fv (.int .i64 id)), (4, .optr 4 0), (7, .optr 7 0), (9, .optr 9 0), (11, .optr 11 0), (13, .optr 13 0), (14, .fv (.int .i64 k))], [(4, .box 26 ((encCf c).map .fv)), (7, .box 28 ((encFr f).map .fv)), (9, .box 66 ((encPo p).map .fv)), (11, .box 63 ((encSw s).map .fv)), (13, .box 28 ((encFr ⟨p.mac, 0, 2, f.ipDst, p.ip, 0, 0, ⟨#[]⟩⟩).map .fv))]⟩) (fun k => k ≤ c.ps.length ∧ ∀ q ∈ c.ps.take k, askB f s p.id q = false) (fun k => c.ps.length - k) 0 ⟨by omega, by simp⟩ ?_ ?_
        · skip
          refine St.to [] [] rfl rfl ?_ ?_ <;> (repeat' (first | exact tA | refine t1 ?_ | exact tB | refine t2 ?_ ?_ | refine t3 ?_ | refine t4 ?_ ?_ | refine .ofEq ?_ | refine OB.To.cut rfl rfl ?_ ?_ ?_ ?_ | refine OB.To.box rfl rfl ?_ | refine ⟨⟨_, rfl, ?_⟩, ?_⟩ | refine ⟨?_, ?_⟩ | fail))
        rintro k ⟨hk, hd⟩
        try dsimp only
        by_cases hlt : k < c.ps.length
        case neg =>
          rw [List.take_of_length_le (by omega)] at hd
          rw [List.find?_eq_none.2 fun q hq => by rw [hd q hq]; simp]
          repeat' (first | refine X.loc ?_ | refine nx ?_ | refine X.cdT ?_ | refine X.cdF ?_ | (refine WP.condBit rfl ?_ ?_) | (refine WP.cond rfl ?_ ?_ <;> intro hcond) | refine rb ?_ | refine nd ?_ | refine dk ?_ | fail)
          refine .ofL (s' := ⟨[(8, .osl 7)], [(7, .row 92 10 0 [])]⟩) (by first | exact .inl rfl | exact .inr rfl) ?_ rfl rfl (by repeat' (first | exact trivial | refine ⟨⟨_, rfl, fun _ _ _ _ h => h⟩, ?_⟩))
          refine St.to [(7, .nil)] [] rfl rfl ?_ ?_ <;> (repeat' (first | exact tA | refine t1 ?_ | exact tB | refine t2 ?_ ?_ | refine t3 ?_ | refine t4 ?_ ?_ | refine .ofEq ?_ | refine OB.To.cut rfl rfl ?_ ?_ ?_ ?_ | refine OB.To.box rfl rfl ?_ | refine ⟨⟨_, rfl, ?_⟩, ?_⟩ | refine ⟨?_, ?_⟩ | fail))
        case pos =>
          obtain ⟨x, hx⟩ : ∃ x, c.ps[k]? = some x := ⟨_, List.getElem?_eq_getElem hlt⟩
          by_cases hq : x.sw = s.id ∧ x.ip = f.ipDst ∧ x.id ≠ id
          · have hfd : c.ps.find? (askB f s p.id) = some x := find_ix hx (by simp [askB, hq, hid]) fun j y hj hy => hd y (List.mem_of_getElem? (i := j) (by rw [List.getElem?_take, if_pos hj]; exact hy))
            rw [hfd]
            unfold tellG
            rw [hid]
            repeat' (first | (apply X.loE; (· exact aR); (· first | (exact .eff (.idxS rfl rfl rfl encPo_len hx)))) | refine X.loc ?_ | refine nx ?_ | refine X.cdT ?_ | refine X.cdF ?_ | (refine WP.condBit rfl ?_ ?_) | (refine WP.cond rfl ?_ ?_ <;> intro hcond) | (apply X.gsE; (· exact aR); (· exact aV); (· exact aW); (· intro hc; first | (exact .eff (.idxS rfl rfl rfl encPo_len hx))); (· exact aR)) | refine rb ?_ | refine nd ?_ | refine dk ?_ | fail)
            refine .ofL (s' := ⟨[(8, .osl 7)], [(7, .row 92 10 1 ((encGl ⟨s.id, id, ⟨p.mac, x.mac, 2, f.ipDst, p.ip, 0, 0, ⟨#[]⟩⟩⟩).map .fv))]⟩) (by first | exact .inl rfl | exact .inr rfl) ?_ rfl rfl (by repeat' (first | exact trivial | refine ⟨⟨_, rfl, fun _ _ _ _ h => h⟩, ?_⟩))
            refine St.to [(7, .id 125)] [] rfl rfl ?_ ?_ <;> (repeat' (first | exact tA | refine t1 ?_ | exact tB | refine t2 ?_ ?_ | refine t3 ?_ | refine t4 ?_ ?_ | refine .ofEq ?_ | refine OB.To.cut rfl rfl ?_ ?_ ?_ ?_ | refine OB.To.box rfl rfl ?_ | refine ⟨⟨_, rfl, ?_⟩, ?_⟩ | refine ⟨?_, ?_⟩ | fail))
          · skip
            repeat' (first | (apply X.loE; (· exact aR); (· first | (exact .eff (.idxS rfl rfl rfl encPo_len hx)))) | refine X.loc ?_ | refine nx ?_ | refine X.cdT ?_ | refine X.cdF ?_ | (refine WP.condBit rfl ?_ ?_) | (refine WP.cond rfl ?_ ?_ <;> intro hcond) | (apply X.gsE; (· exact aR); (· exact aV); (· exact aW); (· intro hc; first | (exact .eff (.idxS rfl rfl rfl encPo_len hx))); (· exact aR)) | refine rb ?_ | refine nd ?_ | refine dk ?_ | fail)
            refine ⟨k + 1, ⟨by omega, fun q hqm => ?_⟩, by omega, ?_⟩
            · rw [take_succ hx] at hqm
              rcases List.mem_append.1 hqm with hqm | hqm
              · exact hd q hqm
              · obtain rfl := List.mem_singleton.1 hqm
                rw [Bool.eq_false_iff]
                intro h
                simp only [askB, Bool.and_eq_true, beq_iff_eq, bne_iff_ne] at h
                exact hq ⟨h.1, h.2.1, by rw [← hid]; exact h.2.2⟩
            · skip
              refine St.to [] [] rfl rfl ?_ ?_ <;> (repeat' (first | exact tA | refine t1 ?_ | exact tB | refine t2 ?_ ?_ | refine t3 ?_ | refine t4 ?_ ?_ | refine .ofEq ?_ | refine OB.To.cut rfl rfl ?_ ?_ ?_ ?_ | refine OB.To.box rfl rfl ?_ | refine ⟨⟨_, rfl, ?_⟩, ?_⟩ | refine ⟨?_, ?_⟩ | fail))
    rw [if_neg hk1]
    unfold dataG
    have ca := allows_T c hc (swAt c.ss p.sw).id true f hf
    by_cases hk3 : f.kind = 3
    case neg =>
      rw [if_pos (.inl hk3)]
      repeat' (first | (apply X.loE; (· exact aR); (· first | exact .callL rfl rfl rfl (by first | exact c1 | exact c2 | exact ca) rfl | exact bl (c1) | exact bl (c2) | exact bl (ca))) | refine X.loc ?_ | (refine X.cdT ?_ rfl (by first |(simp only [Bool.not_false, Bool.true_or, Bool.or_true]; done) |(simp only [Bool.not_true, Bool.not_false, Bool.false_or, Bool.or_false, Bool.true_or, Bool.or_eq_true, bne_iff_ne, ne_eq]; omega) |fail)) | (refine X.cdF ?_ rfl (by first |(simp only [Bool.not_true, Bool.false_or, Bool.or_false, Bool.or_eq_false_iff, bne_eq_false_iff_eq]; omega) |fail)) | refine nx ?_ | refine X.cdT ?_ | refine X.cdF ?_ | (refine WP.condBit rfl ?_ ?_) | (refine WP.cond rfl ?_ ?_ <;> intro hcond) | (apply X.gsE; (· exact aR); (· exact aV); (· exact aW); (· intro hc; first | exact .callG rfl rfl rfl (by first | exact c1 | exact c2 | exact ca) rfl | exact bg (c1) | exact bg (c2) | exact bg (ca)); (· exact aR)) | refine rb ?_ | refine nd ?_ | refine dk ?_ | fail)
      refine .ofL (s' := ⟨[(8, .osl 7)], [(7, .row 92 10 0 [])]⟩) (by first | exact .inl rfl | exact .inr rfl) ?_ rfl rfl (by repeat' (first | exact trivial | refine ⟨⟨_, rfl, fun _ _ _ _ h => h⟩, ?_⟩))
      refine St.to [(7, .nil)] [] rfl rfl ?_ ?_ <;> (repeat' (first | exact tA | refine t1 ?_ | exact tB | refine t2 ?_ ?_ | refine t3 ?_ | refine t4 ?_ ?_ | refine .ofEq ?_ | refine OB.To.cut rfl rfl ?_ ?_ ?_ ?_ | refine OB.To.box rfl rfl ?_ | refine ⟨⟨_, rfl, ?_⟩, ?_⟩ | refine ⟨?_, ?_⟩ | fail))
    cases ha : allowB c (swAt c.ss p.sw).id true f.ipSrc f.ipDst f.port with
    | false =>
      rw [ha] at ca
      rw [if_pos (.inr rfl)]
      repeat' (first | (apply X.loE; (· exact aR); (· first | exact .callL rfl rfl rfl (by first | exact c1 | exact c2 | exact ca) rfl | exact bl (c1) | exact bl (c2) | exact bl (ca))) | refine X.loc ?_ | (refine X.cdT ?_ rfl (by first |(simp only [Bool.not_false, Bool.true_or, Bool.or_true]; done) |(simp only [Bool.not_true, Bool.not_false, Bool.false_or, Bool.or_false, Bool.true_or, Bool.or_eq_true, bne_iff_ne, ne_eq]; omega) |fail)) | (refine X.cdF ?_ rfl (by first |(simp only [Bool.not_true, Bool.false_or, Bool.or_false, Bool.or_eq_false_iff, bne_eq_false_iff_eq]; omega) |fail)) | refine nx ?_ | refine X.cdT ?_ | refine X.cdF ?_ | (refine WP.condBit rfl ?_ ?_) | (refine WP.cond rfl ?_ ?_ <;> intro hcond) | (apply X.gsE; (· exact aR); (· exact aV); (· exact aW); (· intro hc; first | exact .callG rfl rfl rfl (by first | exact c1 | exact c2 | exact ca) rfl | exact bg (c1) | exact bg (c2) | exact bg (ca)); (· exact aR)) | refine rb ?_ | refine nd ?_ | refine dk ?_ | fail)
      refine .ofL (s' := ⟨[(8, .osl 7)], [(7, .row 92 10 0 [])]⟩) (by first | exact .inl rfl | exact .inr rfl) ?_ rfl rfl (by repeat' (first | exact trivial | refine ⟨⟨_, rfl, fun _ _ _ _ h => h⟩, ?_⟩))
      refine St.to [(7, .nil)] [] rfl rfl ?_ ?_ <;> (repeat' (first | exact tA | refine t1 ?_ | exact tB | refine t2 ?_ ?_ | refine t3 ?_ | refine t4 ?_ ?_ | refine .ofEq ?_ | refine OB.To.cut rfl rfl ?_ ?_ ?_ ?_ | refine OB.To.box rfl rfl ?_ | refine ⟨⟨_, rfl, ?_⟩, ?_⟩ | refine ⟨?_, ?_⟩ | fail))
    | true =>
      rw [ha] at ca
      rw [if_neg (by simp [hk3])]
      have hgl := fun k => flat_len_le (f := goalQ c p f) (goalQ_len c p f) hpl k
      have hQ : ∀ q, goalQ c p f q = if q.ch < 0 then [] else
          (if q.sw = (swAt c.ss p.sw).id ∧ q.id ≠ p.id ∧ (f.dst = 65535 ∨ f.dst = q.mac) then [⟨(swAt c.ss p.sw).id, q.id, f⟩] else []) ++
          (if 0 < (swAt c.ss p.sw).gate ∧ f.dst = 60000 + (swAt c.ss p.sw).id ∧ 1 < f.ttl ∧ (swAt c.ss q.sw).tenant = (swAt c.ss p.sw).tenant ∧ 0 < (swAt c.ss q.sw).gate ∧ q.ip = f.ipDst then [⟨(swAt c.ss q.sw).id, q.id, ledFr f q (swAt c.ss q.sw)⟩] else []) := fun _ => rfl
      generalize goalQ c p f = Q at *
      generalize swAt c.ss p.sw = s at *
      repeat' (first | (apply X.loE; (· exact aR); (· first | exact .callL rfl rfl rfl (by first | exact c1 | exact c2 | exact ca) rfl | exact bl (c1) | exact bl (c2) | exact bl (ca))) | refine X.loc ?_ | (refine X.cdT ?_ rfl (by first |(simp only [Bool.not_false, Bool.true_or, Bool.or_true]; done) |(simp only [Bool.not_true, Bool.not_false, Bool.false_or, Bool.or_false, Bool.true_or, Bool.or_eq_true, bne_iff_ne, ne_eq]; omega) |fail)) | (refine X.cdF ?_ rfl (by first |(simp only [Bool.not_true, Bool.false_or, Bool.or_false, Bool.or_eq_false_iff, bne_eq_false_iff_eq]; omega) |fail)) | refine nx ?_ | refine X.cdT ?_ | refine X.cdF ?_ | (refine WP.condBit rfl ?_ ?_) | (refine WP.cond rfl ?_ ?_ <;> intro hcond) | (apply X.gsE; (· exact aR); (· exact aV); (· exact aW); (· intro hc; first | exact .callG rfl rfl rfl (by first | exact c1 | exact c2 | exact ca) rfl | exact bg (c1) | exact bg (c2) | exact bg (ca)); (· exact aR)) | refine rb ?_ | refine nd ?_ | refine dk ?_ | fail)
      refine WP.loop (ι := Nat) (fun k => ⟨[(2, .fv (.int .i64 id)), (4, .optr 4 0), (7, .optr 7 0), (9, .optr 9 0), (11, .optr 11 0), (16, .osl 900), (17, .fv (.int .i64 k))], [(4, .box 26 ((encCf c).map .fv)), (7, .box 28 ((encFr f).map .fv)), (9, .box 66 ((encPo p).map .fv)), (11, .box 63 ((encSw s).map .fv)), (900, .row 92 10 ((c.ps.take k).flatMap Q).length ((((c.ps.take k).flatMap Q).flatMap encGl).map .fv))]⟩) (fun k => k ≤ c.ps.length) (fun k => c.ps.length - k) 0 (by omega) ?_ ?_
      · try dsimp only
        rw [List.take_zero, List.flatMap_nil]
        refine St.to [(900, .nil)] [] rfl rfl ?_ ?_ <;> (repeat' (first | exact tA | refine t1 ?_ | exact tB | refine t2 ?_ ?_ | refine t3 ?_ | refine t4 ?_ ?_ | refine .ofEq ?_ | refine OB.To.cut rfl rfl ?_ ?_ ?_ ?_ | refine OB.To.box rfl rfl ?_ | refine ⟨⟨_, rfl, ?_⟩, ?_⟩ | refine ⟨?_, ?_⟩ | fail))
      rintro k hk
      try dsimp only
      have hOl := hgl k
      by_cases hlt : k < c.ps.length
      case neg =>
        rw [List.take_of_length_le (by omega)]
        generalize c.ps.flatMap Q = O at *
        repeat' (first | refine X.loc ?_ | refine nx ?_ | refine X.cdT ?_ | refine X.cdF ?_ | (refine WP.condBit rfl ?_ ?_) | (refine WP.cond rfl ?_ ?_ <;> intro hcond) | refine rb ?_ | refine nd ?_ | refine dk ?_ | fail)
        refine .ofL (s' := ⟨[(8, .osl 7)], [(7, .row 92 10 O.length ((O.flatMap encGl).map .fv))]⟩) (by first | exact .inl rfl | exact .inr rfl) ?_ rfl rfl (by repeat' (first | exact trivial | refine ⟨⟨_, rfl, fun _ _ _ _ h => h⟩, ?_⟩))
        refine St.to [(7, .id 900)] [] rfl rfl ?_ ?_ <;> (repeat' (first | exact tA | refine t1 ?_ | exact tB | refine t2 ?_ ?_ | refine t3 ?_ | refine t4 ?_ ?_ | refine .ofEq ?_ | refine OB.To.cut rfl rfl ?_ ?_ ?_ ?_ | refine OB.To.box rfl rfl ?_ | refine ⟨⟨_, rfl, ?_⟩, ?_⟩ | refine ⟨?_, ?_⟩ | fail))
      case pos =>
        obtain ⟨x, hx⟩ : ∃ x, c.ps[k]? = some x := ⟨_, List.getElem?_eq_getElem hlt⟩
        have hxm := List.mem_of_getElem? hx
        have c3 := switchOf_T c x.sw hc.small
        have es : swOf c.ss x.sw = swAt c.ss x.sw := rfl
        rw [es] at c3
        have ht := hc.swIn hxm
        have htr := hc.sr _ ht.1
        unfold SwR at htr
        have hsn := flat_succ [] Q hx
        rw [List.nil_append, List.nil_append, hQ x] at hsn
        generalize (c.ps.take k).flatMap Q = O at *
        generalize swAt c.ss x.sw = t at *
        by_cases hx0 : x.ch < 0
        · rw [if_pos hx0, List.append_nil] at hsn
          repeat' (first | (apply X.loE; (· exact aR); (· first | (exact .eff (.idxS rfl rfl rfl encPo_len hx)) | exact .callL rfl rfl rfl (c3) rfl | exact bl (c3))) | refine X.loc ?_ | refine nx ?_ | refine X.cdT ?_ | refine X.cdF ?_ | (refine WP.condBit rfl ?_ ?_) | (refine WP.cond rfl ?_ ?_ <;> intro hcond) | (apply X.gsE; (· exact aR); (· exact aV); (· exact aW); (· intro hc; first | (exact .eff (.idxS rfl rfl rfl encPo_len hx)) | exact .callG rfl rfl rfl (c3) rfl | exact bg (c3)); (· exact aR)) | refine rb ?_ | refine nd ?_ | refine dk ?_ | fail)
          refine ⟨k + 1, by omega, by omega, ?_⟩
          try dsimp only
          rw [hsn]
          refine St.to [] [] rfl rfl ?_ ?_ <;> (repeat' (first | exact tA | refine t1 ?_ | exact tB | refine t2 ?_ ?_ | refine t3 ?_ | refine t4 ?_ ?_ | refine .ofEq ?_ | refine OB.To.cut rfl rfl ?_ ?_ ?_ ?_ | refine OB.To.box rfl rfl ?_ | refine ⟨⟨_, rfl, ?_⟩, ?_⟩ | refine ⟨?_, ?_⟩ | fail))
        rw [if_neg hx0] at hsn
        by_cases h1 : x.sw = s.id ∧ x.id ≠ p.id ∧ (f.dst = 65535 ∨ f.dst = x.mac)
        · have n2 : ¬ (0 < s.gate ∧ f.dst = 60000 + s.id ∧ 1 < f.ttl ∧ t.tenant = s.tenant ∧ 0 < t.gate ∧ x.ip = f.ipDst) := fun h => by
            have := (hc.pg x hxm).1.2.1
            rcases h1.2.2 with h3 | h3 <;> omega
          rw [if_pos h1, if_neg n2, List.append_nil] at hsn
          repeat' (first | (apply X.loE; (· exact aR); (· first | (exact .eff (.idxS rfl rfl rfl encPo_len hx)) | exact .callL rfl rfl rfl (c3) rfl | exact bl (c3))) | refine X.loc ?_ | refine nx ?_ | refine X.cdT ?_ | refine X.cdF ?_ | (refine WP.condBit rfl ?_ ?_) | (refine WP.cond rfl ?_ ?_ <;> intro hcond) | (apply X.gsE; (· exact aR); (· exact aV); (· exact aW); (· intro hc; first | (exact .eff (.idxS rfl rfl rfl encPo_len hx)) | exact .callG rfl rfl rfl (c3) rfl | exact bg (c3)); (· exact aR)) | refine rb ?_ | refine nd ?_ | refine dk ?_ | fail)
          refine ⟨k + 1, by omega, by omega, ?_⟩
          try dsimp only
          rw [hsn]
          refine St.to [(900, .id 190)] [] rfl rfl ?_ ?_ <;> (repeat' (first | exact tA | refine t1 ?_ | exact tB | refine t2 ?_ ?_ | refine t3 ?_ | refine t4 ?_ ?_ | refine .ofEq ?_ | refine OB.To.cut rfl rfl ?_ ?_ ?_ ?_ | refine OB.To.box rfl rfl ?_ | refine ⟨⟨_, rfl, ?_⟩, ?_⟩ | refine ⟨?_, ?_⟩ | fail))
          all_goals first | omega | (simp; done) | (simp only [List.flatMap_append, List.map_append]; rfl)
        · rw [if_neg h1, List.nil_append] at hsn
          by_cases h2 : 0 < s.gate ∧ f.dst = 60000 + s.id ∧ 1 < f.ttl ∧ t.tenant = s.tenant ∧ 0 < t.gate ∧ x.ip = f.ipDst
          · rw [if_pos h2] at hsn
            unfold ledFr at hsn
            repeat' (first | (apply X.loE; (· exact aR); (· first | (exact .eff (.idxS rfl rfl rfl encPo_len hx)) | exact .callL rfl rfl rfl (c3) rfl | exact bl (c3))) | refine X.loc ?_ | refine nx ?_ | refine X.cdT ?_ | refine X.cdF ?_ | (refine WP.condBit rfl ?_ ?_) | (refine WP.cond rfl ?_ ?_ <;> intro hcond) | (apply X.gsE; (· exact aR); (· exact aV); (· exact aW); (· intro hc; first | (exact .eff (.idxS rfl rfl rfl encPo_len hx)) | exact .callG rfl rfl rfl (c3) rfl | exact bg (c3)); (· exact aR)) | refine rb ?_ | refine nd ?_ | refine dk ?_ | fail)
            refine ⟨k + 1, by omega, by omega, ?_⟩
            try dsimp only
            rw [hsn]
            refine St.to [(900, .id 246)] [] rfl rfl ?_ ?_ <;> (repeat' (first | exact tA | refine t1 ?_ | exact tB | refine t2 ?_ ?_ | refine t3 ?_ | refine t4 ?_ ?_ | refine .ofEq ?_ | refine OB.To.cut rfl rfl ?_ ?_ ?_ ?_ | refine OB.To.box rfl rfl ?_ | refine ⟨⟨_, rfl, ?_⟩, ?_⟩ | refine ⟨?_, ?_⟩ | fail))
            all_goals first | omega | (simp; done) | (simp only [List.flatMap_append, List.map_append]; rfl)
          · rw [if_neg h2, List.append_nil] at hsn
            repeat' (first | (apply X.loE; (· exact aR); (· first | (exact .eff (.idxS rfl rfl rfl encPo_len hx)) | exact .callL rfl rfl rfl (c3) rfl | exact bl (c3))) | refine X.loc ?_ | refine nx ?_ | refine X.cdT ?_ | refine X.cdF ?_ | (refine WP.condBit rfl ?_ ?_) | (refine WP.cond rfl ?_ ?_ <;> intro hcond) | (apply X.gsE; (· exact aR); (· exact aV); (· exact aW); (· intro hc; first | (exact .eff (.idxS rfl rfl rfl encPo_len hx)) | exact .callG rfl rfl rfl (c3) rfl | exact bg (c3)); (· exact aR)) | refine rb ?_ | refine nd ?_ | refine dk ?_ | fail)
            refine ⟨k + 1, by omega, by omega, ?_⟩
            try dsimp only
            rw [hsn]
            refine St.to [] [] rfl rfl ?_ ?_ <;> (repeat' (first | exact tA | refine t1 ?_ | exact tB | refine t2 ?_ ?_ | refine t3 ?_ | refine t4 ?_ ?_ | refine .ofEq ?_ | refine OB.To.cut rfl rfl ?_ ?_ ?_ ?_ | refine OB.To.box rfl rfl ?_ | refine ⟨⟨_, rfl, ?_⟩, ?_⟩ | refine ⟨?_, ?_⟩ | fail))
theorem ledOf_T (c : Cf) (hc : CfOk c) (ch id : Int) (f : Fr) (hf : FrMay f) : Fun Try.prog 39 [.agg ((encCf c).map .fv), .fv (.int .i64 ch), .fv (.int .i64 id), .agg ((encFr f).map .fv)] (.fv (slOf encGl (ledF c ch id f))) :=
  (ledOf0_T c hc ch id f hf).froz [7] (.frz rfl rfl rfl)
set_option maxHeartbeats 4000000 in
theorem comes_T (c : Cf) (hc : CfOk c) (ch : Int) (g : Gl) (hg : FrMay g.is) : Fun Try.prog 41 [.agg ((encCf c).map .fv), .fv (.int .i64 ch), .agg ((encGl g).map .fv)] (.fv (.bool (comesG c ch g))) := by
  have c1 := portOf_T c g.to hc.small
  rw [po_any] at c1
  have ep : (c.ps.find? fun p => p.id == g.to) = poAt c g.to := rfl
  rw [ep] at c1
  have ca := allows_T c hc g.net false g.is hg
  refine Fun.body tbl_ok Try.func41 rfl (by kernel_rfl) rfl rfl rfl ?_
  unfold comesG
  cases hpo : poAt c g.to with
  | none =>
    rw [hpo] at c1
    simp only [Option.getD_some, Option.getD_none, Option.isSome_some, Option.isSome_none] at c1
    repeat' (first | (apply X.loE; (· exact aR); (· first | exact .callL rfl rfl rfl (c1) rfl | exact bl (c1))) | refine X.loc ?_ | (refine X.cdT ?_ rfl (by first |(simp only [Bool.not_false, Bool.true_or, Bool.or_true]; done) |(simp only [Bool.not_true, Bool.not_false, Bool.false_or, Bool.or_false, Bool.true_or, Bool.or_eq_true, bne_iff_ne, ne_eq]; omega) |fail)) | (refine X.cdF ?_ rfl (by first |(simp only [Bool.not_true, Bool.false_or, Bool.or_false, Bool.or_eq_false_iff, bne_eq_false_iff_eq]; omega) |fail)) | refine nx ?_ | refine X.cdT ?_ | refine X.cdF ?_ | (refine WP.condBit rfl ?_ ?_) | (refine WP.cond rfl ?_ ?_ <;> intro hcond) | (apply X.gsE; (· exact aR); (· exact aV); (· exact aW); (· intro hc; first | exact .callG rfl rfl rfl (c1) rfl | exact bg (c1)); (· exact aR)) | refine rb ?_ | refine nd ?_ | refine dk ?_ | fail)
    exact .f1 (.inl rfl) rfl rfl
  | some q =>
    rw [hpo] at c1
    simp only [Option.getD_some, Option.getD_none, Option.isSome_some, Option.isSome_none] at c1
    try dsimp only
    generalize allowB c g.net false g.is.ipSrc g.is.ipDst g.is.port = b at *
    by_cases h1 : q.ch = ch ∧ q.sw = g.net
    · have e1 : (q.ch == ch && (q.sw == g.net && (g.is.kind == 2 || b))) = (g.is.kind == 2 || b) := by simp [h1]
      rw [e1]
      repeat' (first | (apply X.loE; (· exact aR); (· first | exact .callL rfl rfl rfl (by first | exact c1 | exact ca) rfl | exact bl (c1) | exact bl (ca))) | refine X.loc ?_ | (refine X.cdT ?_ rfl (by first |(simp only [Bool.not_false, Bool.true_or, Bool.or_true]; done) |(simp only [Bool.not_true, Bool.not_false, Bool.false_or, Bool.or_false, Bool.true_or, Bool.or_eq_true, bne_iff_ne, ne_eq]; omega) |fail)) | (refine X.cdF ?_ rfl (by first |(simp only [Bool.not_true, Bool.false_or, Bool.or_false, Bool.or_eq_false_iff, bne_eq_false_iff_eq]; omega) |fail)) | refine nx ?_ | refine X.cdT ?_ | refine X.cdF ?_ | (refine WP.condBit rfl ?_ ?_) | (refine WP.cond rfl ?_ ?_ <;> intro hcond) | (apply X.gsE; (· exact aR); (· exact aV); (· exact aW); (· intro hc; first | exact .callG rfl rfl rfl (by first | exact c1 | exact ca) rfl | exact bg (c1) | exact bg (ca)); (· exact aR)) | refine rb ?_ | refine nd ?_ | refine dk ?_ | fail)
      exact .f1 (.inl rfl) rfl rfl
    · have e1 : (q.ch == ch && (q.sw == g.net && (g.is.kind == 2 || b))) = false := by
        rw [Bool.eq_false_iff]
        intro h
        simp only [Bool.and_eq_true, beq_iff_eq] at h
        exact h1 ⟨h.1, h.2.1⟩
      rw [e1]
      repeat' (first | (apply X.loE; (· exact aR); (· first | exact .callL rfl rfl rfl (by first | exact c1 | exact ca) rfl | exact bl (c1) | exact bl (ca))) | refine X.loc ?_ | (refine X.cdT ?_ rfl (by first |(simp only [Bool.not_false, Bool.true_or, Bool.or_true]; done) |(simp only [Bool.not_true, Bool.not_false, Bool.false_or, Bool.or_false, Bool.true_or, Bool.or_eq_true, bne_iff_ne, ne_eq]; omega) |fail)) | (refine X.cdF ?_ rfl (by first |(simp only [Bool.not_true, Bool.false_or, Bool.or_false, Bool.or_eq_false_iff, bne_eq_false_iff_eq]; omega) |fail)) | refine nx ?_ | refine X.cdT ?_ | refine X.cdF ?_ | (refine WP.condBit rfl ?_ ?_) | (refine WP.cond rfl ?_ ?_ <;> intro hcond) | (apply X.gsE; (· exact aR); (· exact aV); (· exact aW); (· intro hc; first | exact .callG rfl rfl rfl (by first | exact c1 | exact ca) rfl | exact bg (c1) | exact bg (ca)); (· exact aR)) | refine rb ?_ | refine nd ?_ | refine dk ?_ | fail)
      exact .f1 (.inl rfl) rfl rfl
end Go.Proofs.Ytmidechdlbcepaa

namespace Go.Proofs.Ytmidechdlbcepaa
open Go.RowKit
set_option maxRecDepth 100000

theorem readBo {T : List Bool} {i off : Nat} {b : Bool} (h : off = i) (hx : T[i]? = some b) : readA tbl 4 off ((T.map FV.bool).map .fv) = some (.fv (.bool b)) := by
  subst h
  have hlt := (List.getElem?_eq_some_iff.1 hx).1
  unfold readA
  rw [dropO_mk (by rw [List.length_map, List.length_map]; omega), ← List.map_drop, ← List.map_drop, List.drop_eq_getElem_cons hlt, (List.getElem?_eq_some_iff.1 hx).2]
  generalize T.drop (off + 1) = r
  cases r with
  | nil => rfl
  | cons a r => rfl
theorem setBo {T : List Bool} {i off : Nat} {b : Bool} (h : off = i) (hi : i < T.length) : setC ((T.map FV.bool).map .fv) off [.fv (.bool b)] = some (((T.set i b).map FV.bool).map .fv) := by
  subst h
  rw [setC_mk (by rw [List.length_map, List.length_map]; show off + 1 ≤ _; omega)]
  congr 1
  rw [List.set_eq_take_append_cons_drop, if_pos hi, List.map_append, List.map_append, List.map_cons, List.map_cons, List.map_take, List.map_take, List.map_drop, List.map_drop, List.append_assoc]
  rfl
set_option maxHeartbeats 16000000 in
theorem means_T (L : List Fl) (c : Cf) (hc : CfOk c) (ch id : Int) (f : Fr) (hf : FrMay f) (he : ranFault L (pkOf f id 0 0) = 0) (hSl : (ranOf L (pkOf f id 0 0)).length ≤ 1000) (hGl : (ledF c ch id f).length ≤ 1000) (hG : ∀ g ∈ ledF c ch id f, FrMay g.is)
    (hm : meansN c ch (ranOf L (pkOf f id 0 0)) (ledF c ch id f) (List.replicate (ranOf L (pkOf f id 0 0)).length false) = some (List.replicate (ranOf L (pkOf f id 0 0)).length true)) :
    Fun Try.prog 12 [.fv (slOf encFl L), .agg ((encCf c).map .fv), .fv (.int .i64 ch), .fv (.int .i64 id), .agg ((encFr f).map .fv)] (.fv (.bool true)) := by
  have hpl := hc.pl
  have c1 := lpacket_T f id 0 0
  have c2 := ranOf_T L (pkOf f id 0 0)
  have e2 : ranR L (pkOf f id 0 0) = ranOf L (pkOf f id 0 0) := by unfold ranR; rw [if_neg (by omega)]
  rw [e2, he] at c2
  have c3 := ledOf_T c hc ch id f hf
  generalize ledF c ch id f = G at *
  generalize ranOf L (pkOf f id 0 0) = S at *
  generalize pkOf f id 0 0 = p at *
  refine Fun.body tbl_ok Try.func12 rfl (by kernel_rfl) rfl rfl rfl ?_
  repeat' (first | (apply X.loE; (· exact aR); (· first | exact .callL rfl rfl rfl (by first | exact c1 | exact c2 | exact c3) rfl | exact bl (c1) | exact bl (c2) | exact bl (c3))) | refine X.loc ?_ | refine nx ?_ | refine X.cdT ?_ | refine X.cdF ?_ | (refine WP.condBit rfl ?_ ?_) | (refine WP.cond rfl ?_ ?_ <;> intro hcond) | (apply X.gsE; (· exact aR); (· exact aV); (· exact aW); (· intro hc; first | exact .callG rfl rfl rfl (by first | exact c1 | exact c2 | exact c3) rfl | exact bg (c1) | exact bg (c2) | exact bg (c3)); (· exact aR)) | refine rb ?_ | refine nd ?_ | refine dk ?_ | fail)
  refine WP.loop (ι := Nat × List Bool) (fun x => ⟨[(2, .fv (.int .i64 ch)), (6, .optr 6 0), (11, .fv (slOf encSnt S)), (13, .fv (slOf encGl G)), (14, .osl 900), (15, .fv (.int .i64 x.1))], [(6, .box 26 ((encCf c).map .fv)), (900, .row 4 1 S.length ((x.2.map FV.bool).map .fv))]⟩) (fun x => x.1 ≤ G.length ∧ x.2.length = S.length ∧ meansN c ch S (G.drop x.1) x.2 = some (List.replicate S.length true)) (fun x => G.length - x.1) (0, List.replicate S.length false) ⟨by omega, by simp, by simpa using hm⟩ ?_ ?_
  · try dsimp only
    have e0 : ((List.replicate S.length false).map FV.bool).map AV.fv = (List.replicate S.length [AV.fv (.bool false)]).flatten := by
      generalize S.length = n
      induction n with
      | zero => rfl
      | succ n ih => rw [List.replicate_succ, List.replicate_succ, List.map_cons, List.map_cons, ih, List.flatten_cons]; rfl
    refine St.to [(900, .id 42)] [] rfl rfl ?_ ?_ <;> (repeat' (first | exact tA | refine t1 ?_ | exact tB | refine t2 ?_ ?_ | refine t3 ?_ | refine t4 ?_ ?_ | refine .ofEq ?_ | refine OB.To.cut rfl rfl ?_ ?_ ?_ ?_ | refine OB.To.box rfl rfl ?_ | refine ⟨⟨_, rfl, ?_⟩, ?_⟩ | refine ⟨?_, ?_⟩ | fail))
    all_goals first | omega | (simp; done) | exact .ofEq e0.symm
  rintro ⟨k, T⟩ ⟨hk, hT, hM⟩
  try dsimp only at hk hT hM ⊢
  by_cases hlt : k < G.length
  case neg =>
    rw [List.drop_of_length_le (by omega), meansN] at hM
    obtain rfl := Option.some.inj hM
    repeat' (first | refine X.loc ?_ | refine nx ?_ | refine X.cdT ?_ | refine X.cdF ?_ | (refine WP.condBit rfl ?_ ?_) | (refine WP.cond rfl ?_ ?_ <;> intro hcond) | refine rb ?_ | refine nd ?_ | refine dk ?_ | fail)
    refine WP.loop (ι := Nat) (fun j => ⟨[(11, .fv (slOf encSnt S)), (14, .osl 901), (24, .fv (.int .i64 j))], [(901, .row 4 1 S.length (((List.replicate S.length true).map FV.bool).map .fv))]⟩) (fun j => j ≤ S.length) (fun j => S.length - j) 0 (by omega) ?_ ?_
    · try dsimp only
      refine St.to [(901, .id 900)] [] rfl rfl ?_ ?_ <;> (repeat' (first | exact tA | refine t1 ?_ | exact tB | refine t2 ?_ ?_ | refine t3 ?_ | refine t4 ?_ ?_ | refine .ofEq ?_ | refine OB.To.cut rfl rfl ?_ ?_ ?_ ?_ | refine OB.To.box rfl rfl ?_ | refine ⟨⟨_, rfl, ?_⟩, ?_⟩ | refine ⟨?_, ?_⟩ | fail))
    rintro j hj
    try dsimp only
    by_cases hlt2 : j < S.length
    case neg =>
      repeat' (first | refine X.loc ?_ | refine nx ?_ | refine X.cdT ?_ | refine X.cdF ?_ | (refine WP.condBit rfl ?_ ?_) | (refine WP.cond rfl ?_ ?_ <;> intro hcond) | refine rb ?_ | refine nd ?_ | refine dk ?_ | fail)
      exact .f1 (.inl rfl) rfl rfl
    case pos =>
      have hb : (List.replicate S.length true)[j]? = some true := by rw [List.getElem?_replicate, if_pos hlt2]
      generalize (List.replicate S.length true) = U at *
      repeat' (first | (apply X.loE; (· exact aR); (· first | (exact .eff (.loadO rfl rfl (readBo (i := j) (by omega) hb))))) | refine X.loc ?_ | refine nx ?_ | refine X.cdT ?_ | refine X.cdF ?_ | (refine WP.condBit rfl ?_ ?_) | (refine WP.cond rfl ?_ ?_ <;> intro hcond) | (apply X.gsE; (· exact aR); (· exact aV); (· exact aW); (· intro hc; first | (exact .eff (.loadO rfl rfl (readBo (i := j) (by omega) hb)))); (· exact aR)) | refine rb ?_ | refine nd ?_ | refine dk ?_ | fail)
      refine ⟨j + 1, by omega, by omega, ?_⟩
      try dsimp only
      refine St.to [] [] rfl rfl ?_ ?_ <;> (repeat' (first | exact tA | refine t1 ?_ | exact tB | refine t2 ?_ ?_ | refine t3 ?_ | refine t4 ?_ ?_ | refine .ofEq ?_ | refine OB.To.cut rfl rfl ?_ ?_ ?_ ?_ | refine OB.To.box rfl rfl ?_ | refine ⟨⟨_, rfl, ?_⟩, ?_⟩ | refine ⟨?_, ?_⟩ | fail))
  case pos =>
    obtain ⟨g, hg⟩ : ∃ g, G[k]? = some g := ⟨_, List.getElem?_eq_getElem hlt⟩
    have c4 := comes_T c hc ch g (hG g (List.mem_of_getElem? hg))
    have hd : G.drop k = g :: G.drop (k + 1) := by rw [List.drop_eq_getElem_cons hlt, (List.getElem?_eq_some_iff.1 hg).2]
    rw [hd, meansN] at hM
    by_cases hmiss : (markN c ch (atP g.to c.ps 0) g S T S.length).2 = 0 ∧ (atP g.to c.ps 0 ≠ ch ∨ comesG c ch g = true)
    · rw [if_pos hmiss] at hM
      cases hM
    rw [if_neg hmiss] at hM
    repeat' (first | (apply X.loE; (· exact aR); (· first | (exact .eff (.idxS rfl rfl rfl encGl_len hg)))) | refine X.loc ?_ | refine nx ?_ | refine X.cdT ?_ | refine X.cdF ?_ | (refine WP.condBit rfl ?_ ?_) | (refine WP.cond rfl ?_ ?_ <;> intro hcond) | (apply X.gsE; (· exact aR); (· exact aV); (· exact aW); (· intro hc; first | (exact .eff (.idxS rfl rfl rfl encGl_len hg))); (· exact aR)) | refine rb ?_ | refine nd ?_ | refine dk ?_ | fail)
    refine WP.loop (ι := Nat) (fun j => ⟨[(2, .fv (.int .i64 ch)), (6, .optr 6 0), (11, .fv (slOf encSnt S)), (13, .fv (slOf encGl G)), (14, .osl 900), (15, .fv (.int .i64 k)), (16, .optr 902 0), (17, .fv (.int .i64 (atP g.to (c.ps.take j) 0))), (18, .fv (.int .i64 j))], [(6, .box 26 ((encCf c).map .fv)), (900, .row 4 1 S.length ((T.map FV.bool).map .fv)), (902, .box 92 ((encGl g).map .fv))]⟩) (fun j => j ≤ c.ps.length) (fun j => c.ps.length - j) 0 (by omega) ?_ ?_
    · try dsimp only
      rw [List.take_zero, atP]
      refine St.to [(902, .id 16)] [] rfl rfl ?_ ?_ <;> (repeat' (first | exact tA | refine t1 ?_ | exact tB | refine t2 ?_ ?_ | refine t3 ?_ | refine t4 ?_ ?_ | refine .ofEq ?_ | refine OB.To.cut rfl rfl ?_ ?_ ?_ ?_ | refine OB.To.box rfl rfl ?_ | refine ⟨⟨_, rfl, ?_⟩, ?_⟩ | refine ⟨?_, ?_⟩ | fail))
    rintro j hj
    try dsimp only
    by_cases hlt2 : j < c.ps.length
    case pos =>
      obtain ⟨q, hq⟩ : ∃ q, c.ps[j]? = some q := ⟨_, List.getElem?_eq_getElem hlt2⟩
      have hs : atP g.to (c.ps.take (j + 1)) 0 = if q.id = g.to then q.ch else atP g.to (c.ps.take j) 0 := by
        rw [List.take_add_one, hq]
        exact atP_snoc _ _ _ _
      generalize atP g.to (c.ps.take j) 0 = a at *
      by_cases hqg : q.id = g.to
      · rw [if_pos hqg] at hs
        repeat' (first | (apply X.loE; (· exact aR); (· first | (exact .eff (.idxS rfl rfl rfl encPo_len hq)))) | refine X.loc ?_ | (refine X.cdT ?_ rfl (by exact beq_iff_eq.2 hqg)) | refine nx ?_ | refine X.cdT ?_ | refine X.cdF ?_ | (refine WP.condBit rfl ?_ ?_) | (refine WP.cond rfl ?_ ?_ <;> intro hcond) | (apply X.gsE; (· exact aR); (· exact aV); (· exact aW); (· intro hc; first | (exact .eff (.idxS rfl rfl rfl encPo_len hq))); (· exact aR)) | refine rb ?_ | refine nd ?_ | refine dk ?_ | fail)
        refine ⟨j + 1, by omega, by omega, ?_⟩
        try dsimp only
        rw [hs]
        refine St.to [] [] rfl rfl ?_ ?_ <;> (repeat' (first | exact tA | refine t1 ?_ | exact tB | refine t2 ?_ ?_ | refine t3 ?_ | refine t4 ?_ ?_ | refine .ofEq ?_ | refine OB.To.cut rfl rfl ?_ ?_ ?_ ?_ | refine OB.To.box rfl rfl ?_ | refine ⟨⟨_, rfl, ?_⟩, ?_⟩ | refine ⟨?_, ?_⟩ | fail))
      · rw [if_neg hqg] at hs
        repeat' (first | (apply X.loE; (· exact aR); (· first | (exact .eff (.idxS rfl rfl rfl encPo_len hq)))) | refine X.loc ?_ | (refine X.cdF ?_ rfl (by exact beq_eq_false_iff_ne.2 hqg)) | refine nx ?_ | refine X.cdT ?_ | refine X.cdF ?_ | (refine WP.condBit rfl ?_ ?_) | (refine WP.cond rfl ?_ ?_ <;> intro hcond) | (apply X.gsE; (· exact aR); (· exact aV); (· exact aW); (· intro hc; first | (exact .eff (.idxS rfl rfl rfl encPo_len hq))); (· exact aR)) | refine rb ?_ | refine nd ?_ | refine dk ?_ | fail)
        refine ⟨j + 1, by omega, by omega, ?_⟩
        try dsimp only
        rw [hs]
        refine St.to [] [] rfl rfl ?_ ?_ <;> (repeat' (first | exact tA | refine t1 ?_ | exact tB | refine t2 ?_ ?_ | refine t3 ?_ | refine t4 ?_ ?_ | refine .ofEq ?_ | refine OB.To.cut rfl rfl ?_ ?_ ?_ ?_ | refine OB.To.box rfl rfl ?_ | refine ⟨⟨_, rfl, ?_⟩, ?_⟩ | refine ⟨?_, ?_⟩ | fail))
    case neg =>
      rw [List.take_of_length_le (by omega)]
      generalize atP g.to c.ps 0 = at_ at *
      repeat' (first | refine X.loc ?_ | refine nx ?_ | refine X.cdT ?_ | refine X.cdF ?_ | (refine WP.condBit rfl ?_ ?_) | (refine WP.cond rfl ?_ ?_ <;> intro hcond) | refine rb ?_ | refine nd ?_ | refine dk ?_ | fail)
      refine WP.loop (ι := Nat) (fun m => ⟨[(2, .fv (.int .i64 ch)), (6, .optr 6 0), (11, .fv (slOf encSnt S)), (13, .fv (slOf encGl G)), (14, .osl 903), (15, .fv (.int .i64 k)), (16, .optr 902 0), (17, .fv (.int .i64 at_)), (19, .fv (.int .i64 (markN c ch at_ g S T m).2)), (20, .fv (.int .i64 m))], [(6, .box 26 ((encCf c).map .fv)), (903, .row 4 1 S.length (((markN c ch at_ g S T m).1.map FV.bool).map .fv)), (902, .box 92 ((encGl g).map .fv))]⟩) (fun m => m ≤ S.length) (fun m => S.length - m) 0 (by omega) ?_ ?_
      · try dsimp only
        rw [markN]
        refine St.to [(903, .id 900)] [] rfl rfl ?_ ?_ <;> (repeat' (first | exact tA | refine t1 ?_ | exact tB | refine t2 ?_ ?_ | refine t3 ?_ | refine t4 ?_ ?_ | refine .ofEq ?_ | refine OB.To.cut rfl rfl ?_ ?_ ?_ ?_ | refine OB.To.box rfl rfl ?_ | refine ⟨⟨_, rfl, ?_⟩, ?_⟩ | refine ⟨?_, ?_⟩ | fail))
      rintro m hm2
      try dsimp only
      by_cases hlt3 : m < S.length
      case neg =>
        obtain rfl : m = S.length := by omega
        have hml := markN_len c ch at_ g S T S.length
        generalize markN c ch at_ g S T S.length = Y at *
        obtain ⟨T2, n⟩ := Y
        try dsimp only at *
        have hmf : (n == 0 && (at_ != ch || comesG c ch g)) = false := by
          rw [Bool.eq_false_iff]
          intro h
          simp only [Bool.and_eq_true, Bool.or_eq_true, beq_iff_eq, bne_iff_ne] at h
          exact hmiss h
        repeat' (first | (apply X.loE; (· exact aR); (· first | exact .callL rfl rfl rfl (c4) rfl | exact bl (c4))) | refine X.loc ?_ | (refine X.cdF ?_ rfl hmf) | refine nx ?_ | refine X.cdT ?_ | refine X.cdF ?_ | (refine WP.condBit rfl ?_ ?_) | (refine WP.cond rfl ?_ ?_ <;> intro hcond) | (apply X.gsE; (· exact aR); (· exact aV); (· exact aW); (· intro hc; first | exact .callG rfl rfl rfl (c4) rfl | exact bg (c4)); (· exact aR)) | refine rb ?_ | refine nd ?_ | refine dk ?_ | fail)
        refine ⟨(k + 1, T2), ⟨by dsimp only; omega, hml.trans hT, hM⟩, by dsimp only; omega, ?_⟩
        try dsimp only
        refine St.to [(900, .id 903)] [] rfl rfl ?_ ?_ <;> (repeat' (first | exact tA | refine t1 ?_ | exact tB | refine t2 ?_ ?_ | refine t3 ?_ | refine t4 ?_ ?_ | refine .ofEq ?_ | refine OB.To.cut rfl rfl ?_ ?_ ?_ ?_ | refine OB.To.box rfl rfl ?_ | refine ⟨⟨_, rfl, ?_⟩, ?_⟩ | refine ⟨?_, ?_⟩ | fail))
      case pos =>
        obtain ⟨s, hs⟩ : ∃ s, S[m]? = some s := ⟨_, List.getElem?_eq_getElem hlt3⟩
        have hml := markN_len c ch at_ g S T m
        have hst : markN c ch at_ g S T (m + 1) = if beqL (frV (frOfP s.p)) (frV g.is) = true ∧ hitB c ch at_ g s ((markN c ch at_ g S T m).1.getD m false) (markN c ch at_ g S T m).2 = true then ((markN c ch at_ g S T m).1.set m true, (markN c ch at_ g S T m).2 + 1) else markN c ch at_ g S T m := by
          rw [markN, hs]
        generalize markN c ch at_ g S T m = Y at *
        obtain ⟨T2, n⟩ := Y
        try dsimp only at hml hst ⊢
        have hb : T2[m]? = some (T2.getD m false) := by
          rw [List.getD_eq_getElem?_getD, List.getElem?_eq_getElem (by omega)]
          rfl
        generalize T2.getD m false = told at *
        have c5 := framed_T s.p
        have hset := setBo (T := T2) (i := m) (off := (m : Int).toNat * 1) (b := true) (by omega) (by omega)
        by_cases hbe : beqL (frV (frOfP s.p)) (frV g.is) = true
        case neg =>
          rw [if_neg (fun h => hbe h.1)] at hst
          have hbn : (!beqL (frV (frOfP s.p)) (frV g.is)) = true := by simp [hbe]
          repeat' (first | (apply X.loE; (· exact aR); (· first | (exact .eff (.idxS rfl rfl rfl encSnt_len hs)) | exact .callL rfl rfl rfl (c5) rfl | exact bl (c5))) | refine X.loc ?_ | (refine X.cdT ?_ rfl hbn) | refine nx ?_ | refine X.cdT ?_ | refine X.cdF ?_ | (refine WP.condBit rfl ?_ ?_) | (refine WP.cond rfl ?_ ?_ <;> intro hcond) | (apply X.gsE; (· exact aR); (· exact aV); (· exact aW); (· intro hc; first | (exact .eff (.idxS rfl rfl rfl encSnt_len hs)) | exact .callG rfl rfl rfl (c5) rfl | exact bg (c5)); (· exact aR)) | refine rb ?_ | refine nd ?_ | refine dk ?_ | fail)
          refine ⟨m + 1, by omega, by omega, ?_⟩
          try dsimp only
          rw [hst]
          refine St.to [] [] rfl rfl ?_ ?_ <;> (repeat' (first | exact tA | refine t1 ?_ | exact tB | refine t2 ?_ ?_ | refine t3 ?_ | refine t4 ?_ ?_ | refine .ofEq ?_ | refine OB.To.cut rfl rfl ?_ ?_ ?_ ?_ | refine OB.To.box rfl rfl ?_ | refine ⟨⟨_, rfl, ?_⟩, ?_⟩ | refine ⟨?_, ?_⟩ | fail))
        case pos =>
          have hbn : (!beqL (frV (frOfP s.p)) (frV g.is)) = false := by simp [hbe]
          cases hh : hitB c ch at_ g s told n with
          | false =>
            rw [if_neg (fun h => by rw [hh] at h; cases h.2)] at hst
            repeat' (first | (apply X.loE; (· exact aR); (· first | (exact .eff (.idxS rfl rfl rfl encSnt_len hs)) | (exact .eff (.loadO rfl rfl (readBo (i := m) (by omega) hb))) | exact .callL rfl rfl rfl (by first | exact c4 | exact c5) rfl | exact bl (c4) | exact bl (c5))) | refine X.loc ?_ | (refine X.cdF ?_ rfl hbn) | (refine X.cdF ?_ rfl hh) | refine nx ?_ | refine X.cdT ?_ | refine X.cdF ?_ | (refine WP.condBit rfl ?_ ?_) | (refine WP.cond rfl ?_ ?_ <;> intro hcond) | (apply X.gsE; (· exact aR); (· exact aV); (· exact aW); (· intro hc; first | (exact .eff (.idxS rfl rfl rfl encSnt_len hs)) | (exact .eff (.loadO rfl rfl (readBo (i := m) (by omega) hb))) | exact .callG rfl rfl rfl (by first | exact c4 | exact c5) rfl | exact bg (c4) | exact bg (c5)); (· exact aR)) | refine rb ?_ | refine nd ?_ | refine dk ?_ | fail)
            refine ⟨m + 1, by omega, by omega, ?_⟩
            try dsimp only
            rw [hst]
            refine St.to [] [] rfl rfl ?_ ?_ <;> (repeat' (first | exact tA | refine t1 ?_ | exact tB | refine t2 ?_ ?_ | refine t3 ?_ | refine t4 ?_ ?_ | refine .ofEq ?_ | refine OB.To.cut rfl rfl ?_ ?_ ?_ ?_ | refine OB.To.box rfl rfl ?_ | refine ⟨⟨_, rfl, ?_⟩, ?_⟩ | refine ⟨?_, ?_⟩ | fail))
          | true =>
            rw [if_pos ⟨hbe, hh⟩] at hst
            have hn0 : n = 0 := by
              unfold hitB at hh
              simp only [Bool.and_eq_true, beq_iff_eq] at hh
              exact hh.2
            repeat' (first | (apply X.loE; (· exact aR); (· first | (exact .eff (.idxS rfl rfl rfl encSnt_len hs)) | (exact .eff (.loadO rfl rfl (readBo (i := m) (by omega) hb))) | exact .callL rfl rfl rfl (by first | exact c4 | exact c5) rfl | exact bl (c4) | exact bl (c5))) | refine X.loc ?_ | (refine X.cdF ?_ rfl hbn) | (refine X.cdT ?_ rfl hh) | (apply X.stRE; (· exact aS); (· exact hset); (· exact aE)) | refine nx ?_ | refine X.cdT ?_ | refine X.cdF ?_ | (refine WP.condBit rfl ?_ ?_) | (refine WP.cond rfl ?_ ?_ <;> intro hcond) | (apply X.gsE; (· exact aR); (· exact aV); (· exact aW); (· intro hc; first | (exact .eff (.idxS rfl rfl rfl encSnt_len hs)) | (exact .eff (.loadO rfl rfl (readBo (i := m) (by omega) hb))) | exact .callG rfl rfl rfl (by first | exact c4 | exact c5) rfl | exact bg (c4) | exact bg (c5)); (· exact aR)) | refine rb ?_ | refine nd ?_ | refine dk ?_ | fail)
            refine ⟨m + 1, by omega, by omega, ?_⟩
            try dsimp only
            rw [hst]
            refine St.to [] [] rfl rfl ?_ ?_ <;> (repeat' (first | exact tA | refine t1 ?_ | exact tB | refine t2 ?_ ?_ | refine t3 ?_ | refine t4 ?_ ?_ | refine .ofEq ?_ | refine OB.To.cut rfl rfl ?_ ?_ ?_ ?_ | refine OB.To.box rfl rfl ?_ | refine ⟨⟨_, rfl, ?_⟩, ?_⟩ | refine ⟨?_, ?_⟩ | fail))
set_option maxHeartbeats 4000000 in
theorem lcomes_T (L : List Fl) (c : Cf) (hc : CfOk c) (ch n t : Int) (f : Fr) (hf : FrMay f) (he : ranFault L (pkOf f 0 n t) = 0) (hm : ranOf L (pkOf f 0 n t) = if comesG c ch ⟨n, t, f⟩ = true then [⟨5, t, pkOf f 0 n t⟩] else []) :
    Fun Try.prog 13 [.fv (slOf encFl L), .agg ((encCf c).map .fv), .fv (.int .i64 ch), .fv (.int .i64 n), .fv (.int .i64 t), .agg ((encFr f).map .fv)] (.fv (.bool true)) := by
  have c1 := lpacket_T f 0 n t
  have c2 := ranOf_T L (pkOf f 0 n t)
  have e2 : ranR L (pkOf f 0 n t) = ranOf L (pkOf f 0 n t) := by unfold ranR; rw [if_neg (by omega)]
  rw [e2, he] at c2
  have c3 := comes_T c hc ch ⟨n, t, f⟩ hf
  have c4 := framed_T (pkOf f 0 n t)
  rw [frOfP_pk] at c4
  refine Fun.body tbl_ok Try.func13 rfl (by kernel_rfl) rfl rfl rfl ?_
  cases hb : comesG c ch ⟨n, t, f⟩ with
  | false =>
    rw [hb] at c3 hm
    rw [if_neg (by decide)] at hm
    rw [hm] at c2
    generalize pkOf f 0 n t = p at *
    repeat' (first | (apply X.loE; (· exact aR); (· first | exact .callL rfl rfl rfl (by first | exact c1 | exact c2 | exact c3) rfl | exact bl (c1) | exact bl (c2) | exact bl (c3))) | refine X.loc ?_ | refine nx ?_ | refine X.cdT ?_ | refine X.cdF ?_ | (refine WP.condBit rfl ?_ ?_) | (refine WP.cond rfl ?_ ?_ <;> intro hcond) | (apply X.gsE; (· exact aR); (· exact aV); (· exact aW); (· intro hc; first | exact .callG rfl rfl rfl (by first | exact c1 | exact c2 | exact c3) rfl | exact bg (c1) | exact bg (c2) | exact bg (c3)); (· exact aR)) | refine rb ?_ | refine nd ?_ | refine dk ?_ | fail)
    exact .f1 (.inl rfl) rfl rfl
  | true =>
    rw [hb] at c3 hm
    rw [if_pos rfl] at hm
    rw [hm] at c2
    generalize pkOf f 0 n t = p at *
    have hx : [(⟨5, t, p⟩ : Snt)][0]? = some ⟨5, t, p⟩ := rfl
    repeat' (first | (apply X.loE; (· exact aR); (· first | (exact .eff (.idxS rfl rfl rfl encSnt_len hx)) | exact .callL rfl rfl rfl (by first | exact c1 | exact c2 | exact c3 | exact c4) rfl | exact bl (c1) | exact bl (c2) | exact bl (c3) | exact bl (c4))) | refine X.loc ?_ | refine nx ?_ | refine X.cdT ?_ | refine X.cdF ?_ | (refine WP.condBit rfl ?_ ?_) | (refine WP.cond rfl ?_ ?_ <;> intro hcond) | (apply X.gsE; (· exact aR); (· exact aV); (· exact aW); (· intro hc; first | (exact .eff (.idxS rfl rfl rfl encSnt_len hx)) | exact .callG rfl rfl rfl (by first | exact c1 | exact c2 | exact c3 | exact c4) rfl | exact bg (c1) | exact bg (c2) | exact bg (c3) | exact bg (c4)); (· exact aR)) | refine rb ?_ | refine nd ?_ | refine dk ?_ | fail)
    refine .f1 (.inl rfl) rfl ?_
    simp [beqL, beqV]
end Go.Proofs.Ytmidechdlbcepaa
