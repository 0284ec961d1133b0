import Derived.Test.YtmidechdlbcepaaGreatPack40
set_option linter.unusedSimpArgs false
set_option linter.unusedVariables false
namespace Go.Proofs.YtmidechdlbcepaaGreat
open Go.RowKit
set_option maxRecDepth 100000
set_option maxHeartbeats 8000000 in
theorem symMerge1_T (l : List Ac) (a b : Nat) (hr : ∀ x ∈ l, AcR x) (ha : a + 1 < b) (hb : b ≤ l.length) (hl : l.length ≤ 40) (ho : ((l.take b).drop (a + 1)).Pairwise fun x y => y.prio ≤ x.prio) : FunO Tryz.prog 172 [.osl 1000, .fv (.int .i64 a), .fv (.int .i64 (a + 1 : Nat)), .fv (.int .i64 b), .fn 133 []] [(1000, acRw l)] (.tup []) [(1000, acRw (mrgL l a b))] := by
  refine FunO.bodyL tbl_ok Tryz.func172 rfl (by kernel_rfl) rfl rfl rfl ?_
  unfold acRw
  rw [show ((a + 1 : Nat) : Int) = (a : Int) + 1 by omega]
  obtain ⟨x, hx⟩ : ∃ x, l[a]? = some x := ⟨_, List.getElem?_eq_getElem (by omega)⟩
  have hxr := hr x (List.mem_of_getElem? hx)
  have hmg := fun i => @mrg_one l a b i x hx
  repeat' (first | refine X.loc ?_ | refine nx ?_ | refine X.cdT ?_ | refine X.cdF ?_ | refine cb ?_ ?_ | (refine cc ?_ ?_ <;> intro hcond) | refine rb ?_ | refine nd ?_ | refine dk ?_ | fail)
  refine WP.loop (ι := Nat × Nat) (fun q => ⟨[(0, .osl 1000), (1, .fv (.int .i64 a)), (2, .fv (.int .i64 ((a : Int) + 1))), (3, .fv (.int .i64 b)), (4, .fn 133 []), (10, .fv (.int .i64 q.1)), (11, .fv (.int .i64 q.2))], [(1000, .row 38 9 l.length ((l.flatMap encAc).map .fv))]⟩) (fun q => a + 1 ≤ q.1 ∧ q.1 ≤ q.2 ∧ q.2 ≤ b ∧ (∀ k y, a + 1 ≤ k → k < q.1 → l[k]? = some y → cmpA y x < 0) ∧ (∀ k y, q.2 ≤ k → k < b → l[k]? = some y → ¬ cmpA y x < 0)) (fun q => q.2 - q.1) (a + 1, b) ⟨by dsimp only; omega, by dsimp only; omega, by dsimp only; omega, fun k y h1 h2 => by dsimp only at h2; omega, fun k y h1 h2 => by dsimp only at h1; omega⟩ ?_ ?_
  · try dsimp only
    rw [show ((a + 1 : Nat) : Int) = (a : Int) + 1 by omega]
    exact tq [] []
  rintro ⟨i, j⟩ ⟨g1, g2, g3, g4, g5⟩
  try dsimp only at g1 g2 g3 g4 g5
  try dsimp only
  by_cases hij : i < j
  case pos =>
    obtain ⟨y, hy⟩ : ∃ y, l[(i + j) / 2]? = some y := ⟨_, List.getElem?_eq_getElem (by omega)⟩
    have hc := cmpA_T y x (hr y (List.mem_of_getElem? hy)) hxr
    have hcy : cmpA y x = x.prio - y.prio := rfl
    by_cases hlt : cmpA y x < 0
    · have g4' : ∀ k z, a + 1 ≤ k → k < (i + j) / 2 + 1 → l[k]? = some z → cmpA z x < 0 := fun k z k1 k2 hz => by
        have h3 := ord_at ho k1 (show k ≤ (i + j) / 2 by omega) (by omega) hz hy
        unfold cmpA at hlt ⊢
        omega
      generalize cmpA y x = o at *
      repeat' (first | (apply X.loE; (· exact aR); (· first | (exact .eff (.loadO rfl rfl (readAl (i := (i + j) / 2) (by omega) hy))) | (exact .eff (.loadO rfl rfl (readAl (i := a) (by omega) hx))) | (exact .eff (.toU rfl rfl rfl (by omega) (by omega))) | (exact .eff (.toI rfl rfl rfl (by omega) (by omega))) | (exact .eff (.half rfl rfl)) | exact .callL rfl rfl rfl (hc) rfl | exact bl (hc))) | refine X.loc ?_ | refine nx ?_ | refine X.cdT ?_ | refine X.cdF ?_ | refine cb ?_ ?_ | (refine cc ?_ ?_ <;> intro hcond) | (apply X.gsE; (· exact aR); (· exact aV); (· exact aW); (· intro hc; first | (exact .eff (.loadO rfl rfl (readAl (i := (i + j) / 2) (by omega) hy))) | (exact .eff (.loadO rfl rfl (readAl (i := a) (by omega) hx))) | (exact .eff (.toU rfl rfl rfl (by omega) (by omega))) | (exact .eff (.toI rfl rfl rfl (by omega) (by omega))) | (exact .eff (.half rfl rfl)) | exact .callG rfl rfl rfl (hc) rfl | exact bg (hc)); (· exact aR)) | refine rb ?_ | refine nd ?_ | refine dk ?_ | fail)
      refine ⟨((i + j) / 2 + 1, j), ⟨by dsimp only; omega, by dsimp only; omega, g3, g4', g5⟩, by dsimp only; omega, ?_⟩
      try dsimp only
      rw [show (((i + j) / 2 + 1 : Nat) : Int) = ((i : Int) + (j : Int)) / 2 + 1 by omega]
      exact tq [] []
    · have g5' : ∀ k z, (i + j) / 2 ≤ k → k < b → l[k]? = some z → ¬ cmpA z x < 0 := fun k z k1 k2 hz => by
        have h3 := ord_at ho (show a + 1 ≤ (i + j) / 2 by omega) k1 k2 hy hz
        unfold cmpA at hlt ⊢
        omega
      generalize cmpA y x = o at *
      repeat' (first | (apply X.loE; (· exact aR); (· first | (exact .eff (.loadO rfl rfl (readAl (i := (i + j) / 2) (by omega) hy))) | (exact .eff (.loadO rfl rfl (readAl (i := a) (by omega) hx))) | (exact .eff (.toU rfl rfl rfl (by omega) (by omega))) | (exact .eff (.toI rfl rfl rfl (by omega) (by omega))) | (exact .eff (.half rfl rfl)) | exact .callL rfl rfl rfl (hc) rfl | exact bl (hc))) | refine X.loc ?_ | refine nx ?_ | refine X.cdT ?_ | refine X.cdF ?_ | refine cb ?_ ?_ | (refine cc ?_ ?_ <;> intro hcond) | (apply X.gsE; (· exact aR); (· exact aV); (· exact aW); (· intro hc; first | (exact .eff (.loadO rfl rfl (readAl (i := (i + j) / 2) (by omega) hy))) | (exact .eff (.loadO rfl rfl (readAl (i := a) (by omega) hx))) | (exact .eff (.toU rfl rfl rfl (by omega) (by omega))) | (exact .eff (.toI rfl rfl rfl (by omega) (by omega))) | (exact .eff (.half rfl rfl)) | exact .callG rfl rfl rfl (hc) rfl | exact bg (hc)); (· exact aR)) | refine rb ?_ | refine nd ?_ | refine dk ?_ | fail)
      refine ⟨(i, (i + j) / 2), ⟨g1, by dsimp only; omega, by dsimp only; omega, g4, g5'⟩, by dsimp only; omega, ?_⟩
      try dsimp only
      rw [show (((i + j) / 2 : Nat) : Int) = ((i : Int) + (j : Int)) / 2 by omega]
      exact tq [] []
  case neg =>
    obtain rfl : i = j := by omega
    have hm := hmg i g1 g3 hb ho g4 g5
    have hml := mvF_len l a
    repeat' (first | refine X.loc ?_ | refine nx ?_ | refine X.cdT ?_ | refine X.cdF ?_ | refine cb ?_ ?_ | (refine cc ?_ ?_ <;> intro hcond) | refine rb ?_ | refine nd ?_ | refine dk ?_ | fail)
    refine WP.loop (ι := Nat) (fun t => ⟨[(0, .osl 1000), (10, .fv (.int .i64 i)), (13, .fv (.int .i64 ((a : Int) + (t : Int))))], [(1000, .row 38 9 (mvF l a t).length (((mvF l a t).flatMap encAc).map .fv))]⟩) (fun t => t ≤ i - (a + 1)) (fun t => i - (a + 1) - t) 0 (by omega) ?_ ?_
    · try dsimp only
      rw [show mvF l a 0 = l from rfl, show (a : Int) + ((0 : Nat) : Int) = (a : Int) by omega]
      exact tq [] []
    rintro t ht
    try dsimp only
    by_cases htl : t < i - (a + 1)
    case neg =>
      obtain rfl : t = i - (a + 1) := by omega
      rw [hm]
      generalize mrgL l a b = R at *
      rw [show ((i - (a + 1) : Nat) : Int) = (i : Int) - ((a : Int) + 1) by omega]
      repeat' (first | refine X.loc ?_ | refine nx ?_ | refine X.cdT ?_ | refine X.cdF ?_ | refine cb ?_ ?_ | (refine cc ?_ ?_ <;> intro hcond) | refine rb ?_ | refine nd ?_ | refine dk ?_ | fail)
      exact rq ⟨[], [(1000, .row 38 9 R.length ((R.flatMap encAc).map .fv))]⟩ (tq [] [])
    case pos =>
      have h1 := hml t
      have hs : mvF l a (t + 1) = swp (mvF l a t) (a + t) (a + t + 1) := rfl
      generalize mvF l a t = R at *
      obtain ⟨u, hu⟩ : ∃ u, R[a + t]? = some u := ⟨_, List.getElem?_eq_getElem (by omega)⟩
      obtain ⟨v, hv⟩ : ∃ v, R[a + t + 1]? = some v := ⟨_, List.getElem?_eq_getElem (by omega)⟩
      rw [swp, hu, hv] at hs
      try dsimp only at hs
      have s1 := setAl (l := R) (i := a + t) (off := ((a : Int) + (t : Int)).toNat * 9) (x := v) (by omega) (by omega)
      have s2 := setAl (l := R.set (a + t) v) (i := a + t + 1) (off := ((a : Int) + (t : Int) + 1).toNat * 9) (x := u) (by omega) (by rw [List.length_set]; omega)
      repeat' (first | (apply X.loE; (· exact aR); (· first | (exact .eff (.loadO rfl rfl (readAl (i := a + t) (by omega) hu))) | (exact .eff (.loadO rfl rfl (readAl (i := a + t + 1) (by omega) hv))))) | refine X.loc ?_ | (apply X.stRE; (· exact aS); (· exact s1); (· exact aE)) | (apply X.stRE; (· exact aS); (· exact s2); (· exact aE)) | refine nx ?_ | refine X.cdT ?_ | refine X.cdF ?_ | refine cb ?_ ?_ | (refine cc ?_ ?_ <;> intro hcond) | (apply X.gsE; (· exact aR); (· exact aV); (· exact aW); (· intro hc; first | (exact .eff (.loadO rfl rfl (readAl (i := a + t) (by omega) hu))) | (exact .eff (.loadO rfl rfl (readAl (i := a + t + 1) (by omega) hv)))); (· exact aR)) | refine rb ?_ | refine nd ?_ | refine dk ?_ | fail)
      refine ⟨t + 1, by omega, by omega, ?_⟩
      try dsimp only
      rw [hs, show (a : Int) + ((t + 1 : Nat) : Int) = (a : Int) + (t : Int) + 1 by omega]
      refine St.to [] [] rfl rfl ?_ ?_ <;> (repeat' (first | exact tA | refine t1 ?_ | exact tB | refine t2 ?_ ?_ | refine t3 ?_ | refine t4 ?_ ?_ | refine .ofEq ?_ | refine OB.To.cut rfl rfl ?_ ?_ ?_ ?_ | refine OB.To.box rfl rfl ?_ | refine ⟨⟨_, rfl, ?_⟩, ?_⟩ | refine ⟨?_, ?_⟩ | fail))
      all_goals first | omega | (simp; done)
theorem mrg_back {l : List Ac} {a m i : Nat} {y : Ac} (hy : l[m]? = some y) (h1 : a ≤ i) (h2 : i ≤ m) (ho : ((l.take m).drop a).Pairwise fun x y => y.prio ≤ x.prio) (p1 : ∀ k x, a ≤ k → k < i → l[k]? = some x → ¬ cmpA y x < 0) (p2 : ∀ k x, i ≤ k → k < m → l[k]? = some x → cmpA y x < 0) : mvB l m (m - i) = mrgL l a (m + 1) := by
  have hlt := (List.getElem?_eq_some_iff.1 hy).1
  have e1 := split3 (l := l) (a := a) (b := i) (c := m) h1 h2
  have hP : (l.take a).length = a := by rw [List.length_take]; omega
  have hA : ((l.take m).drop a).length = m - a := by rw [List.length_drop, List.length_take]; omega
  have hA2 : ((l.take m).drop i).length = m - i := by rw [List.length_drop, List.length_take]; omega
  have e3 : (l.take (m + 1)).drop a = (l.take m).drop a ++ [y] := by
    rw [List.take_add_one, hy, List.drop_append_of_le_length (by rw [List.length_take]; omega)]
    rfl
  have e2 : l = l.take a ++ (l.take m).drop a ++ y :: l.drop (m + 1) := by
    have h3 : l.take m = l.take a ++ (l.take m).drop a := by
      have := List.take_append_drop a (l.take m)
      rw [List.take_take, Nat.min_eq_left (by omega)] at this
      exact this.symm
    have h4 := List.take_append_drop m l
    rw [List.drop_eq_getElem_cons hlt, (List.getElem?_eq_some_iff.1 hy).2] at h4
    rw [← h3]
    exact h4.symm
  have := mvB_sort (P := l.take a) (A1 := (l.take i).drop a) (A2 := (l.take m).drop i) (Q := l.drop (m + 1)) (y := y) (by rw [← e1]; exact ho) (fun x hx => by
    obtain ⟨k, k1, k2, k3⟩ := seg_mem hx
    exact p1 k x k1 k2 k3) (fun x hx => by
    obtain ⟨k, k1, k2, k3⟩ := seg_mem hx
    exact p2 k x k1 k2 k3)
  rw [← e1, ← e2, hP, hA, hA2, show a + (m - a) = m by omega] at this
  rw [this, mrgL, e3]
set_option maxHeartbeats 8000000 in
theorem symMerge2_T (l : List Ac) (a m : Nat) (hr : ∀ x ∈ l, AcR x) (ha : a + 1 < m) (hb : m + 1 ≤ l.length) (hl : l.length ≤ 40) (ho : ((l.take m).drop a).Pairwise fun x y => y.prio ≤ x.prio) : FunO Tryz.prog 172 [.osl 1000, .fv (.int .i64 a), .fv (.int .i64 m), .fv (.int .i64 (m + 1 : Nat)), .fn 133 []] [(1000, acRw l)] (.tup []) [(1000, acRw (mrgL l a (m + 1)))] := by
  refine FunO.bodyL tbl_ok Tryz.func172 rfl (by kernel_rfl) rfl rfl rfl ?_
  unfold acRw
  rw [show ((m + 1 : Nat) : Int) = (m : Int) + 1 by omega]
  obtain ⟨y, hy⟩ : ∃ y, l[m]? = some y := ⟨_, List.getElem?_eq_getElem (by omega)⟩
  have hyr := hr y (List.mem_of_getElem? hy)
  have hmg := fun i => @mrg_back l a m i y hy
  repeat' (first | refine X.loc ?_ | refine nx ?_ | refine X.cdT ?_ | refine X.cdF ?_ | refine cb ?_ ?_ | (refine cc ?_ ?_ <;> intro hcond) | refine rb ?_ | refine nd ?_ | refine dk ?_ | fail)
  refine WP.loop (ι := Nat × Nat) (fun q => ⟨[(0, .osl 1000), (1, .fv (.int .i64 a)), (2, .fv (.int .i64 m)), (3, .fv (.int .i64 ((m : Int) + 1))), (4, .fn 133 []), (14, .fv (.int .i64 q.1)), (15, .fv (.int .i64 q.2))], [(1000, .row 38 9 l.length ((l.flatMap encAc).map .fv))]⟩) (fun q => a ≤ q.1 ∧ q.1 ≤ q.2 ∧ q.2 ≤ m ∧ (∀ k x, a ≤ k → k < q.1 → l[k]? = some x → ¬ cmpA y x < 0) ∧ (∀ k x, q.2 ≤ k → k < m → l[k]? = some x → cmpA y x < 0)) (fun q => q.2 - q.1) (a, m) ⟨by dsimp only; omega, by dsimp only; omega, by dsimp only; omega, fun k y h1 h2 => by dsimp only at h2; omega, fun k y h1 h2 => by dsimp only at h1; omega⟩ ?_ ?_
  · try dsimp only
    exact tq [] []
  rintro ⟨i, j⟩ ⟨g1, g2, g3, g4, g5⟩
  try dsimp only at g1 g2 g3 g4 g5
  try dsimp only
  by_cases hij : i < j
  case pos =>
    obtain ⟨x, hx⟩ : ∃ x, l[(i + j) / 2]? = some x := ⟨_, List.getElem?_eq_getElem (by omega)⟩
    have hc := cmpA_T y x hyr (hr x (List.mem_of_getElem? hx))
    by_cases hlt : cmpA y x < 0
    · have g5' : ∀ k z, (i + j) / 2 ≤ k → k < m → l[k]? = some z → cmpA y z < 0 := fun k z k1 k2 hz => by
        have h3 := ord_at ho (show a ≤ (i + j) / 2 by omega) k1 k2 hx hz
        unfold cmpA at hlt ⊢
        omega
      generalize cmpA y x = o at *
      repeat' (first | (apply X.loE; (· exact aR); (· first | (exact .eff (.loadO rfl rfl (readAl (i := (i + j) / 2) (by omega) hx))) | (exact .eff (.loadO rfl rfl (readAl (i := m) (by omega) hy))) | (exact .eff (.toU rfl rfl rfl (by omega) (by omega))) | (exact .eff (.toI rfl rfl rfl (by omega) (by omega))) | (exact .eff (.half rfl rfl)) | exact .callL rfl rfl rfl (hc) rfl | exact bl (hc))) | refine X.loc ?_ | refine nx ?_ | refine X.cdT ?_ | refine X.cdF ?_ | refine cb ?_ ?_ | (refine cc ?_ ?_ <;> intro hcond) | (apply X.gsE; (· exact aR); (· exact aV); (· exact aW); (· intro hc; first | (exact .eff (.loadO rfl rfl (readAl (i := (i + j) / 2) (by omega) hx))) | (exact .eff (.loadO rfl rfl (readAl (i := m) (by omega) hy))) | (exact .eff (.toU rfl rfl rfl (by omega) (by omega))) | (exact .eff (.toI rfl rfl rfl (by omega) (by omega))) | (exact .eff (.half rfl rfl)) | exact .callG rfl rfl rfl (hc) rfl | exact bg (hc)); (· exact aR)) | refine rb ?_ | refine nd ?_ | refine dk ?_ | fail)
      all_goals try (exfalso; simp at hcond; omega)
      refine ⟨(i, (i + j) / 2), ⟨g1, by dsimp only; omega, by dsimp only; omega, g4, g5'⟩, by dsimp only; omega, ?_⟩
      try dsimp only
      rw [show (((i + j) / 2 : Nat) : Int) = ((i : Int) + (j : Int)) / 2 by omega]
      exact tq [] []
    · have g4' : ∀ k z, a ≤ k → k < (i + j) / 2 + 1 → l[k]? = some z → ¬ cmpA y z < 0 := fun k z k1 k2 hz => by
        have h3 := ord_at ho k1 (show k ≤ (i + j) / 2 by omega) (by omega) hz hx
        unfold cmpA at hlt ⊢
        omega
      generalize cmpA y x = o at *
      repeat' (first | (apply X.loE; (· exact aR); (· first | (exact .eff (.loadO rfl rfl (readAl (i := (i + j) / 2) (by omega) hx))) | (exact .eff (.loadO rfl rfl (readAl (i := m) (by omega) hy))) | (exact .eff (.toU rfl rfl rfl (by omega) (by omega))) | (exact .eff (.toI rfl rfl rfl (by omega) (by omega))) | (exact .eff (.half rfl rfl)) | exact .callL rfl rfl rfl (hc) rfl | exact bl (hc))) | refine X.loc ?_ | refine nx ?_ | refine X.cdT ?_ | refine X.cdF ?_ | refine cb ?_ ?_ | (refine cc ?_ ?_ <;> intro hcond) | (apply X.gsE; (· exact aR); (· exact aV); (· exact aW); (· intro hc; first | (exact .eff (.loadO rfl rfl (readAl (i := (i + j) / 2) (by omega) hx))) | (exact .eff (.loadO rfl rfl (readAl (i := m) (by omega) hy))) | (exact .eff (.toU rfl rfl rfl (by omega) (by omega))) | (exact .eff (.toI rfl rfl rfl (by omega) (by omega))) | (exact .eff (.half rfl rfl)) | exact .callG rfl rfl rfl (hc) rfl | exact bg (hc)); (· exact aR)) | refine rb ?_ | refine nd ?_ | refine dk ?_ | fail)
      all_goals try (exfalso; simp at hcond; omega)
      refine ⟨((i + j) / 2 + 1, j), ⟨by dsimp only; omega, by dsimp only; omega, g3, g4', g5⟩, by dsimp only; omega, ?_⟩
      try dsimp only
      rw [show (((i + j) / 2 + 1 : Nat) : Int) = ((i : Int) + (j : Int)) / 2 + 1 by omega]
      exact tq [] []
  case neg =>
    obtain rfl : i = j := by omega
    have hm := hmg i g1 g3 ho g4 g5
    have hml := mvB_len l m
    repeat' (first | refine X.loc ?_ | refine nx ?_ | refine X.cdT ?_ | refine X.cdF ?_ | refine cb ?_ ?_ | (refine cc ?_ ?_ <;> intro hcond) | refine rb ?_ | refine nd ?_ | refine dk ?_ | fail)
    refine WP.loop (ι := Nat) (fun t => ⟨[(0, .osl 1000), (14, .fv (.int .i64 i)), (17, .fv (.int .i64 ((m : Int) - (t : Int))))], [(1000, .row 38 9 (mvB l m t).length (((mvB l m t).flatMap encAc).map .fv))]⟩) (fun t => t ≤ m - i) (fun t => m - i - t) 0 (by omega) ?_ ?_
    · try dsimp only
      rw [show mvB l m 0 = l from rfl, show (m : Int) - ((0 : Nat) : Int) = (m : Int) by omega]
      exact tq [] []
    rintro t ht
    try dsimp only
    by_cases htl : t < m - i
    case neg =>
      obtain rfl : t = m - i := by omega
      rw [hm]
      generalize mrgL l a (m + 1) = R at *
      rw [show ((m - i : Nat) : Int) = (m : Int) - (i : Int) by omega]
      repeat' (first | refine X.loc ?_ | refine nx ?_ | refine X.cdT ?_ | refine X.cdF ?_ | refine cb ?_ ?_ | (refine cc ?_ ?_ <;> intro hcond) | refine rb ?_ | refine nd ?_ | refine dk ?_ | fail)
      exact rq ⟨[], [(1000, .row 38 9 R.length ((R.flatMap encAc).map .fv))]⟩ (tq [] [])
    case pos =>
      have h1 := hml t
      have hs : mvB l m (t + 1) = swp (mvB l m t) (m - t) (m - t - 1) := rfl
      generalize mvB l m t = R at *
      obtain ⟨u, hu⟩ : ∃ u, R[m - t]? = some u := ⟨_, List.getElem?_eq_getElem (by omega)⟩
      obtain ⟨v, hv⟩ : ∃ v, R[m - t - 1]? = some v := ⟨_, List.getElem?_eq_getElem (by omega)⟩
      rw [swp, hu, hv] at hs
      try dsimp only at hs
      have s1 := setAl (l := R) (i := m - t) (off := ((m : Int) - (t : Int)).toNat * 9) (x := v) (by omega) (by omega)
      have s2 := setAl (l := R.set (m - t) v) (i := m - t - 1) (off := ((m : Int) - (t : Int) - 1).toNat * 9) (x := u) (by omega) (by rw [List.length_set]; omega)
      repeat' (first | (apply X.loE; (· exact aR); (· first | (exact .eff (.loadO rfl rfl (readAl (i := m - t) (by omega) hu))) | (exact .eff (.loadO rfl rfl (readAl (i := m - t - 1) (by omega) hv))))) | refine X.loc ?_ | (apply X.stRE; (· exact aS); (· exact s1); (· exact aE)) | (apply X.stRE; (· exact aS); (· exact s2); (· exact aE)) | refine nx ?_ | refine X.cdT ?_ | refine X.cdF ?_ | refine cb ?_ ?_ | (refine cc ?_ ?_ <;> intro hcond) | (apply X.gsE; (· exact aR); (· exact aV); (· exact aW); (· intro hc; first | (exact .eff (.loadO rfl rfl (readAl (i := m - t) (by omega) hu))) | (exact .eff (.loadO rfl rfl (readAl (i := m - t - 1) (by omega) hv)))); (· exact aR)) | refine rb ?_ | refine nd ?_ | refine dk ?_ | fail)
      refine ⟨t + 1, by omega, by omega, ?_⟩
      try dsimp only
      rw [hs, show (m : Int) - ((t + 1 : Nat) : Int) = (m : Int) - (t : Int) - 1 by omega]
      refine St.to [] [] rfl rfl ?_ ?_ <;> (repeat' (first | exact tA | refine t1 ?_ | exact tB | refine t2 ?_ ?_ | refine t3 ?_ | refine t4 ?_ ?_ | refine .ofEq ?_ | refine OB.To.cut rfl rfl ?_ ?_ ?_ ?_ | refine OB.To.box rfl rfl ?_ | refine ⟨⟨_, rfl, ?_⟩, ?_⟩ | refine ⟨?_, ?_⟩ | fail))
      all_goals first | omega | (simp; done)
theorem mrgL_app (P S Q : List Ac) : mrgL (P ++ S ++ Q) P.length (P.length + S.length) = P ++ sortA S ++ Q := by
  have e1 : (P ++ S ++ Q).take P.length = P := by rw [List.append_assoc, List.take_left]
  have e2 : (P ++ S ++ Q).take (P.length + S.length) = P ++ S := by rw [← List.length_append, List.take_left]
  have e3 : (P ++ S ++ Q).drop (P.length + S.length) = Q := by rw [← List.length_append, List.drop_left]
  rw [mrgL, e1, e2, e3, List.drop_left]
theorem part3 (l : List Ac) {a b : Nat} (h1 : a ≤ b) (h2 : b ≤ l.length) : l = l.take a ++ (l.take b).drop a ++ l.drop b := by
  have h3 : l.take b = l.take a ++ (l.take b).drop a := by
    have := List.take_append_drop a (l.take b)
    rw [List.take_take, Nat.min_eq_left h1] at this
    exact this.symm
  have h4 := List.take_append_drop b l
  rw [h3] at h4
  exact h4.symm
theorem seg_len (l : List Ac) {a b : Nat} (h1 : a ≤ b) (h2 : b ≤ l.length) : ((l.take b).drop a).length = b - a := by rw [List.length_drop, List.length_take]; omega
theorem sym_split {P A1 A2 B1 B2 Q : List Ac} (h1 : ∀ x ∈ A1, ∀ y ∈ B2, y.prio ≤ x.prio) (h2 : ∀ x ∈ A1, ∀ y ∈ A2, y.prio ≤ x.prio) (h3 : ∀ x ∈ B1, ∀ y ∈ A2, y.prio < x.prio) (h4 : ∀ x ∈ B1, ∀ y ∈ B2, y.prio ≤ x.prio) {a d b : Nat} (ha : a = P.length) (hd : d = a + (A1.length + B1.length)) (hb : b = d + (A2.length + B2.length)) :
    mrgL (mrgL (P ++ A1 ++ B1 ++ A2 ++ B2 ++ Q) a d) d b = mrgL (P ++ A1 ++ A2 ++ B1 ++ B2 ++ Q) a b := by
  subst ha hd hb
  have hl : ∀ S : List Ac, (sortA S).length = S.length := fun S => (List.mergeSort_perm S geA).length_eq
  have s1 := mrgL_app P (A1 ++ B1) (A2 ++ B2 ++ Q)
  have s2 := mrgL_app (P ++ sortA (A1 ++ B1)) (A2 ++ B2) Q
  have s3 := mrgL_app P (A1 ++ A2 ++ (B1 ++ B2)) Q
  rw [← sortA_split h1 h2 h3 h4] at s3
  have l3 : P.length + (A1 ++ A2 ++ (B1 ++ B2)).length = P.length + (A1.length + B1.length) + (A2.length + B2.length) := by
    simp only [List.length_append]
    omega
  have l2 : (P ++ sortA (A1 ++ B1)).length = P.length + (A1.length + B1.length) := by rw [List.length_append, hl, List.length_append]
  rw [l3] at s3
  rw [l2] at s2
  simp only [List.length_append] at s1 s2
  simp only [List.append_assoc] at s1 s2 s3 ⊢
  rw [s1, s2, s3]
def turned (l : List Ac) (s m e : Nat) : List Ac := if s < m ∧ m < e then rotL l m (m - s) (e - m) else l
theorem parts5 (l : List Ac) {a s m e b : Nat} (h1 : a ≤ s) (h2 : s ≤ m) (h3 : m ≤ e) (h4 : e ≤ b) (h5 : b ≤ l.length) :
    l = l.take a ++ (l.take s).drop a ++ (l.take m).drop s ++ (l.take e).drop m ++ (l.take b).drop e ++ l.drop b := by
  have p1 := part3 l (a := a) (b := b) (by omega) h5
  have p2 := split3 (l := l) (a := a) (b := s) (c := b) h1 (by omega)
  have p3 := split3 (l := l) (a := s) (b := m) (c := b) h2 (by omega)
  have p4 := split3 (l := l) (a := m) (b := e) (c := b) h3 h4
  rw [p2, p3, p4] at p1
  simpa only [List.append_assoc] using p1
theorem turned_is (l : List Ac) {a s m e b : Nat} (h1 : a ≤ s) (h2 : s ≤ m) (h3 : m ≤ e) (h4 : e ≤ b) (h5 : b ≤ l.length) :
    turned l s m e = l.take a ++ (l.take s).drop a ++ (l.take e).drop m ++ (l.take m).drop s ++ (l.take b).drop e ++ l.drop b := by
  have hp := parts5 l h1 h2 h3 h4 h5
  have hP : (l.take a).length = a := by rw [List.length_take]; omega
  have l1 := seg_len l h1 (show s ≤ l.length by omega)
  have l2 := seg_len l h2 (show m ≤ l.length by omega)
  have l3 := seg_len l h3 (show e ≤ l.length by omega)
  generalize l.take a = P at *
  generalize (l.take s).drop a = A1 at *
  generalize (l.take m).drop s = A2 at *
  generalize (l.take e).drop m = B1 at *
  generalize (l.take b).drop e = B2 at *
  generalize l.drop b = Q at *
  unfold turned
  by_cases h : s < m ∧ m < e
  · rw [if_pos h]
    have hr := rotL_is _ (P ++ A1) A2 B1 (B2 ++ Q) rfl (by omega) (by omega)
    rw [List.length_append, l2, l3, show P.length + A1.length + (m - s) = m by omega] at hr
    rw [hp]
    simp only [List.append_assoc] at hr ⊢
    exact hr
  · rw [if_neg h]
    have : A2 = [] ∨ B1 = [] := by
      rcases Nat.lt_or_ge s m with h6 | h6
      · right
        exact List.eq_nil_of_length_eq_zero (by omega)
      · left
        exact List.eq_nil_of_length_eq_zero (by omega)
    rw [hp]
    rcases this with rfl | rfl <;> simp
theorem sym_end {l : List Ac} {a s m e b d : Nat} (h1 : a ≤ s) (h2 : s ≤ m) (h3 : m ≤ e) (h4 : e ≤ b) (h5 : b ≤ l.length) (hd : d + m = s + e) (oA : ((l.take m).drop a).Pairwise fun x y => y.prio ≤ x.prio) (oB : ((l.take b).drop m).Pairwise fun x y => y.prio ≤ x.prio)
    (c1 : s = a ∨ e = b ∨ ∃ x y, l[s - 1]? = some x ∧ l[e]? = some y ∧ ¬ cmpA y x < 0) (c2 : s = m ∨ e = m ∨ ∃ x y, l[s]? = some x ∧ l[e - 1]? = some y ∧ cmpA y x < 0) :
    mrgL (mrgL (turned l s m e) a d) d b = mrgL l a b := by
  have hp := parts5 l h1 h2 h3 h4 h5
  have ht := turned_is l h1 h2 h3 h4 h5
  have hP : (l.take a).length = a := by rw [List.length_take]; omega
  have l1 := seg_len l h1 (show s ≤ l.length by omega)
  have l2 := seg_len l h2 (show m ≤ l.length by omega)
  have l3 := seg_len l h3 (show e ≤ l.length by omega)
  have l4 := seg_len l h4 h5
  have hs := sym_split (P := l.take a) (A1 := (l.take s).drop a) (A2 := (l.take m).drop s) (B1 := (l.take e).drop m) (B2 := (l.take b).drop e) (Q := l.drop b) (a := a) (d := d) (b := b)
    (fun x hx y hy => by
      obtain ⟨i, i1, i2, i3⟩ := seg_mem hx
      obtain ⟨j, j1, j2, j3⟩ := seg_mem hy
      rcases c1 with c | c | ⟨u, v, hu, hv, huv⟩
      · omega
      · omega
      · have g1 := ord_at oA i1 (show i ≤ s - 1 by omega) (by omega) i3 hu
        have g2 := ord_at oB (show m ≤ e by omega) j1 j2 hv j3
        unfold cmpA at huv
        omega)
    (fun x hx y hy => by
      obtain ⟨i, i1, i2, i3⟩ := seg_mem hx
      obtain ⟨j, j1, j2, j3⟩ := seg_mem hy
      exact ord_at oA i1 (by omega) j2 i3 j3)
    (fun x hx y hy => by
      obtain ⟨i, i1, i2, i3⟩ := seg_mem hx
      obtain ⟨j, j1, j2, j3⟩ := seg_mem hy
      rcases c2 with c | c | ⟨u, v, hu, hv, huv⟩
      · omega
      · omega
      · have g1 := ord_at oB i1 (show i ≤ e - 1 by omega) (by omega) i3 hv
        have g2 := ord_at oA h1 j1 j2 hu j3
        unfold cmpA at huv
        omega)
    (fun x hx y hy => by
      obtain ⟨i, i1, i2, i3⟩ := seg_mem hx
      obtain ⟨j, j1, j2, j3⟩ := seg_mem hy
      exact ord_at oB i1 (by omega) j2 i3 j3) hP.symm (by omega) (by omega)
  rw [← hp, ← ht] at hs
  exact hs
theorem seg_app (P S Q : List Ac) {a b : Nat} (ha : a = P.length) (hb : b = a + S.length) : ((P ++ S ++ Q).take b).drop a = S := by
  subst ha hb
  rw [← List.length_append, List.take_left, List.drop_left]
theorem mrgL_id {l : List Ac} {a b : Nat} (h1 : a ≤ b) (h2 : b ≤ l.length) (h : ((l.take b).drop a).Pairwise fun x y => y.prio ≤ x.prio) : mrgL l a b = l := by
  rw [mrgL, sortA_id h]
  exact (part3 l h1 h2).symm
theorem mrgL_len {l : List Ac} {a b : Nat} (h1 : a ≤ b) (h2 : b ≤ l.length) : (mrgL l a b).length = l.length := by
  have hl := (List.mergeSort_perm ((l.take b).drop a) geA).length_eq
  have h3 := seg_len l h1 h2
  unfold mrgL sortA
  simp only [List.length_append, List.length_take, List.length_drop] at *
  omega
theorem mrgL_mem {l : List Ac} {a b : Nat} {x : Ac} (h : x ∈ mrgL l a b) : x ∈ l := by
  unfold mrgL at h
  rcases List.mem_append.1 h with h | h
  · rcases List.mem_append.1 h with h | h
    · exact List.mem_of_mem_take h
    · exact List.mem_of_mem_take (List.mem_of_mem_drop ((sortA_stab _).mem.1 h))
  · exact List.mem_of_mem_drop h
theorem mrgL_seg {l : List Ac} {a d p q : Nat} (h1 : a ≤ d) (h2 : d ≤ l.length) (h3 : d ≤ p) (h4 : p ≤ q) (h5 : q ≤ l.length) : ((mrgL l a d).take q).drop p = (l.take q).drop p := by
  have hlen := mrgL_len h1 h2
  apply List.ext_getElem?
  intro i
  rw [List.getElem?_drop, List.getElem?_drop]
  by_cases hi : p + i < q
  · rw [List.getElem?_take_of_lt hi, List.getElem?_take_of_lt hi]
    have hA : (l.take a ++ sortA ((l.take d).drop a)).length = d := by
      have hl := (List.mergeSort_perm ((l.take d).drop a) geA).length_eq
      have h3 := seg_len l h1 h2
      unfold sortA
      rw [List.length_append, hl, h3, List.length_take]
      omega
    rw [mrgL, List.getElem?_append_right (by omega), hA, List.getElem?_drop, show d + (p + i - d) = p + i by omega]
  · rw [List.getElem?_eq_none (by rw [List.length_take]; omega), List.getElem?_eq_none (by rw [List.length_take]; omega)]
theorem turned_seg (l : List Ac) {a s m e b d : Nat} (h1 : a ≤ s) (h2 : s ≤ m) (h3 : m ≤ e) (h4 : e ≤ b) (h5 : b ≤ l.length) (hd : d + m = s + e) :
    (turned l s m e).length = l.length ∧ ((turned l s m e).take s).drop a = (l.take s).drop a ∧ ((turned l s m e).take d).drop s = (l.take e).drop m ∧ ((turned l s m e).take e).drop d = (l.take m).drop s ∧ ((turned l s m e).take b).drop e = (l.take b).drop e ∧ ∀ x, x ∈ turned l s m e → x ∈ l := by
  have hp := parts5 l h1 h2 h3 h4 h5
  have ht := turned_is l h1 h2 h3 h4 h5
  have hP : (l.take a).length = a := by rw [List.length_take]; omega
  have l1 := seg_len l h1 (show s ≤ l.length by omega)
  have l2 := seg_len l h2 (show m ≤ l.length by omega)
  have l3 := seg_len l h3 (show e ≤ l.length by omega)
  have l4 := seg_len l h4 h5
  have l5 : (l.drop b).length = l.length - b := List.length_drop
  generalize l.take a = P at *
  generalize (l.take s).drop a = A1 at *
  generalize (l.take m).drop s = A2 at *
  generalize (l.take e).drop m = B1 at *
  generalize (l.take b).drop e = B2 at *
  generalize l.drop b = Q at *
  rw [ht]
  refine ⟨?_, ?_, ?_, ?_, ?_, fun x hx => ?_⟩
  · rw [hp]; simp only [List.length_append]; omega
  · have := seg_app P A1 (B1 ++ A2 ++ B2 ++ Q) (a := a) (b := s) hP.symm (by omega)
    simpa only [List.append_assoc] using this
  · have := seg_app (P ++ A1) B1 (A2 ++ B2 ++ Q) (a := s) (b := d) (by rw [List.length_append]; omega) (by omega)
    simpa only [List.append_assoc] using this
  · have := seg_app (P ++ A1 ++ B1) A2 (B2 ++ Q) (a := d) (b := e) (by simp only [List.length_append]; omega) (by omega)
    simpa only [List.append_assoc] using this
  · have := seg_app (P ++ A1 ++ B1 ++ A2) B2 Q (a := e) (b := b) (by simp only [List.length_append]; omega) (by omega)
    simpa only [List.append_assoc] using this
  · rw [hp]
    simp only [List.mem_append] at hx ⊢
    rcases hx with ((((hx | hx) | hx) | hx) | hx) | hx <;> simp [hx]
set_option maxHeartbeats 8000000 in
theorem symMerge_T : ∀ (n : Nat) (l : List Ac) (a m b : Nat), b - a = n → (∀ x ∈ l, AcR x) → a < m → m < b → b ≤ l.length → l.length ≤ 40 → ((l.take m).drop a).Pairwise (fun x y => y.prio ≤ x.prio) → ((l.take b).drop m).Pairwise (fun x y => y.prio ≤ x.prio) →
    FunO Tryz.prog 172 [.osl 1000, .fv (.int .i64 a), .fv (.int .i64 m), .fv (.int .i64 b), .fn 133 []] [(1000, acRw l)] (.tup []) [(1000, acRw (mrgL l a b))] := by
  intro n
  induction n using Nat.strongRecOn with
  | _ n ih =>
    intro l a m b hn hr ham hmb hb hl oA oB
    by_cases k1 : m = a + 1
    · subst k1
      exact symMerge1_T l a b hr hmb hb hl oB
    by_cases k2 : b = m + 1
    · subst k2
      exact symMerge2_T l a m hr (by omega) hb hl oA
    obtain ⟨d, hd⟩ : ∃ d : Nat, d = (a + b) / 2 := ⟨_, rfl⟩
    have hdI : ((a : Int) + (b : Int)) / 2 = (d : Int) := by omega
    refine FunO.bodyL tbl_ok Tryz.func172 rfl (by kernel_rfl) rfl rfl rfl ?_
    unfold acRw
    repeat' (first | with_reducible refine WP.hold 140 ?_ | (apply X.loE; (· exact aR); (· first | (exact .eff (.toU rfl rfl rfl (by omega) (by omega))) | (exact .eff (.toI rfl rfl rfl (by omega) (by omega))) | (exact .eff (.half rfl rfl)))) | refine X.loc ?_ | refine nx ?_ | refine X.cdT ?_ | refine X.cdF ?_ | refine cb ?_ ?_ | (refine cc ?_ ?_ <;> intro hcond) | (apply X.gsE; (· exact aR); (· exact aV); (· exact aW); (· intro hc; first | (exact .eff (.toU rfl rfl rfl (by omega) (by omega))) | (exact .eff (.toI rfl rfl rfl (by omega) (by omega))) | (exact .eff (.half rfl rfl))); (· exact aR)) | refine rb ?_ | refine nd ?_ | refine dk ?_ | fail)
    all_goals (try apply Held.mk)
    refine WP.join (ι := Nat × Nat) (fun q => ⟨[(0, .osl 1000), (1, .fv (.int .i64 a)), (2, .fv (.int .i64 m)), (3, .fv (.int .i64 b)), (4, .fn 133 []), (18, .fv (.int .i64 d)), (19, .fv (.int .i64 ((d : Int) + (m : Int)))), (20, .fv (.int .i64 q.1)), (21, .fv (.int .i64 q.2))], [(1000, .row 38 9 l.length ((l.flatMap encAc).map .fv))]⟩) (fun q => (q.1 = a ∧ q.2 = m ∧ m ≤ d) ∨ (q.1 + b = d + m ∧ q.2 = d ∧ d < m)) ?_ ?_
    · by_cases hdm : d < m
      · skip
        repeat' (first | refine X.loc ?_ | refine nx ?_ | refine X.cdT ?_ | refine X.cdF ?_ | refine cb ?_ ?_ | (refine cc ?_ ?_ <;> intro hcond) | refine rb ?_ | refine nd ?_ | refine dk ?_ | fail)
        refine ⟨(d + m - b, d), .inr ⟨by dsimp only; omega, rfl, hdm⟩, ?_⟩
        try dsimp only
        rw [show ((d + m - b : Nat) : Int) = (d : Int) + (m : Int) - (b : Int) by omega, hdI]
        exact tq [] []
      · skip
        repeat' (first | refine X.loc ?_ | refine nx ?_ | refine X.cdT ?_ | refine X.cdF ?_ | refine cb ?_ ?_ | (refine cc ?_ ?_ <;> intro hcond) | refine rb ?_ | refine nd ?_ | refine dk ?_ | fail)
        refine ⟨(a, m), .inl ⟨rfl, rfl, by omega⟩, ?_⟩
        try dsimp only
        rw [hdI]
        exact tq [] []
    · rintro ⟨lo, hi⟩ hq
      try dsimp only at hq
      try dsimp only
      repeat' (first | refine X.loc ?_ | refine nx ?_ | refine X.cdT ?_ | refine X.cdF ?_ | refine cb ?_ ?_ | (refine cc ?_ ?_ <;> intro hcond) | refine rb ?_ | refine nd ?_ | refine dk ?_ | fail)
      refine WP.loop (ι := Nat × Nat) (fun q => ⟨[(0, .osl 1000), (1, .fv (.int .i64 a)), (2, .fv (.int .i64 m)), (3, .fv (.int .i64 b)), (4, .fn 133 []), (18, .fv (.int .i64 d)), (19, .fv (.int .i64 ((d : Int) + (m : Int)))), (22, .fv (.int .i64 ((d : Int) + (m : Int) - 1))), (20, .fv (.int .i64 q.1)), (21, .fv (.int .i64 q.2))], [(1000, .row 38 9 l.length ((l.flatMap encAc).map .fv))]⟩) (fun q => lo ≤ q.1 ∧ q.1 ≤ q.2 ∧ q.2 ≤ hi ∧ (∀ k x y, lo ≤ k → k < q.1 → l[k]? = some x → l[d + m - 1 - k]? = some y → ¬ cmpA y x < 0) ∧ (∀ k x y, q.2 ≤ k → k < hi → l[k]? = some x → l[d + m - 1 - k]? = some y → cmpA y x < 0)) (fun q => q.2 - q.1) (lo, hi) ⟨by dsimp only; omega, by dsimp only; omega, by dsimp only; omega, fun k x y h1 h2 => by dsimp only at h2; omega, fun k x y h1 h2 => by dsimp only at h1; omega⟩ ?_ ?_
      · try dsimp only
        exact tq [] []
      rintro ⟨i, j⟩ ⟨g1, g2, g3, g4, g5⟩
      try dsimp only at g1 g2 g3 g4 g5
      try dsimp only
      by_cases hij : i < j
      case pos =>
        obtain ⟨x, hx⟩ : ∃ x, l[(i + j) / 2]? = some x := ⟨_, List.getElem?_eq_getElem (by omega)⟩
        obtain ⟨y, hy⟩ : ∃ y, l[d + m - 1 - (i + j) / 2]? = some y := ⟨_, List.getElem?_eq_getElem (by omega)⟩
        have hc := cmpA_T y x (hr y (List.mem_of_getElem? hy)) (hr x (List.mem_of_getElem? hx))
        by_cases hlt : cmpA y x < 0
        · have g5' : ∀ k u v, (i + j) / 2 ≤ k → k < hi → l[k]? = some u → l[d + m - 1 - k]? = some v → cmpA v u < 0 := fun k u v k1 k2 hu hv => by
            have h3 := ord_at oA (show a ≤ (i + j) / 2 by omega) k1 (by omega) hx hu
            have h4 := ord_at oB (show m ≤ d + m - 1 - k by omega) (show d + m - 1 - k ≤ d + m - 1 - (i + j) / 2 by omega) (by omega) hv hy
            unfold cmpA at hlt ⊢
            omega
          generalize cmpA y x = o at *
          repeat' (first | (apply X.loE; (· exact aR); (· first | (exact .eff (.loadO rfl rfl (readAl (i := (i + j) / 2) (by omega) hx))) | (exact .eff (.loadO rfl rfl (readAl (i := d + m - 1 - (i + j) / 2) (by omega) hy))) | (exact .eff (.toU rfl rfl rfl (by omega) (by omega))) | (exact .eff (.toI rfl rfl rfl (by omega) (by omega))) | (exact .eff (.half rfl rfl)) | exact .callL rfl rfl rfl (hc) rfl | exact bl (hc))) | refine X.loc ?_ | refine nx ?_ | refine X.cdT ?_ | refine X.cdF ?_ | refine cb ?_ ?_ | (refine cc ?_ ?_ <;> intro hcond) | (apply X.gsE; (· exact aR); (· exact aV); (· exact aW); (· intro hc; first | (exact .eff (.loadO rfl rfl (readAl (i := (i + j) / 2) (by omega) hx))) | (exact .eff (.loadO rfl rfl (readAl (i := d + m - 1 - (i + j) / 2) (by omega) hy))) | (exact .eff (.toU rfl rfl rfl (by omega) (by omega))) | (exact .eff (.toI rfl rfl rfl (by omega) (by omega))) | (exact .eff (.half rfl rfl)) | exact .callG rfl rfl rfl (hc) rfl | exact bg (hc)); (· exact aR)) | refine rb ?_ | refine nd ?_ | refine dk ?_ | fail)
          all_goals try (exfalso; simp at hcond; omega)
          refine ⟨(i, (i + j) / 2), ⟨g1, by dsimp only; omega, by dsimp only; omega, g4, g5'⟩, by dsimp only; omega, ?_⟩
          try dsimp only
          rw [show (((i + j) / 2 : Nat) : Int) = ((i : Int) + (j : Int)) / 2 by omega]
          exact tq [] []
        · have g4' : ∀ k u v, lo ≤ k → k < (i + j) / 2 + 1 → l[k]? = some u → l[d + m - 1 - k]? = some v → ¬ cmpA v u < 0 := fun k u v k1 k2 hu hv => by
            have h3 := ord_at oA (show a ≤ k by omega) (show k ≤ (i + j) / 2 by omega) (by omega) hu hx
            have h4 := ord_at oB (show m ≤ d + m - 1 - (i + j) / 2 by omega) (show d + m - 1 - (i + j) / 2 ≤ d + m - 1 - k by omega) (by omega) hy hv
            unfold cmpA at hlt ⊢
            omega
          generalize cmpA y x = o at *
          repeat' (first | (apply X.loE; (· exact aR); (· first | (exact .eff (.loadO rfl rfl (readAl (i := (i + j) / 2) (by omega) hx))) | (exact .eff (.loadO rfl rfl (readAl (i := d + m - 1 - (i + j) / 2) (by omega) hy))) | (exact .eff (.toU rfl rfl rfl (by omega) (by omega))) | (exact .eff (.toI rfl rfl rfl (by omega) (by omega))) | (exact .eff (.half rfl rfl)) | exact .callL rfl rfl rfl (hc) rfl | exact bl (hc))) | refine X.loc ?_ | refine nx ?_ | refine X.cdT ?_ | refine X.cdF ?_ | refine cb ?_ ?_ | (refine cc ?_ ?_ <;> intro hcond) | (apply X.gsE; (· exact aR); (· exact aV); (· exact aW); (· intro hc; first | (exact .eff (.loadO rfl rfl (readAl (i := (i + j) / 2) (by omega) hx))) | (exact .eff (.loadO rfl rfl (readAl (i := d + m - 1 - (i + j) / 2) (by omega) hy))) | (exact .eff (.toU rfl rfl rfl (by omega) (by omega))) | (exact .eff (.toI rfl rfl rfl (by omega) (by omega))) | (exact .eff (.half rfl rfl)) | exact .callG rfl rfl rfl (hc) rfl | exact bg (hc)); (· exact aR)) | refine rb ?_ | refine nd ?_ | refine dk ?_ | fail)
          all_goals try (exfalso; simp at hcond; omega)
          refine ⟨((i + j) / 2 + 1, j), ⟨by dsimp only; omega, by dsimp only; omega, g3, g4', g5⟩, by dsimp only; omega, ?_⟩
          try dsimp only
          rw [show (((i + j) / 2 + 1 : Nat) : Int) = ((i : Int) + (j : Int)) / 2 + 1 by omega]
          exact tq [] []
      case neg =>
        obtain rfl : i = j := by omega
        obtain ⟨e, he⟩ : ∃ e : Nat, d + m = i + e := ⟨d + m - i, by omega⟩
        have b1 : a ≤ i := by omega
        have b2 : i ≤ m := by omega
        have b3 : m ≤ e := by omega
        have b4 : e ≤ b := by omega
        have c1 : i = a ∨ e = b ∨ ∃ x y, l[i - 1]? = some x ∧ l[e]? = some y ∧ ¬ cmpA y x < 0 := by
          by_cases hl : i = lo
          · rcases hq with hq | hq
            · exact .inl (by omega)
            · exact .inr (.inl (by omega))
          · by_cases heb : e = b
            · exact .inr (.inl heb)
            · obtain ⟨x, hx⟩ : ∃ x, l[i - 1]? = some x := ⟨_, List.getElem?_eq_getElem (by omega)⟩
              obtain ⟨y, hy⟩ : ∃ y, l[e]? = some y := ⟨_, List.getElem?_eq_getElem (by omega)⟩
              exact .inr (.inr ⟨x, y, hx, hy, g4 (i - 1) x y (by omega) (by omega) hx (by rw [show d + m - 1 - (i - 1) = e by omega]; exact hy)⟩)
        have c2 : i = m ∨ e = m ∨ ∃ x y, l[i]? = some x ∧ l[e - 1]? = some y ∧ cmpA y x < 0 := by
          by_cases hh : i = hi
          · rcases hq with hq | hq
            · exact .inl (by omega)
            · exact .inr (.inl (by omega))
          · by_cases hem : e = m
            · exact .inr (.inl hem)
            · obtain ⟨x, hx⟩ : ∃ x, l[i]? = some x := ⟨_, List.getElem?_eq_getElem (by omega)⟩
              obtain ⟨y, hy⟩ : ∃ y, l[e - 1]? = some y := ⟨_, List.getElem?_eq_getElem (by omega)⟩
              exact .inr (.inr ⟨x, y, hx, hy, g5 i x y (by omega) (by omega) hx (by rw [show d + m - 1 - i = e - 1 by omega]; exact hy)⟩)
        have hend := sym_end b1 b2 b3 b4 hb he oA oB c1 c2
        clear c1 c2 g4 g5
        obtain ⟨t1', t2', t3', t4', t5', t6'⟩ := turned_seg l b1 b2 b3 b4 hb he
        have rt := fun h1 h2 => rotate_T l i m e h1 h2 (by omega) hl
        have htu : turned l i m e = if i < m ∧ m < e then rotL l m (m - i) (e - m) else l := rfl
        unfold acRw at rt
        rw [← hend]
        generalize turned l i m e = T at *
        repeat' (first | with_reducible refine WP.hold 185 ?_ | refine X.loc ?_ | refine nx ?_ | refine X.cdT ?_ | refine X.cdF ?_ | refine cb ?_ ?_ | (refine cc ?_ ?_ <;> intro hcond) | refine rb ?_ | refine nd ?_ | refine dk ?_ | fail)
        all_goals (try apply Held.mk)
        refine WP.join (ι := Unit) (fun _ => ⟨[(0, .osl 1000), (1, .fv (.int .i64 a)), (2, .fv (.int .i64 m)), (3, .fv (.int .i64 b)), (4, .fn 133 []), (18, .fv (.int .i64 d)), (20, .fv (.int .i64 i)), (24, .fv (.int .i64 e))], [(1000, .row 38 9 T.length ((T.flatMap encAc).map .fv))]⟩) (fun _ => True) ?_ ?_
        · have hei : (d : Int) + (m : Int) - (i : Int) = (e : Int) := by omega
          by_cases hrot : i < m ∧ m < e
          · rw [if_pos hrot] at htu
            have u1 := rt hrot.1 hrot.2
            rw [← htu, ← hei] at u1
            repeat' (first | refine X.loc ?_ | refine nx ?_ | refine X.cdT ?_ | refine X.cdF ?_ | refine cb ?_ ?_ | (refine cc ?_ ?_ <;> intro hcond) | refine rb ?_ | refine X.c0 (u1) ?_ | refine nd ?_ | refine dk ?_ | fail)
            refine ⟨(), trivial, ?_⟩
            try dsimp only
            rw [← hei]
            exact tq [] []
          · rw [if_neg hrot] at htu
            subst htu
            repeat' (first | refine X.loc ?_ | refine nx ?_ | refine X.cdT ?_ | refine X.cdF ?_ | refine cb ?_ ?_ | (refine cc ?_ ?_ <;> intro hcond) | refine rb ?_ | refine nd ?_ | refine dk ?_ | fail)
            refine ⟨(), trivial, ?_⟩
            try dsimp only
            rw [← hei]
            exact tq [] []
        · rintro _ _
          try dsimp only
          have hTr : ∀ x ∈ T, AcR x := fun x hx => hr x (t6' x hx)
          have oS := split3 (l := l) (a := a) (b := i) (c := m) b1 b2
          rw [oS] at oA
          have oS2 := split3 (l := l) (a := m) (b := e) (c := b) b3 b4
          rw [oS2] at oB
          obtain ⟨oA1, oA2, _⟩ := List.pairwise_append.1 oA
          obtain ⟨oB1, oB2, _⟩ := List.pairwise_append.1 oB
          rw [← t2'] at oA1
          rw [← t4'] at oA2
          rw [← t3'] at oB1
          rw [← t5'] at oB2
          repeat' (first | with_reducible refine WP.hold 199 ?_ | refine X.loc ?_ | refine nx ?_ | refine X.cdT ?_ | refine X.cdF ?_ | refine cb ?_ ?_ | (refine cc ?_ ?_ <;> intro hcond) | refine rb ?_ | refine nd ?_ | refine dk ?_ | fail)
          all_goals (try apply Held.mk)
          refine WP.join (ι := Unit) (fun _ => ⟨[(0, .osl 1000), (1, .fv (.int .i64 a)), (2, .fv (.int .i64 m)), (3, .fv (.int .i64 b)), (4, .fn 133 []), (18, .fv (.int .i64 d)), (20, .fv (.int .i64 i)), (24, .fv (.int .i64 e))], [(1000, .row 38 9 (mrgL T a d).length (((mrgL T a d).flatMap encAc).map .fv))]⟩) (fun _ => True) ?_ ?_
          · by_cases hc1 : a < i ∧ i < d
            · have u1 := ih (d - a) (by omega) T a i d rfl hTr hc1.1 hc1.2 (by omega) (by omega) oA1 oB1
              unfold acRw at u1
              repeat' (first | refine X.loc ?_ | refine nx ?_ | refine X.cdT ?_ | refine X.cdF ?_ | refine cb ?_ ?_ | (refine cc ?_ ?_ <;> intro hcond) | refine rb ?_ | refine X.c0 (u1) ?_ | refine nd ?_ | refine dk ?_ | fail)
              refine ⟨(), trivial, ?_⟩
              exact tq [] []
            · have e1 : mrgL T a d = T := by
                have hs := split3 (l := T) (a := a) (b := i) (c := d) b1 (by omega)
                refine mrgL_id (by omega) (by omega) ?_
                rw [hs]
                have n1 : (T.take i).drop a = [] ∨ (T.take d).drop i = [] := by
                  rcases Nat.lt_or_ge a i with h | h
                  · right
                    exact List.eq_nil_of_length_eq_zero (by rw [seg_len T (by omega) (by omega)]; omega)
                  · left
                    exact List.eq_nil_of_length_eq_zero (by rw [seg_len T (by omega) (by omega)]; omega)
                rcases n1 with n1 | n1
                · rw [n1, List.nil_append]
                  exact oB1
                · rw [n1, List.append_nil]
                  exact oA1
              rw [e1]
              repeat' (first | refine X.loc ?_ | refine nx ?_ | refine X.cdT ?_ | refine X.cdF ?_ | refine cb ?_ ?_ | (refine cc ?_ ?_ <;> intro hcond) | refine rb ?_ | refine nd ?_ | refine dk ?_ | fail)
              refine ⟨(), trivial, ?_⟩
              exact tq [] []
          · rintro _ _
            try dsimp only
            have hRl : (mrgL T a d).length = T.length := mrgL_len (by omega) (by omega)
            have hRr : ∀ x ∈ mrgL T a d, AcR x := fun x hx => hTr x (mrgL_mem hx)
            have q1 := mrgL_seg (l := T) (a := a) (d := d) (p := d) (q := e) (by omega) (by omega) (by omega) (by omega) (by omega)
            have q2 := mrgL_seg (l := T) (a := a) (d := d) (p := e) (q := b) (by omega) (by omega) (by omega) (by omega) (by omega)
            rw [← q1] at oA2
            rw [← q2] at oB2
            generalize mrgL T a d = R at *
            by_cases hc2 : d < e ∧ e < b
            · have u1 := ih (b - d) (by omega) R d e b rfl hRr hc2.1 hc2.2 (by omega) (by omega) oA2 oB2
              unfold acRw at u1
              generalize mrgL R d b = U at *
              repeat' (first | refine X.loc ?_ | refine nx ?_ | refine X.cdT ?_ | refine X.cdF ?_ | refine cb ?_ ?_ | (refine cc ?_ ?_ <;> intro hcond) | refine rb ?_ | refine X.c0 (u1) ?_ | refine nd ?_ | refine dk ?_ | fail)
              exact rq ⟨[], [(1000, .row 38 9 U.length ((U.flatMap encAc).map .fv))]⟩ (tq [] [])
            · have e1 : mrgL R d b = R := by
                have hs := split3 (l := R) (a := d) (b := e) (c := b) (by omega) (by omega)
                refine mrgL_id (by omega) (by omega) ?_
                rw [hs]
                have n1 : (R.take e).drop d = [] ∨ (R.take b).drop e = [] := by
                  rcases Nat.lt_or_ge d e with h | h
                  · right
                    exact List.eq_nil_of_length_eq_zero (by rw [seg_len R (by omega) (by omega)]; omega)
                  · left
                    exact List.eq_nil_of_length_eq_zero (by rw [seg_len R (by omega) (by omega)]; omega)
                rcases n1 with n1 | n1
                · rw [n1, List.nil_append]
                  exact oB2
                · rw [n1, List.append_nil]
                  exact oA2
              rw [e1]
              repeat' (first | refine X.loc ?_ | refine nx ?_ | refine X.cdT ?_ | refine X.cdF ?_ | refine cb ?_ ?_ | (refine cc ?_ ?_ <;> intro hcond) | refine rb ?_ | refine nd ?_ | refine dk ?_ | fail)
              exact rq ⟨[], [(1000, .row 38 9 R.length ((R.flatMap encAc).map .fv))]⟩ (tq [] [])
end Go.Proofs.YtmidechdlbcepaaGreat