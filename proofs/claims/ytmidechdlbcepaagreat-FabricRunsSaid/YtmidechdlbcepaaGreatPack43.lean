import Derived.Test.YtmidechdlbcepaaGreatPack42
set_option linter.unusedSimpArgs false
set_option linter.unusedVariables false
namespace Go.Proofs.YtmidechdlbcepaaGreat.AS
open Go.RowKit
set_option maxRecDepth 100000
def mvB (l : List Ar) (m : Nat) : Nat → List Ar
  | 0 => l
  | t + 1 => swp (mvB l m t) (m - t) (m - t - 1)
theorem mvB_len (l : List Ar) (m : Nat) : ∀ t, (mvB l m t).length = l.length
  | 0 => rfl
  | t + 1 => by rw [mvB, swp_len, mvB_len l m t]
theorem mvB_at (P : List Ar) (y : Ar) (Y Q : List Ar) : ∀ t, t ≤ Y.length → mvB (P ++ Y ++ y :: Q) (P.length + Y.length) t = P ++ Y.take (Y.length - t) ++ y :: (Y.drop (Y.length - t) ++ Q)
  | 0, _ => by simp [mvB]
  | t + 1, ht => by
    rw [mvB, mvB_at P y Y Q t (by omega)]
    obtain ⟨k, hk⟩ : ∃ k, Y.length - t = k + 1 := ⟨Y.length - t - 1, by omega⟩
    obtain ⟨x, hx⟩ : ∃ x, Y[k]? = some x := ⟨_, List.getElem?_eq_getElem (by omega)⟩
    have tx : Y.take (k + 1) = Y.take k ++ [x] := by rw [List.take_add_one, hx]; rfl
    have dx : Y.drop k = x :: Y.drop (k + 1) := by rw [List.drop_eq_getElem_cons (by omega), (List.getElem?_eq_some_iff.1 hx).2]
    have e : Y.length - (t + 1) = k := by omega
    rw [e, hk, tx, dx]
    have l1 : P.length + Y.length - t = (P ++ Y.take k).length + 1 := by rw [List.length_append, List.length_take]; omega
    have e2 : P ++ (Y.take k ++ [x]) ++ y :: (Y.drop (k + 1) ++ Q) = (P ++ Y.take k) ++ x :: y :: (Y.drop (k + 1) ++ Q) := by simp
    rw [l1, Nat.add_sub_cancel, e2, swp_two]
    simp
theorem mvB_sort {P A1 A2 Q : List Ar} {y : Ar} (hA : (A1 ++ A2).Pairwise fun x y => y.prio ≤ x.prio) (h1 : ∀ x ∈ A1, ¬ cmpA y x < 0) (h2 : ∀ x ∈ A2, cmpA y x < 0) : mvB (P ++ (A1 ++ A2) ++ y :: Q) (P.length + (A1 ++ A2).length) A2.length = P ++ sortA (A1 ++ A2 ++ [y]) ++ Q := by
  obtain ⟨o1, o2, o3⟩ := List.pairwise_append.1 hA
  unfold cmpA at h1 h2
  have hs := sortA_split (A1 := A1) (A2 := A2) (B1 := [y]) (B2 := []) (by simp) o3 (fun z hz x hx => by obtain rfl := List.mem_singleton.1 hz; have := h2 x hx; omega) (by simp)
  have hx : sortA (A1 ++ [y]) = A1 ++ [y] := sortA_id (List.pairwise_append.2 ⟨o1, List.pairwise_singleton _ _, fun x hx z hz => by obtain rfl := List.mem_singleton.1 hz; have := h1 x hx; omega⟩)
  rw [List.append_nil, List.append_nil, sortA_id o2, hx] at hs
  rw [← hs, mvB_at P y (A1 ++ A2) Q A2.length (by simp)]
  rw [show (A1 ++ A2).length - A2.length = A1.length by simp, List.take_left, List.drop_left]
  simp
def mrgL (l : List Ar) (a b : Nat) : List Ar := l.take a ++ sortA ((l.take b).drop a) ++ l.drop b
theorem split3 {l : List Ar} {a b c : Nat} (h1 : a ≤ b) (h2 : b ≤ c) : (l.take c).drop a = (l.take b).drop a ++ (l.take c).drop b := by
  have e : l.take b = (l.take c).take b := by rw [List.take_take, Nat.min_eq_left h2]
  rw [e, List.drop_take, List.drop_take]
  have e2 : ((l.take c).drop a).drop (b - a) = (l.take c).drop b := by rw [List.drop_drop, show a + (b - a) = b by omega]
  rw [List.drop_drop] at e2
  have := List.take_append_drop (b - a) ((l.take c).drop a)
  rw [List.drop_drop, show a + (b - a) = b by omega] at this
  rw [List.drop_take] at this
  rw [List.drop_take] at this
  simpa [List.drop_take] using this.symm
theorem seg_mem {l : List Ar} {a b : Nat} {x : Ar} (h : x ∈ (l.take b).drop a) : ∃ k, a ≤ k ∧ k < b ∧ l[k]? = some x := by
  obtain ⟨k, hk⟩ := List.mem_iff_getElem?.1 h
  rw [List.getElem?_drop] at hk
  have hlt : a + k < b := by
    have := (List.getElem?_eq_some_iff.1 hk).1
    rw [List.length_take] at this
    omega
  rw [List.getElem?_take_of_lt hlt] at hk
  exact ⟨a + k, by omega, hlt, hk⟩
theorem mrg_one {l : List Ar} {a b i : Nat} {x : Ar} (hx : l[a]? = some x) (h1 : a + 1 ≤ i) (h2 : i ≤ b) (hb : b ≤ l.length) (ho : ((l.take b).drop (a + 1)).Pairwise fun x y => y.prio ≤ x.prio) (p1 : ∀ k y, a + 1 ≤ k → k < i → l[k]? = some y → cmpA y x < 0) (p2 : ∀ k y, i ≤ k → k < b → l[k]? = some y → ¬ cmpA y x < 0) : mvF l a (i - (a + 1)) = mrgL l a b := by
  have e1 := split3 (l := l) (a := a + 1) (b := i) (c := b) h1 h2
  have hP : (l.take a).length = a := by rw [List.length_take]; omega
  have hB : ((l.take i).drop (a + 1)).length = i - (a + 1) := by rw [List.length_drop, List.length_take]; omega
  have e3 : (l.take b).drop a = x :: (l.take b).drop (a + 1) := by
    have hx2 : (l.take b)[a]? = some x := by rw [List.getElem?_take_of_lt (by omega), hx]
    rw [List.drop_eq_getElem_cons (List.getElem?_eq_some_iff.1 hx2).1, (List.getElem?_eq_some_iff.1 hx2).2]
  have e2 : l = l.take a ++ x :: ((l.take b).drop (a + 1) ++ l.drop b) := by
    have h3 : l.take b = l.take a ++ (l.take b).drop a := by
      have := List.take_append_drop a (l.take b)
      rw [List.take_take, Nat.min_eq_left (by omega)] at this
      exact this.symm
    have h4 := List.take_append_drop b l
    rw [h3, e3] at h4
    rw [List.append_assoc] at h4
    exact h4.symm
  have := mv_sort (P := l.take a) (B1 := (l.take i).drop (a + 1)) (B2 := (l.take b).drop i) (Q := l.drop b) (x := x) (by rw [← e1]; exact ho) (fun y hy => by
    obtain ⟨k, k1, k2, k3⟩ := seg_mem hy
    exact p1 k y k1 k2 k3) (fun y hy => by
    obtain ⟨k, k1, k2, k3⟩ := seg_mem hy
    exact p2 k y k1 k2 k3)
  rw [← e1, ← e2, hP, hB] at this
  rw [this, mrgL, e3]
set_option maxHeartbeats 8000000 in
theorem symMerge1_T (l : List Ar) (a b : Nat) (hr : ∀ x ∈ l, ArR x) (ha : a + 1 < b) (hb : b ≤ l.length) (hl : l.length ≤ 40) (ho : ((l.take b).drop (a + 1)).Pairwise fun x y => y.prio ≤ x.prio) : FunO Tryz.prog 144 [.osl 1000, .fv (.int .i64 a), .fv (.int .i64 (a + 1 : Nat)), .fv (.int .i64 b), .fn 78 []] [(1000, arRw l)] (.tup []) [(1000, arRw (mrgL l a b))] := by
  refine FunO.bodyL tbl_ok Tryz.func144 rfl (by kernel_rfl) rfl rfl rfl ?_
  unfold arRw
  rw [show ((a + 1 : Nat) : Int) = (a : Int) + 1 by omega]
  obtain ⟨x, hx⟩ : ∃ x, l[a]? = some x := ⟨_, List.getElem?_eq_getElem (by omega)⟩
  have hxr := hr x (List.mem_of_getElem? hx)
  have hmg := fun i => @mrg_one l a b i x hx
  repeat' (first | refine X.loc ?_ | refine nx ?_ | refine X.cdT ?_ | refine X.cdF ?_ | refine cb ?_ ?_ | (refine cc ?_ ?_ <;> intro hcond) | refine rb ?_ | refine nd ?_ | refine dk ?_ | fail)
  refine WP.loop (ι := Nat × Nat) (fun q => ⟨[(0, .osl 1000), (1, .fv (.int .i64 a)), (2, .fv (.int .i64 ((a : Int) + 1))), (3, .fv (.int .i64 b)), (4, .fn 78 []), (10, .fv (.int .i64 q.1)), (11, .fv (.int .i64 q.2))], [(1000, .row 41 9 l.length ((l.flatMap encAr).map .fv))]⟩) (fun q => a + 1 ≤ q.1 ∧ q.1 ≤ q.2 ∧ q.2 ≤ b ∧ (∀ k y, a + 1 ≤ k → k < q.1 → l[k]? = some y → cmpA y x < 0) ∧ (∀ k y, q.2 ≤ k → k < b → l[k]? = some y → ¬ cmpA y x < 0)) (fun q => q.2 - q.1) (a + 1, b) ⟨by dsimp only; omega, by dsimp only; omega, by dsimp only; omega, fun k y h1 h2 => by dsimp only at h2; omega, fun k y h1 h2 => by dsimp only at h1; omega⟩ ?_ ?_
  · try dsimp only
    rw [show ((a + 1 : Nat) : Int) = (a : Int) + 1 by omega]
    exact tq [] []
  rintro ⟨i, j⟩ ⟨g1, g2, g3, g4, g5⟩
  try dsimp only at g1 g2 g3 g4 g5
  try dsimp only
  by_cases hij : i < j
  case pos =>
    obtain ⟨y, hy⟩ : ∃ y, l[(i + j) / 2]? = some y := ⟨_, List.getElem?_eq_getElem (by omega)⟩
    have hc := cmpA_T y x (hr y (List.mem_of_getElem? hy)) hxr
    have hcy : cmpA y x = x.prio - y.prio := rfl
    by_cases hlt : cmpA y x < 0
    · have g4' : ∀ k z, a + 1 ≤ k → k < (i + j) / 2 + 1 → l[k]? = some z → cmpA z x < 0 := fun k z k1 k2 hz => by
        have h3 := ord_at ho k1 (show k ≤ (i + j) / 2 by omega) (by omega) hz hy
        unfold cmpA at hlt ⊢
        omega
      generalize cmpA y x = o at *
      repeat' (first | (apply X.loE; (· exact aR); (· first | (exact .eff (.loadO rfl rfl (readAl (i := (i + j) / 2) (by omega) hy))) | (exact .eff (.loadO rfl rfl (readAl (i := a) (by omega) hx))) | (exact .eff (.toU rfl rfl rfl (by omega) (by omega))) | (exact .eff (.toI rfl rfl rfl (by omega) (by omega))) | (exact .eff (.half rfl rfl)) | exact .callL rfl rfl rfl (hc) rfl | exact bl (hc))) | refine X.loc ?_ | refine nx ?_ | refine X.cdT ?_ | refine X.cdF ?_ | refine cb ?_ ?_ | (refine cc ?_ ?_ <;> intro hcond) | (apply X.gsE; (· exact aR); (· exact aV); (· exact aW); (· intro hc; first | (exact .eff (.loadO rfl rfl (readAl (i := (i + j) / 2) (by omega) hy))) | (exact .eff (.loadO rfl rfl (readAl (i := a) (by omega) hx))) | (exact .eff (.toU rfl rfl rfl (by omega) (by omega))) | (exact .eff (.toI rfl rfl rfl (by omega) (by omega))) | (exact .eff (.half rfl rfl)) | exact .callG rfl rfl rfl (hc) rfl | exact bg (hc)); (· exact aR)) | refine rb ?_ | refine nd ?_ | refine dk ?_ | fail)
      refine ⟨((i + j) / 2 + 1, j), ⟨by dsimp only; omega, by dsimp only; omega, g3, g4', g5⟩, by dsimp only; omega, ?_⟩
      try dsimp only
      rw [show (((i + j) / 2 + 1 : Nat) : Int) = ((i : Int) + (j : Int)) / 2 + 1 by omega]
      exact tq [] []
    · have g5' : ∀ k z, (i + j) / 2 ≤ k → k < b → l[k]? = some z → ¬ cmpA z x < 0 := fun k z k1 k2 hz => by
        have h3 := ord_at ho (show a + 1 ≤ (i + j) / 2 by omega) k1 k2 hy hz
        unfold cmpA at hlt ⊢
        omega
      generalize cmpA y x = o at *
      repeat' (first | (apply X.loE; (· exact aR); (· first | (exact .eff (.loadO rfl rfl (readAl (i := (i + j) / 2) (by omega) hy))) | (exact .eff (.loadO rfl rfl (readAl (i := a) (by omega) hx))) | (exact .eff (.toU rfl rfl rfl (by omega) (by omega))) | (exact .eff (.toI rfl rfl rfl (by omega) (by omega))) | (exact .eff (.half rfl rfl)) | exact .callL rfl rfl rfl (hc) rfl | exact bl (hc))) | refine X.loc ?_ | refine nx ?_ | refine X.cdT ?_ | refine X.cdF ?_ | refine cb ?_ ?_ | (refine cc ?_ ?_ <;> intro hcond) | (apply X.gsE; (· exact aR); (· exact aV); (· exact aW); (· intro hc; first | (exact .eff (.loadO rfl rfl (readAl (i := (i + j) / 2) (by omega) hy))) | (exact .eff (.loadO rfl rfl (readAl (i := a) (by omega) hx))) | (exact .eff (.toU rfl rfl rfl (by omega) (by omega))) | (exact .eff (.toI rfl rfl rfl (by omega) (by omega))) | (exact .eff (.half rfl rfl)) | exact .callG rfl rfl rfl (hc) rfl | exact bg (hc)); (· exact aR)) | refine rb ?_ | refine nd ?_ | refine dk ?_ | fail)
      refine ⟨(i, (i + j) / 2), ⟨g1, by dsimp only; omega, by dsimp only; omega, g4, g5'⟩, by dsimp only; omega, ?_⟩
      try dsimp only
      rw [show (((i + j) / 2 : Nat) : Int) = ((i : Int) + (j : Int)) / 2 by omega]
      exact tq [] []
  case neg =>
    obtain rfl : i = j := by omega
    have hm := hmg i g1 g3 hb ho g4 g5
    have hml := mvF_len l a
    repeat' (first | refine X.loc ?_ | refine nx ?_ | refine X.cdT ?_ | refine X.cdF ?_ | refine cb ?_ ?_ | (refine cc ?_ ?_ <;> intro hcond) | refine rb ?_ | refine nd ?_ | refine dk ?_ | fail)
    refine WP.loop (ι := Nat) (fun t => ⟨[(0, .osl 1000), (10, .fv (.int .i64 i)), (13, .fv (.int .i64 ((a : Int) + (t : Int))))], [(1000, .row 41 9 (mvF l a t).length (((mvF l a t).flatMap encAr).map .fv))]⟩) (fun t => t ≤ i - (a + 1)) (fun t => i - (a + 1) - t) 0 (by omega) ?_ ?_
    · try dsimp only
      rw [show mvF l a 0 = l from rfl, show (a : Int) + ((0 : Nat) : Int) = (a : Int) by omega]
      exact tq [] []
    rintro t ht
    try dsimp only
    by_cases htl : t < i - (a + 1)
    case neg =>
      obtain rfl : t = i - (a + 1) := by omega
      rw [hm]
      generalize mrgL l a b = R at *
      rw [show ((i - (a + 1) : Nat) : Int) = (i : Int) - ((a : Int) + 1) by omega]
      repeat' (first | refine X.loc ?_ | refine nx ?_ | refine X.cdT ?_ | refine X.cdF ?_ | refine cb ?_ ?_ | (refine cc ?_ ?_ <;> intro hcond) | refine rb ?_ | refine nd ?_ | refine dk ?_ | fail)
      exact rq ⟨[], [(1000, .row 41 9 R.length ((R.flatMap encAr).map .fv))]⟩ (tq [] [])
    case pos =>
      have h1 := hml t
      have hs : mvF l a (t + 1) = swp (mvF l a t) (a + t) (a + t + 1) := rfl
      generalize mvF l a t = R at *
      obtain ⟨u, hu⟩ : ∃ u, R[a + t]? = some u := ⟨_, List.getElem?_eq_getElem (by omega)⟩
      obtain ⟨v, hv⟩ : ∃ v, R[a + t + 1]? = some v := ⟨_, List.getElem?_eq_getElem (by omega)⟩
      rw [swp, hu, hv] at hs
      try dsimp only at hs
      have s1 := setAl (l := R) (i := a + t) (off := ((a : Int) + (t : Int)).toNat * 9) (x := v) (by omega) (by omega)
      have s2 := setAl (l := R.set (a + t) v) (i := a + t + 1) (off := ((a : Int) + (t : Int) + 1).toNat * 9) (x := u) (by omega) (by rw [List.length_set]; omega)
      repeat' (first | (apply X.loE; (· exact aR); (· first | (exact .eff (.loadO rfl rfl (readAl (i := a + t) (by omega) hu))) | (exact .eff (.loadO rfl rfl (readAl (i := a + t + 1) (by omega) hv))))) | refine X.loc ?_ | (apply X.stRE; (· exact aS); (· exact s1); (· exact aE)) | (apply X.stRE; (· exact aS); (· exact s2); (· exact aE)) | refine nx ?_ | refine X.cdT ?_ | refine X.cdF ?_ | refine cb ?_ ?_ | (refine cc ?_ ?_ <;> intro hcond) | (apply X.gsE; (· exact aR); (· exact aV); (· exact aW); (· intro hc; first | (exact .eff (.loadO rfl rfl (readAl (i := a + t) (by omega) hu))) | (exact .eff (.loadO rfl rfl (readAl (i := a + t + 1) (by omega) hv)))); (· exact aR)) | refine rb ?_ | refine nd ?_ | refine dk ?_ | fail)
      refine ⟨t + 1, by omega, by omega, ?_⟩
      try dsimp only
      rw [hs, show (a : Int) + ((t + 1 : Nat) : Int) = (a : Int) + (t : Int) + 1 by omega]
      refine St.to [] [] rfl rfl ?_ ?_ <;> (repeat' (first | exact tA | refine t1 ?_ | exact tB | refine t2 ?_ ?_ | refine t3 ?_ | refine t4 ?_ ?_ | refine .ofEq ?_ | refine OB.To.cut rfl rfl ?_ ?_ ?_ ?_ | refine OB.To.box rfl rfl ?_ | refine ⟨⟨_, rfl, ?_⟩, ?_⟩ | refine ⟨?_, ?_⟩ | fail))
      all_goals first | omega | (simp; done)
theorem mrg_back {l : List Ar} {a m i : Nat} {y : Ar} (hy : l[m]? = some y) (h1 : a ≤ i) (h2 : i ≤ m) (ho : ((l.take m).drop a).Pairwise fun x y => y.prio ≤ x.prio) (p1 : ∀ k x, a ≤ k → k < i → l[k]? = some x → ¬ cmpA y x < 0) (p2 : ∀ k x, i ≤ k → k < m → l[k]? = some x → cmpA y x < 0) : mvB l m (m - i) = mrgL l a (m + 1) := by
  have hlt := (List.getElem?_eq_some_iff.1 hy).1
  have e1 := split3 (l := l) (a := a) (b := i) (c := m) h1 h2
  have hP : (l.take a).length = a := by rw [List.length_take]; omega
  have hA : ((l.take m).drop a).length = m - a := by rw [List.length_drop, List.length_take]; omega
  have hA2 : ((l.take m).drop i).length = m - i := by rw [List.length_drop, List.length_take]; omega
  have e3 : (l.take (m + 1)).drop a = (l.take m).drop a ++ [y] := by
    rw [List.take_add_one, hy, List.drop_append_of_le_length (by rw [List.length_take]; omega)]
    rfl
  have e2 : l = l.take a ++ (l.take m).drop a ++ y :: l.drop (m + 1) := by
    have h3 : l.take m = l.take a ++ (l.take m).drop a := by
      have := List.take_append_drop a (l.take m)
      rw [List.take_take, Nat.min_eq_left (by omega)] at this
      exact this.symm
    have h4 := List.take_append_drop m l
    rw [List.drop_eq_getElem_cons hlt, (List.getElem?_eq_some_iff.1 hy).2] at h4
    rw [← h3]
    exact h4.symm
  have := mvB_sort (P := l.take a) (A1 := (l.take i).drop a) (A2 := (l.take m).drop i) (Q := l.drop (m + 1)) (y := y) (by rw [← e1]; exact ho) (fun x hx => by
    obtain ⟨k, k1, k2, k3⟩ := seg_mem hx
    exact p1 k x k1 k2 k3) (fun x hx => by
    obtain ⟨k, k1, k2, k3⟩ := seg_mem hx
    exact p2 k x k1 k2 k3)
  rw [← e1, ← e2, hP, hA, hA2, show a + (m - a) = m by omega] at this
  rw [this, mrgL, e3]
set_option maxHeartbeats 8000000 in
theorem symMerge2_T (l : List Ar) (a m : Nat) (hr : ∀ x ∈ l, ArR x) (ha : a + 1 < m) (hb : m + 1 ≤ l.length) (hl : l.length ≤ 40) (ho : ((l.take m).drop a).Pairwise fun x y => y.prio ≤ x.prio) : FunO Tryz.prog 144 [.osl 1000, .fv (.int .i64 a), .fv (.int .i64 m), .fv (.int .i64 (m + 1 : Nat)), .fn 78 []] [(1000, arRw l)] (.tup []) [(1000, arRw (mrgL l a (m + 1)))] := by
  refine FunO.bodyL tbl_ok Tryz.func144 rfl (by kernel_rfl) rfl rfl rfl ?_
  unfold arRw
  rw [show ((m + 1 : Nat) : Int) = (m : Int) + 1 by omega]
  obtain ⟨y, hy⟩ : ∃ y, l[m]? = some y := ⟨_, List.getElem?_eq_getElem (by omega)⟩
  have hyr := hr y (List.mem_of_getElem? hy)
  have hmg := fun i => @mrg_back l a m i y hy
  repeat' (first | refine X.loc ?_ | refine nx ?_ | refine X.cdT ?_ | refine X.cdF ?_ | refine cb ?_ ?_ | (refine cc ?_ ?_ <;> intro hcond) | refine rb ?_ | refine nd ?_ | refine dk ?_ | fail)
  refine WP.loop (ι := Nat × Nat) (fun q => ⟨[(0, .osl 1000), (1, .fv (.int .i64 a)), (2, .fv (.int .i64 m)), (3, .fv (.int .i64 ((m : Int) + 1))), (4, .fn 78 []), (14, .fv (.int .i64 q.1)), (15, .fv (.int .i64 q.2))], [(1000, .row 41 9 l.length ((l.flatMap encAr).map .fv))]⟩) (fun q => a ≤ q.1 ∧ q.1 ≤ q.2 ∧ q.2 ≤ m ∧ (∀ k x, a ≤ k → k < q.1 → l[k]? = some x → ¬ cmpA y x < 0) ∧ (∀ k x, q.2 ≤ k → k < m → l[k]? = some x → cmpA y x < 0)) (fun q => q.2 - q.1) (a, m) ⟨by dsimp only; omega, by dsimp only; omega, by dsimp only; omega, fun k y h1 h2 => by dsimp only at h2; omega, fun k y h1 h2 => by dsimp only at h1; omega⟩ ?_ ?_
  · try dsimp only
    exact tq [] []
  rintro ⟨i, j⟩ ⟨g1, g2, g3, g4, g5⟩
  try dsimp only at g1 g2 g3 g4 g5
  try dsimp only
  by_cases hij : i < j
  case pos =>
    obtain ⟨x, hx⟩ : ∃ x, l[(i + j) / 2]? = some x := ⟨_, List.getElem?_eq_getElem (by omega)⟩
    have hc := cmpA_T y x hyr (hr x (List.mem_of_getElem? hx))
    by_cases hlt : cmpA y x < 0
    · have g5' : ∀ k z, (i + j) / 2 ≤ k → k < m → l[k]? = some z → cmpA y z < 0 := fun k z k1 k2 hz => by
        have h3 := ord_at ho (show a ≤ (i + j) / 2 by omega) k1 k2 hx hz
        unfold cmpA at hlt ⊢
        omega
      generalize cmpA y x = o at *
      repeat' (first | (apply X.loE; (· exact aR); (· first | (exact .eff (.loadO rfl rfl (readAl (i := (i + j) / 2) (by omega) hx))) | (exact .eff (.loadO rfl rfl (readAl (i := m) (by omega) hy))) | (exact .eff (.toU rfl rfl rfl (by omega) (by omega))) | (exact .eff (.toI rfl rfl rfl (by omega) (by omega))) | (exact .eff (.half rfl rfl)) | exact .callL rfl rfl rfl (hc) rfl | exact bl (hc))) | refine X.loc ?_ | refine nx ?_ | refine X.cdT ?_ | refine X.cdF ?_ | refine cb ?_ ?_ | (refine cc ?_ ?_ <;> intro hcond) | (apply X.gsE; (· exact aR); (· exact aV); (· exact aW); (· intro hc; first | (exact .eff (.loadO rfl rfl (readAl (i := (i + j) / 2) (by omega) hx))) | (exact .eff (.loadO rfl rfl (readAl (i := m) (by omega) hy))) | (exact .eff (.toU rfl rfl rfl (by omega) (by omega))) | (exact .eff (.toI rfl rfl rfl (by omega) (by omega))) | (exact .eff (.half rfl rfl)) | exact .callG rfl rfl rfl (hc) rfl | exact bg (hc)); (· exact aR)) | refine rb ?_ | refine nd ?_ | refine dk ?_ | fail)
      all_goals try (exfalso; simp at hcond; omega)
      refine ⟨(i, (i + j) / 2), ⟨g1, by dsimp only; omega, by dsimp only; omega, g4, g5'⟩, by dsimp only; omega, ?_⟩
      try dsimp only
      rw [show (((i + j) / 2 : Nat) : Int) = ((i : Int) + (j : Int)) / 2 by omega]
      exact tq [] []
    · have g4' : ∀ k z, a ≤ k → k < (i + j) / 2 + 1 → l[k]? = some z → ¬ cmpA y z < 0 := fun k z k1 k2 hz => by
        have h3 := ord_at ho k1 (show k ≤ (i + j) / 2 by omega) (by omega) hz hx
        unfold cmpA at hlt ⊢
        omega
      generalize cmpA y x = o at *
      repeat' (first | (apply X.loE; (· exact aR); (· first | (exact .eff (.loadO rfl rfl (readAl (i := (i + j) / 2) (by omega) hx))) | (exact .eff (.loadO rfl rfl (readAl (i := m) (by omega) hy))) | (exact .eff (.toU rfl rfl rfl (by omega) (by omega))) | (exact .eff (.toI rfl rfl rfl (by omega) (by omega))) | (exact .eff (.half rfl rfl)) | exact .callL rfl rfl rfl (hc) rfl | exact bl (hc))) | refine X.loc ?_ | refine nx ?_ | refine X.cdT ?_ | refine X.cdF ?_ | refine cb ?_ ?_ | (refine cc ?_ ?_ <;> intro hcond) | (apply X.gsE; (· exact aR); (· exact aV); (· exact aW); (· intro hc; first | (exact .eff (.loadO rfl rfl (readAl (i := (i + j) / 2) (by omega) hx))) | (exact .eff (.loadO rfl rfl (readAl (i := m) (by omega) hy))) | (exact .eff (.toU rfl rfl rfl (by omega) (by omega))) | (exact .eff (.toI rfl rfl rfl (by omega) (by omega))) | (exact .eff (.half rfl rfl)) | exact .callG rfl rfl rfl (hc) rfl | exact bg (hc)); (· exact aR)) | refine rb ?_ | refine nd ?_ | refine dk ?_ | fail)
      all_goals try (exfalso; simp at hcond; omega)
      refine ⟨((i + j) / 2 + 1, j), ⟨by dsimp only; omega, by dsimp only; omega, g3, g4', g5⟩, by dsimp only; omega, ?_⟩
      try dsimp only
      rw [show (((i + j) / 2 + 1 : Nat) : Int) = ((i : Int) + (j : Int)) / 2 + 1 by omega]
      exact tq [] []
  case neg =>
    obtain rfl : i = j := by omega
    have hm := hmg i g1 g3 ho g4 g5
    have hml := mvB_len l m
    repeat' (first | refine X.loc ?_ | refine nx ?_ | refine X.cdT ?_ | refine X.cdF ?_ | refine cb ?_ ?_ | (refine cc ?_ ?_ <;> intro hcond) | refine rb ?_ | refine nd ?_ | refine dk ?_ | fail)
    refine WP.loop (ι := Nat) (fun t => ⟨[(0, .osl 1000), (14, .fv (.int .i64 i)), (17, .fv (.int .i64 ((m : Int) - (t : Int))))], [(1000, .row 41 9 (mvB l m t).length (((mvB l m t).flatMap encAr).map .fv))]⟩) (fun t => t ≤ m - i) (fun t => m - i - t) 0 (by omega) ?_ ?_
    · try dsimp only
      rw [show mvB l m 0 = l from rfl, show (m : Int) - ((0 : Nat) : Int) = (m : Int) by omega]
      exact tq [] []
    rintro t ht
    try dsimp only
    by_cases htl : t < m - i
    case neg =>
      obtain rfl : t = m - i := by omega
      rw [hm]
      generalize mrgL l a (m + 1) = R at *
      rw [show ((m - i : Nat) : Int) = (m : Int) - (i : Int) by omega]
      repeat' (first | refine X.loc ?_ | refine nx ?_ | refine X.cdT ?_ | refine X.cdF ?_ | refine cb ?_ ?_ | (refine cc ?_ ?_ <;> intro hcond) | refine rb ?_ | refine nd ?_ | refine dk ?_ | fail)
      exact rq ⟨[], [(1000, .row 41 9 R.length ((R.flatMap encAr).map .fv))]⟩ (tq [] [])
    case pos =>
      have h1 := hml t
      have hs : mvB l m (t + 1) = swp (mvB l m t) (m - t) (m - t - 1) := rfl
      generalize mvB l m t = R at *
      obtain ⟨u, hu⟩ : ∃ u, R[m - t]? = some u := ⟨_, List.getElem?_eq_getElem (by omega)⟩
      obtain ⟨v, hv⟩ : ∃ v, R[m - t - 1]? = some v := ⟨_, List.getElem?_eq_getElem (by omega)⟩
      rw [swp, hu, hv] at hs
      try dsimp only at hs
      have s1 := setAl (l := R) (i := m - t) (off := ((m : Int) - (t : Int)).toNat * 9) (x := v) (by omega) (by omega)
      have s2 := setAl (l := R.set (m - t) v) (i := m - t - 1) (off := ((m : Int) - (t : Int) - 1).toNat * 9) (x := u) (by omega) (by rw [List.length_set]; omega)
      repeat' (first | (apply X.loE; (· exact aR); (· first | (exact .eff (.loadO rfl rfl (readAl (i := m - t) (by omega) hu))) | (exact .eff (.loadO rfl rfl (readAl (i := m - t - 1) (by omega) hv))))) | refine X.loc ?_ | (apply X.stRE; (· exact aS); (· exact s1); (· exact aE)) | (apply X.stRE; (· exact aS); (· exact s2); (· exact aE)) | refine nx ?_ | refine X.cdT ?_ | refine X.cdF ?_ | refine cb ?_ ?_ | (refine cc ?_ ?_ <;> intro hcond) | (apply X.gsE; (· exact aR); (· exact aV); (· exact aW); (· intro hc; first | (exact .eff (.loadO rfl rfl (readAl (i := m - t) (by omega) hu))) | (exact .eff (.loadO rfl rfl (readAl (i := m - t - 1) (by omega) hv)))); (· exact aR)) | refine rb ?_ | refine nd ?_ | refine dk ?_ | fail)
      refine ⟨t + 1, by omega, by omega, ?_⟩
      try dsimp only
      rw [hs, show (m : Int) - ((t + 1 : Nat) : Int) = (m : Int) - (t : Int) - 1 by omega]
      refine St.to [] [] rfl rfl ?_ ?_ <;> (repeat' (first | exact tA | refine t1 ?_ | exact tB | refine t2 ?_ ?_ | refine t3 ?_ | refine t4 ?_ ?_ | refine .ofEq ?_ | refine OB.To.cut rfl rfl ?_ ?_ ?_ ?_ | refine OB.To.box rfl rfl ?_ | refine ⟨⟨_, rfl, ?_⟩, ?_⟩ | refine ⟨?_, ?_⟩ | fail))
      all_goals first | omega | (simp; done)
theorem mrgL_app (P S Q : List Ar) : mrgL (P ++ S ++ Q) P.length (P.length + S.length) = P ++ sortA S ++ Q := by
  have e1 : (P ++ S ++ Q).take P.length = P := by rw [List.append_assoc, List.take_left]
  have e2 : (P ++ S ++ Q).take (P.length + S.length) = P ++ S := by rw [← List.length_append, List.take_left]
  have e3 : (P ++ S ++ Q).drop (P.length + S.length) = Q := by rw [← List.length_append, List.drop_left]
  rw [mrgL, e1, e2, e3, List.drop_left]
theorem part3 (l : List Ar) {a b : Nat} (h1 : a ≤ b) (h2 : b ≤ l.length) : l = l.take a ++ (l.take b).drop a ++ l.drop b := by
  have h3 : l.take b = l.take a ++ (l.take b).drop a := by
    have := List.take_append_drop a (l.take b)
    rw [List.take_take, Nat.min_eq_left h1] at this
    exact this.symm
  have h4 := List.take_append_drop b l
  rw [h3] at h4
  exact h4.symm
theorem seg_len (l : List Ar) {a b : Nat} (h1 : a ≤ b) (h2 : b ≤ l.length) : ((l.take b).drop a).length = b - a := by rw [List.length_drop, List.length_take]; omega
theorem sym_split {P A1 A2 B1 B2 Q : List Ar} (h1 : ∀ x ∈ A1, ∀ y ∈ B2, y.prio ≤ x.prio) (h2 : ∀ x ∈ A1, ∀ y ∈ A2, y.prio ≤ x.prio) (h3 : ∀ x ∈ B1, ∀ y ∈ A2, y.prio < x.prio) (h4 : ∀ x ∈ B1, ∀ y ∈ B2, y.prio ≤ x.prio) {a d b : Nat} (ha : a = P.length) (hd : d = a + (A1.length + B1.length)) (hb : b = d + (A2.length + B2.length)) :
    mrgL (mrgL (P ++ A1 ++ B1 ++ A2 ++ B2 ++ Q) a d) d b = mrgL (P ++ A1 ++ A2 ++ B1 ++ B2 ++ Q) a b := by
  subst ha hd hb
  have hl : ∀ S : List Ar, (sortA S).length = S.length := fun S => (List.mergeSort_perm S geA).length_eq
  have s1 := mrgL_app P (A1 ++ B1) (A2 ++ B2 ++ Q)
  have s2 := mrgL_app (P ++ sortA (A1 ++ B1)) (A2 ++ B2) Q
  have s3 := mrgL_app P (A1 ++ A2 ++ (B1 ++ B2)) Q
  rw [← sortA_split h1 h2 h3 h4] at s3
  have l3 : P.length + (A1 ++ A2 ++ (B1 ++ B2)).length = P.length + (A1.length + B1.length) + (A2.length + B2.length) := by
    simp only [List.length_append]
    omega
  have l2 : (P ++ sortA (A1 ++ B1)).length = P.length + (A1.length + B1.length) := by rw [List.length_append, hl, List.length_append]
  rw [l3] at s3
  rw [l2] at s2
  simp only [List.length_append] at s1 s2
  simp only [List.append_assoc] at s1 s2 s3 ⊢
  rw [s1, s2, s3]
def turned (l : List Ar) (s m e : Nat) : List Ar := if s < m ∧ m < e then rotL l m (m - s) (e - m) else l
theorem parts5 (l : List Ar) {a s m e b : Nat} (h1 : a ≤ s) (h2 : s ≤ m) (h3 : m ≤ e) (h4 : e ≤ b) (h5 : b ≤ l.length) :
    l = l.take a ++ (l.take s).drop a ++ (l.take m).drop s ++ (l.take e).drop m ++ (l.take b).drop e ++ l.drop b := by
  have p1 := part3 l (a := a) (b := b) (by omega) h5
  have p2 := split3 (l := l) (a := a) (b := s) (c := b) h1 (by omega)
  have p3 := split3 (l := l) (a := s) (b := m) (c := b) h2 (by omega)
  have p4 := split3 (l := l) (a := m) (b := e) (c := b) h3 h4
  rw [p2, p3, p4] at p1
  simpa only [List.append_assoc] using p1
theorem turned_is (l : List Ar) {a s m e b : Nat} (h1 : a ≤ s) (h2 : s ≤ m) (h3 : m ≤ e) (h4 : e ≤ b) (h5 : b ≤ l.length) :
    turned l s m e = l.take a ++ (l.take s).drop a ++ (l.take e).drop m ++ (l.take m).drop s ++ (l.take b).drop e ++ l.drop b := by
  have hp := parts5 l h1 h2 h3 h4 h5
  have hP : (l.take a).length = a := by rw [List.length_take]; omega
  have l1 := seg_len l h1 (show s ≤ l.length by omega)
  have l2 := seg_len l h2 (show m ≤ l.length by omega)
  have l3 := seg_len l h3 (show e ≤ l.length by omega)
  generalize l.take a = P at *
  generalize (l.take s).drop a = A1 at *
  generalize (l.take m).drop s = A2 at *
  generalize (l.take e).drop m = B1 at *
  generalize (l.take b).drop e = B2 at *
  generalize l.drop b = Q at *
  unfold turned
  by_cases h : s < m ∧ m < e
  · rw [if_pos h]
    have hr := rotL_is _ (P ++ A1) A2 B1 (B2 ++ Q) rfl (by omega) (by omega)
    rw [List.length_append, l2, l3, show P.length + A1.length + (m - s) = m by omega] at hr
    rw [hp]
    simp only [List.append_assoc] at hr ⊢
    exact hr
  · rw [if_neg h]
    have : A2 = [] ∨ B1 = [] := by
      rcases Nat.lt_or_ge s m with h6 | h6
      · right
        exact List.eq_nil_of_length_eq_zero (by omega)
      · left
        exact List.eq_nil_of_length_eq_zero (by omega)
    rw [hp]
    rcases this with rfl | rfl <;> simp
theorem sym_end {l : List Ar} {a s m e b d : Nat} (h1 : a ≤ s) (h2 : s ≤ m) (h3 : m ≤ e) (h4 : e ≤ b) (h5 : b ≤ l.length) (hd : d + m = s + e) (oA : ((l.take m).drop a).Pairwise fun x y => y.prio ≤ x.prio) (oB : ((l.take b).drop m).Pairwise fun x y => y.prio ≤ x.prio)
    (c1 : s = a ∨ e = b ∨ ∃ x y, l[s - 1]? = some x ∧ l[e]? = some y ∧ ¬ cmpA y x < 0) (c2 : s = m ∨ e = m ∨ ∃ x y, l[s]? = some x ∧ l[e - 1]? = some y ∧ cmpA y x < 0) :
    mrgL (mrgL (turned l s m e) a d) d b = mrgL l a b := by
  have hp := parts5 l h1 h2 h3 h4 h5
  have ht := turned_is l h1 h2 h3 h4 h5
  have hP : (l.take a).length = a := by rw [List.length_take]; omega
  have l1 := seg_len l h1 (show s ≤ l.length by omega)
  have l2 := seg_len l h2 (show m ≤ l.length by omega)
  have l3 := seg_len l h3 (show e ≤ l.length by omega)
  have l4 := seg_len l h4 h5
  have hs := sym_split (P := l.take a) (A1 := (l.take s).drop a) (A2 := (l.take m).drop s) (B1 := (l.take e).drop m) (B2 := (l.take b).drop e) (Q := l.drop b) (a := a) (d := d) (b := b)
    (fun x hx y hy => by
      obtain ⟨i, i1, i2, i3⟩ := seg_mem hx
      obtain ⟨j, j1, j2, j3⟩ := seg_mem hy
      rcases c1 with c | c | ⟨u, v, hu, hv, huv⟩
      · omega
      · omega
      · have g1 := ord_at oA i1 (show i ≤ s - 1 by omega) (by omega) i3 hu
        have g2 := ord_at oB (show m ≤ e by omega) j1 j2 hv j3
        unfold cmpA at huv
        omega)
    (fun x hx y hy => by
      obtain ⟨i, i1, i2, i3⟩ := seg_mem hx
      obtain ⟨j, j1, j2, j3⟩ := seg_mem hy
      exact ord_at oA i1 (by omega) j2 i3 j3)
    (fun x hx y hy => by
      obtain ⟨i, i1, i2, i3⟩ := seg_mem hx
      obtain ⟨j, j1, j2, j3⟩ := seg_mem hy
      rcases c2 with c | c | ⟨u, v, hu, hv, huv⟩
      · omega
      · omega
      · have g1 := ord_at oB i1 (show i ≤ e - 1 by omega) (by omega) i3 hv
        have g2 := ord_at oA h1 j1 j2 hu j3
        unfold cmpA at huv
        omega)
    (fun x hx y hy => by
      obtain ⟨i, i1, i2, i3⟩ := seg_mem hx
      obtain ⟨j, j1, j2, j3⟩ := seg_mem hy
      exact ord_at oB i1 (by omega) j2 i3 j3) hP.symm (by omega) (by omega)
  rw [← hp, ← ht] at hs
  exact hs
theorem seg_app (P S Q : List Ar) {a b : Nat} (ha : a = P.length) (hb : b = a + S.length) : ((P ++ S ++ Q).take b).drop a = S := by
  subst ha hb
  rw [← List.length_append, List.take_left, List.drop_left]
theorem mrgL_id {l : List Ar} {a b : Nat} (h1 : a ≤ b) (h2 : b ≤ l.length) (h : ((l.take b).drop a).Pairwise fun x y => y.prio ≤ x.prio) : mrgL l a b = l := by
  rw [mrgL, sortA_id h]
  exact (part3 l h1 h2).symm
theorem mrgL_len {l : List Ar} {a b : Nat} (h1 : a ≤ b) (h2 : b ≤ l.length) : (mrgL l a b).length = l.length := by
  have hl := (List.mergeSort_perm ((l.take b).drop a) geA).length_eq
  have h3 := seg_len l h1 h2
  unfold mrgL sortA
  simp only [List.length_append, List.length_take, List.length_drop] at *
  omega
theorem mrgL_mem {l : List Ar} {a b : Nat} {x : Ar} (h : x ∈ mrgL l a b) : x ∈ l := by
  unfold mrgL at h
  rcases List.mem_append.1 h with h | h
  · rcases List.mem_append.1 h with h | h
    · exact List.mem_of_mem_take h
    · exact List.mem_of_mem_take (List.mem_of_mem_drop ((sortA_stab _).mem.1 h))
  · exact List.mem_of_mem_drop h
theorem mrgL_seg {l : List Ar} {a d p q : Nat} (h1 : a ≤ d) (h2 : d ≤ l.length) (h3 : d ≤ p) (h4 : p ≤ q) (h5 : q ≤ l.length) : ((mrgL l a d).take q).drop p = (l.take q).drop p := by
  have hlen := mrgL_len h1 h2
  apply List.ext_getElem?
  intro i
  rw [List.getElem?_drop, List.getElem?_drop]
  by_cases hi : p + i < q
  · rw [List.getElem?_take_of_lt hi, List.getElem?_take_of_lt hi]
    have hA : (l.take a ++ sortA ((l.take d).drop a)).length = d := by
      have hl := (List.mergeSort_perm ((l.take d).drop a) geA).length_eq
      have h3 := seg_len l h1 h2
      unfold sortA
      rw [List.length_append, hl, h3, List.length_take]
      omega
    rw [mrgL, List.getElem?_append_right (by omega), hA, List.getElem?_drop, show d + (p + i - d) = p + i by omega]
  · rw [List.getElem?_eq_none (by rw [List.length_take]; omega), List.getElem?_eq_none (by rw [List.length_take]; omega)]
theorem turned_seg (l : List Ar) {a s m e b d : Nat} (h1 : a ≤ s) (h2 : s ≤ m) (h3 : m ≤ e) (h4 : e ≤ b) (h5 : b ≤ l.length) (hd : d + m = s + e) :
    (turned l s m e).length = l.length ∧ ((turned l s m e).take s).drop a = (l.take s).drop a ∧ ((turned l s m e).take d).drop s = (l.take e).drop m ∧ ((turned l s m e).take e).drop d = (l.take m).drop s ∧ ((turned l s m e).take b).drop e = (l.take b).drop e ∧ ∀ x, x ∈ turned l s m e → x ∈ l := by
  have hp := parts5 l h1 h2 h3 h4 h5
  have ht := turned_is l h1 h2 h3 h4 h5
  have hP : (l.take a).length = a := by rw [List.length_take]; omega
  have l1 := seg_len l h1 (show s ≤ l.length by omega)
  have l2 := seg_len l h2 (show m ≤ l.length by omega)
  have l3 := seg_len l h3 (show e ≤ l.length by omega)
  have l4 := seg_len l h4 h5
  have l5 : (l.drop b).length = l.length - b := List.length_drop
  generalize l.take a = P at *
  generalize (l.take s).drop a = A1 at *
  generalize (l.take m).drop s = A2 at *
  generalize (l.take e).drop m = B1 at *
  generalize (l.take b).drop e = B2 at *
  generalize l.drop b = Q at *
  rw [ht]
  refine ⟨?_, ?_, ?_, ?_, ?_, fun x hx => ?_⟩
  · rw [hp]; simp only [List.length_append]; omega
  · have := seg_app P A1 (B1 ++ A2 ++ B2 ++ Q) (a := a) (b := s) hP.symm (by omega)
    simpa only [List.append_assoc] using this
  · have := seg_app (P ++ A1) B1 (A2 ++ B2 ++ Q) (a := s) (b := d) (by rw [List.length_append]; omega) (by omega)
    simpa only [List.append_assoc] using this
  · have := seg_app (P ++ A1 ++ B1) A2 (B2 ++ Q) (a := d) (b := e) (by simp only [List.length_append]; omega) (by omega)
    simpa only [List.append_assoc] using this
  · have := seg_app (P ++ A1 ++ B1 ++ A2) B2 Q (a := e) (b := b) (by simp only [List.length_append]; omega) (by omega)
    simpa only [List.append_assoc] using this
  · rw [hp]
    simp only [List.mem_append] at hx ⊢
    rcases hx with ((((hx | hx) | hx) | hx) | hx) | hx <;> simp [hx]
end Go.Proofs.YtmidechdlbcepaaGreat.AS