import Derived.Test.YtmidechdlbcepaaGreatPack29
import Derived.Test.YtmidechdlbcepaaGreatPack22
import Derived.Test.YtmidechdlbcepaaGreatPack23
set_option linter.unusedSimpArgs false
set_option linter.unusedVariables false
namespace Go.Proofs.YtmidechdlbcepaaGreat
open Go.RowKit
set_option maxRecDepth 100000

theorem mrg_back {l : List Ac} {a m i : Nat} {y : Ac} (hy : l[m]? = some y) (h1 : a ≤ i) (h2 : i ≤ m) (ho : ((l.take m).drop a).Pairwise fun x y => y.prio ≤ x.prio) (p1 : ∀ k x, a ≤ k → k < i → l[k]? = some x → ¬ cmpA y x < 0) (p2 : ∀ k x, i ≤ k → k < m → l[k]? = some x → cmpA y x < 0) : mvB l m (m - i) = mrgL l a (m + 1) := by
  have hlt := (List.getElem?_eq_some_iff.1 hy).1
  have e1 := split3 (l := l) (a := a) (b := i) (c := m) h1 h2
  have hP : (l.take a).length = a := by rw [List.length_take]; omega
  have hA : ((l.take m).drop a).length = m - a := by rw [List.length_drop, List.length_take]; omega
  have hA2 : ((l.take m).drop i).length = m - i := by rw [List.length_drop, List.length_take]; omega
  have e3 : (l.take (m + 1)).drop a = (l.take m).drop a ++ [y] := by
    rw [List.take_add_one, hy, List.drop_append_of_le_length (by rw [List.length_take]; omega)]
    rfl
  have e2 : l = l.take a ++ (l.take m).drop a ++ y :: l.drop (m + 1) := by
    have h3 : l.take m = l.take a ++ (l.take m).drop a := by
      have := List.take_append_drop a (l.take m)
      rw [List.take_take, Nat.min_eq_left (by omega)] at this
      exact this.symm
    have h4 := List.take_append_drop m l
    rw [List.drop_eq_getElem_cons hlt, (List.getElem?_eq_some_iff.1 hy).2] at h4
    rw [← h3]
    exact h4.symm
  have := mvB_sort (P := l.take a) (A1 := (l.take i).drop a) (A2 := (l.take m).drop i) (Q := l.drop (m + 1)) (y := y) (by rw [← e1]; exact ho) (fun x hx => by
    obtain ⟨k, k1, k2, k3⟩ := seg_mem hx
    exact p1 k x k1 k2 k3) (fun x hx => by
    obtain ⟨k, k1, k2, k3⟩ := seg_mem hx
    exact p2 k x k1 k2 k3)
  rw [← e1, ← e2, hP, hA, hA2, show a + (m - a) = m by omega] at this
  rw [this, mrgL, e3]
set_option maxHeartbeats 8000000 in
theorem symMerge2_T (l : List Ac) (a m : Nat) (hr : ∀ x ∈ l, AcR x) (ha : a + 1 < m) (hb : m + 1 ≤ l.length) (hl : l.length ≤ 40) (ho : ((l.take m).drop a).Pairwise fun x y => y.prio ≤ x.prio) : FunO Tryz.prog 172 [.osl 1000, .fv (.int .i64 a), .fv (.int .i64 m), .fv (.int .i64 (m + 1 : Nat)), .fn 133 []] [(1000, acRw l)] (.tup []) [(1000, acRw (mrgL l a (m + 1)))] := by
  refine FunO.bodyL tbl_ok Tryz.func172 rfl (by kernel_rfl) rfl rfl rfl ?_
  unfold acRw
  rw [show ((m + 1 : Nat) : Int) = (m : Int) + 1 by omega]
  obtain ⟨y, hy⟩ : ∃ y, l[m]? = some y := ⟨_, List.getElem?_eq_getElem (by omega)⟩
  have hyr := hr y (List.mem_of_getElem? hy)
  have hmg := fun i => @mrg_back l a m i y hy
  repeat' (first | refine X.loc ?_ | refine nx ?_ | refine X.cdT ?_ | refine X.cdF ?_ | (refine WP.condBit rfl ?_ ?_) | (refine WP.cond rfl ?_ ?_ <;> intro hcond) | refine rb ?_ | refine nd ?_ | refine dk ?_ | fail)
  refine WP.loop (ι := Nat × Nat) (fun q => ⟨[(0, .osl 1000), (1, .fv (.int .i64 a)), (2, .fv (.int .i64 m)), (3, .fv (.int .i64 ((m : Int) + 1))), (4, .fn 133 []), (14, .fv (.int .i64 q.1)), (15, .fv (.int .i64 q.2))], [(1000, .row 38 9 l.length ((l.flatMap encAc).map .fv))]⟩) (fun q => a ≤ q.1 ∧ q.1 ≤ q.2 ∧ q.2 ≤ m ∧ (∀ k x, a ≤ k → k < q.1 → l[k]? = some x → ¬ cmpA y x < 0) ∧ (∀ k x, q.2 ≤ k → k < m → l[k]? = some x → cmpA y x < 0)) (fun q => q.2 - q.1) (a, m) ⟨by dsimp only; omega, by dsimp only; omega, by dsimp only; omega, fun k y h1 h2 => by dsimp only at h2; omega, fun k y h1 h2 => by dsimp only at h1; omega⟩ ?_ ?_
  · try dsimp only
    refine St.to [] [] rfl rfl ?_ ?_ <;> (repeat' (first | exact tA | refine t1 ?_ | exact tB | refine t2 ?_ ?_ | refine t3 ?_ | refine t4 ?_ ?_ | refine .ofEq ?_ | refine OB.To.cut rfl rfl ?_ ?_ ?_ ?_ | refine OB.To.box rfl rfl ?_ | refine ⟨⟨_, rfl, ?_⟩, ?_⟩ | refine ⟨?_, ?_⟩ | fail))
  rintro ⟨i, j⟩ ⟨g1, g2, g3, g4, g5⟩
  try dsimp only at g1 g2 g3 g4 g5
  try dsimp only
  by_cases hij : i < j
  case pos =>
    obtain ⟨x, hx⟩ : ∃ x, l[(i + j) / 2]? = some x := ⟨_, List.getElem?_eq_getElem (by omega)⟩
    have hc := cmpA_T y x hyr (hr x (List.mem_of_getElem? hx))
    by_cases hlt : cmpA y x < 0
    · have g5' : ∀ k z, (i + j) / 2 ≤ k → k < m → l[k]? = some z → cmpA y z < 0 := fun k z k1 k2 hz => by
        have h3 := ord_at ho (show a ≤ (i + j) / 2 by omega) k1 k2 hx hz
        unfold cmpA at hlt ⊢
        omega
      generalize cmpA y x = o at *
      repeat' (first | (apply X.loE; (· exact aR); (· first | (exact .eff (.loadO rfl rfl (readAl (i := (i + j) / 2) (by omega) hx))) | (exact .eff (.loadO rfl rfl (readAl (i := m) (by omega) hy))) | (exact .eff (.toU rfl rfl rfl (by omega) (by omega))) | (exact .eff (.toI rfl rfl rfl (by omega) (by omega))) | (exact .eff (.half rfl rfl)) | exact .callL rfl rfl rfl (hc) rfl | exact bl (hc))) | refine X.loc ?_ | refine nx ?_ | refine X.cdT ?_ | refine X.cdF ?_ | (refine WP.condBit rfl ?_ ?_) | (refine WP.cond rfl ?_ ?_ <;> intro hcond) | (apply X.gsE; (· exact aR); (· exact aV); (· exact aW); (· intro hc; first | (exact .eff (.loadO rfl rfl (readAl (i := (i + j) / 2) (by omega) hx))) | (exact .eff (.loadO rfl rfl (readAl (i := m) (by omega) hy))) | (exact .eff (.toU rfl rfl rfl (by omega) (by omega))) | (exact .eff (.toI rfl rfl rfl (by omega) (by omega))) | (exact .eff (.half rfl rfl)) | exact .callG rfl rfl rfl (hc) rfl | exact bg (hc)); (· exact aR)) | refine rb ?_ | refine nd ?_ | refine dk ?_ | fail)
      all_goals try (exfalso; simp at hcond; omega)
      refine ⟨(i, (i + j) / 2), ⟨g1, by dsimp only; omega, by dsimp only; omega, g4, g5'⟩, by dsimp only; omega, ?_⟩
      try dsimp only
      rw [show (((i + j) / 2 : Nat) : Int) = ((i : Int) + (j : Int)) / 2 by omega]
      refine St.to [] [] rfl rfl ?_ ?_ <;> (repeat' (first | exact tA | refine t1 ?_ | exact tB | refine t2 ?_ ?_ | refine t3 ?_ | refine t4 ?_ ?_ | refine .ofEq ?_ | refine OB.To.cut rfl rfl ?_ ?_ ?_ ?_ | refine OB.To.box rfl rfl ?_ | refine ⟨⟨_, rfl, ?_⟩, ?_⟩ | refine ⟨?_, ?_⟩ | fail))
    · have g4' : ∀ k z, a ≤ k → k < (i + j) / 2 + 1 → l[k]? = some z → ¬ cmpA y z < 0 := fun k z k1 k2 hz => by
        have h3 := ord_at ho k1 (show k ≤ (i + j) / 2 by omega) (by omega) hz hx
        unfold cmpA at hlt ⊢
        omega
      generalize cmpA y x = o at *
      repeat' (first | (apply X.loE; (· exact aR); (· first | (exact .eff (.loadO rfl rfl (readAl (i := (i + j) / 2) (by omega) hx))) | (exact .eff (.loadO rfl rfl (readAl (i := m) (by omega) hy))) | (exact .eff (.toU rfl rfl rfl (by omega) (by omega))) | (exact .eff (.toI rfl rfl rfl (by omega) (by omega))) | (exact .eff (.half rfl rfl)) | exact .callL rfl rfl rfl (hc) rfl | exact bl (hc))) | refine X.loc ?_ | refine nx ?_ | refine X.cdT ?_ | refine X.cdF ?_ | (refine WP.condBit rfl ?_ ?_) | (refine WP.cond rfl ?_ ?_ <;> intro hcond) | (apply X.gsE; (· exact aR); (· exact aV); (· exact aW); (· intro hc; first | (exact .eff (.loadO rfl rfl (readAl (i := (i + j) / 2) (by omega) hx))) | (exact .eff (.loadO rfl rfl (readAl (i := m) (by omega) hy))) | (exact .eff (.toU rfl rfl rfl (by omega) (by omega))) | (exact .eff (.toI rfl rfl rfl (by omega) (by omega))) | (exact .eff (.half rfl rfl)) | exact .callG rfl rfl rfl (hc) rfl | exact bg (hc)); (· exact aR)) | refine rb ?_ | refine nd ?_ | refine dk ?_ | fail)
      all_goals try (exfalso; simp at hcond; omega)
      refine ⟨((i + j) / 2 + 1, j), ⟨by dsimp only; omega, by dsimp only; omega, g3, g4', g5⟩, by dsimp only; omega, ?_⟩
      try dsimp only
      rw [show (((i + j) / 2 + 1 : Nat) : Int) = ((i : Int) + (j : Int)) / 2 + 1 by omega]
      refine St.to [] [] rfl rfl ?_ ?_ <;> (repeat' (first | exact tA | refine t1 ?_ | exact tB | refine t2 ?_ ?_ | refine t3 ?_ | refine t4 ?_ ?_ | refine .ofEq ?_ | refine OB.To.cut rfl rfl ?_ ?_ ?_ ?_ | refine OB.To.box rfl rfl ?_ | refine ⟨⟨_, rfl, ?_⟩, ?_⟩ | refine ⟨?_, ?_⟩ | fail))
  case neg =>
    obtain rfl : i = j := by omega
    have hm := hmg i g1 g3 ho g4 g5
    have hml := mvB_len l m
    repeat' (first | refine X.loc ?_ | refine nx ?_ | refine X.cdT ?_ | refine X.cdF ?_ | (refine WP.condBit rfl ?_ ?_) | (refine WP.cond rfl ?_ ?_ <;> intro hcond) | refine rb ?_ | refine nd ?_ | refine dk ?_ | fail)
    refine WP.loop (ι := Nat) (fun t => ⟨[(0, .osl 1000), (14, .fv (.int .i64 i)), (17, .fv (.int .i64 ((m : Int) - (t : Int))))], [(1000, .row 38 9 (mvB l m t).length (((mvB l m t).flatMap encAc).map .fv))]⟩) (fun t => t ≤ m - i) (fun t => m - i - t) 0 (by omega) ?_ ?_
    · try dsimp only
      rw [show mvB l m 0 = l from rfl, show (m : Int) - ((0 : Nat) : Int) = (m : Int) by omega]
      refine St.to [] [] rfl rfl ?_ ?_ <;> (repeat' (first | exact tA | refine t1 ?_ | exact tB | refine t2 ?_ ?_ | refine t3 ?_ | refine t4 ?_ ?_ | refine .ofEq ?_ | refine OB.To.cut rfl rfl ?_ ?_ ?_ ?_ | refine OB.To.box rfl rfl ?_ | refine ⟨⟨_, rfl, ?_⟩, ?_⟩ | refine ⟨?_, ?_⟩ | fail))
    rintro t ht
    try dsimp only
    by_cases htl : t < m - i
    case neg =>
      obtain rfl : t = m - i := by omega
      rw [hm]
      generalize mrgL l a (m + 1) = R at *
      rw [show ((m - i : Nat) : Int) = (m : Int) - (i : Int) by omega]
      repeat' (first | refine X.loc ?_ | refine nx ?_ | refine X.cdT ?_ | refine X.cdF ?_ | (refine WP.condBit rfl ?_ ?_) | (refine WP.cond rfl ?_ ?_ <;> intro hcond) | refine rb ?_ | refine nd ?_ | refine dk ?_ | fail)
      refine .ofL (s' := ⟨[], [(1000, .row 38 9 R.length ((R.flatMap encAc).map .fv))]⟩) (by first | exact .inl rfl | exact .inr rfl) ?_ rfl rfl (by repeat' (first | exact trivial | refine ⟨⟨_, rfl, fun _ _ _ _ h => h⟩, ?_⟩))
      refine St.to [] [] rfl rfl ?_ ?_ <;> (repeat' (first | exact tA | refine t1 ?_ | exact tB | refine t2 ?_ ?_ | refine t3 ?_ | refine t4 ?_ ?_ | refine .ofEq ?_ | refine OB.To.cut rfl rfl ?_ ?_ ?_ ?_ | refine OB.To.box rfl rfl ?_ | refine ⟨⟨_, rfl, ?_⟩, ?_⟩ | refine ⟨?_, ?_⟩ | fail))
    case pos =>
      have h1 := hml t
      have hs : mvB l m (t + 1) = swp (mvB l m t) (m - t) (m - t - 1) := rfl
      generalize mvB l m t = R at *
      obtain ⟨u, hu⟩ : ∃ u, R[m - t]? = some u := ⟨_, List.getElem?_eq_getElem (by omega)⟩
      obtain ⟨v, hv⟩ : ∃ v, R[m - t - 1]? = some v := ⟨_, List.getElem?_eq_getElem (by omega)⟩
      rw [swp, hu, hv] at hs
      try dsimp only at hs
      have s1 := setAl (l := R) (i := m - t) (off := ((m : Int) - (t : Int)).toNat * 9) (x := v) (by omega) (by omega)
      have s2 := setAl (l := R.set (m - t) v) (i := m - t - 1) (off := ((m : Int) - (t : Int) - 1).toNat * 9) (x := u) (by omega) (by rw [List.length_set]; omega)
      repeat' (first | (apply X.loE; (· exact aR); (· first | (exact .eff (.loadO rfl rfl (readAl (i := m - t) (by omega) hu))) | (exact .eff (.loadO rfl rfl (readAl (i := m - t - 1) (by omega) hv))))) | refine X.loc ?_ | (apply X.stRE; (· exact aS); (· exact s1); (· exact aE)) | (apply X.stRE; (· exact aS); (· exact s2); (· exact aE)) | refine nx ?_ | refine X.cdT ?_ | refine X.cdF ?_ | (refine WP.condBit rfl ?_ ?_) | (refine WP.cond rfl ?_ ?_ <;> intro hcond) | (apply X.gsE; (· exact aR); (· exact aV); (· exact aW); (· intro hc; first | (exact .eff (.loadO rfl rfl (readAl (i := m - t) (by omega) hu))) | (exact .eff (.loadO rfl rfl (readAl (i := m - t - 1) (by omega) hv)))); (· exact aR)) | refine rb ?_ | refine nd ?_ | refine dk ?_ | fail)
      refine ⟨t + 1, by omega, by omega, ?_⟩
      try dsimp only
      rw [hs, show (m : Int) - ((t + 1 : Nat) : Int) = (m : Int) - (t : Int) - 1 by omega]
      refine St.to [] [] rfl rfl ?_ ?_ <;> (repeat' (first | exact tA | refine t1 ?_ | exact tB | refine t2 ?_ ?_ | refine t3 ?_ | refine t4 ?_ ?_ | refine .ofEq ?_ | refine OB.To.cut rfl rfl ?_ ?_ ?_ ?_ | refine OB.To.box rfl rfl ?_ | refine ⟨⟨_, rfl, ?_⟩, ?_⟩ | refine ⟨?_, ?_⟩ | fail))
      all_goals first | omega | (simp; done)
end Go.Proofs.YtmidechdlbcepaaGreat

namespace Go.Proofs.YtmidechdlbcepaaGreat
open Go.RowKit
set_option maxRecDepth 100000

theorem mrgL_app (P S Q : List Ac) : mrgL (P ++ S ++ Q) P.length (P.length + S.length) = P ++ sortA S ++ Q := by
  have e1 : (P ++ S ++ Q).take P.length = P := by rw [List.append_assoc, List.take_left]
  have e2 : (P ++ S ++ Q).take (P.length + S.length) = P ++ S := by rw [← List.length_append, List.take_left]
  have e3 : (P ++ S ++ Q).drop (P.length + S.length) = Q := by rw [← List.length_append, List.drop_left]
  rw [mrgL, e1, e2, e3, List.drop_left]
theorem part3 (l : List Ac) {a b : Nat} (h1 : a ≤ b) (h2 : b ≤ l.length) : l = l.take a ++ (l.take b).drop a ++ l.drop b := by
  have h3 : l.take b = l.take a ++ (l.take b).drop a := by
    have := List.take_append_drop a (l.take b)
    rw [List.take_take, Nat.min_eq_left h1] at this
    exact this.symm
  have h4 := List.take_append_drop b l
  rw [h3] at h4
  exact h4.symm
theorem seg_len (l : List Ac) {a b : Nat} (h1 : a ≤ b) (h2 : b ≤ l.length) : ((l.take b).drop a).length = b - a := by rw [List.length_drop, List.length_take]; omega
theorem sym_split {P A1 A2 B1 B2 Q : List Ac} (h1 : ∀ x ∈ A1, ∀ y ∈ B2, y.prio ≤ x.prio) (h2 : ∀ x ∈ A1, ∀ y ∈ A2, y.prio ≤ x.prio) (h3 : ∀ x ∈ B1, ∀ y ∈ A2, y.prio < x.prio) (h4 : ∀ x ∈ B1, ∀ y ∈ B2, y.prio ≤ x.prio) {a d b : Nat} (ha : a = P.length) (hd : d = a + (A1.length + B1.length)) (hb : b = d + (A2.length + B2.length)) :
    mrgL (mrgL (P ++ A1 ++ B1 ++ A2 ++ B2 ++ Q) a d) d b = mrgL (P ++ A1 ++ A2 ++ B1 ++ B2 ++ Q) a b := by
  subst ha hd hb
  have hl : ∀ S : List Ac, (sortA S).length = S.length := fun S => (List.mergeSort_perm S geA).length_eq
  have s1 := mrgL_app P (A1 ++ B1) (A2 ++ B2 ++ Q)
  have s2 := mrgL_app (P ++ sortA (A1 ++ B1)) (A2 ++ B2) Q
  have s3 := mrgL_app P (A1 ++ A2 ++ (B1 ++ B2)) Q
  rw [← sortA_split h1 h2 h3 h4] at s3
  have l3 : P.length + (A1 ++ A2 ++ (B1 ++ B2)).length = P.length + (A1.length + B1.length) + (A2.length + B2.length) := by
    simp only [List.length_append]
    omega
  have l2 : (P ++ sortA (A1 ++ B1)).length = P.length + (A1.length + B1.length) := by rw [List.length_append, hl, List.length_append]
  rw [l3] at s3
  rw [l2] at s2
  simp only [List.length_append] at s1 s2
  simp only [List.append_assoc] at s1 s2 s3 ⊢
  rw [s1, s2, s3]
end Go.Proofs.YtmidechdlbcepaaGreat

namespace Go.Proofs.YtmidechdlbcepaaGreat
open Go.RowKit
set_option maxRecDepth 100000

def turned (l : List Ac) (s m e : Nat) : List Ac := if s < m ∧ m < e then rotL l m (m - s) (e - m) else l
theorem parts5 (l : List Ac) {a s m e b : Nat} (h1 : a ≤ s) (h2 : s ≤ m) (h3 : m ≤ e) (h4 : e ≤ b) (h5 : b ≤ l.length) :
    l = l.take a ++ (l.take s).drop a ++ (l.take m).drop s ++ (l.take e).drop m ++ (l.take b).drop e ++ l.drop b := by
  have p1 := part3 l (a := a) (b := b) (by omega) h5
  have p2 := split3 (l := l) (a := a) (b := s) (c := b) h1 (by omega)
  have p3 := split3 (l := l) (a := s) (b := m) (c := b) h2 (by omega)
  have p4 := split3 (l := l) (a := m) (b := e) (c := b) h3 h4
  rw [p2, p3, p4] at p1
  simpa only [List.append_assoc] using p1
theorem turned_is (l : List Ac) {a s m e b : Nat} (h1 : a ≤ s) (h2 : s ≤ m) (h3 : m ≤ e) (h4 : e ≤ b) (h5 : b ≤ l.length) :
    turned l s m e = l.take a ++ (l.take s).drop a ++ (l.take e).drop m ++ (l.take m).drop s ++ (l.take b).drop e ++ l.drop b := by
  have hp := parts5 l h1 h2 h3 h4 h5
  have hP : (l.take a).length = a := by rw [List.length_take]; omega
  have l1 := seg_len l h1 (show s ≤ l.length by omega)
  have l2 := seg_len l h2 (show m ≤ l.length by omega)
  have l3 := seg_len l h3 (show e ≤ l.length by omega)
  generalize l.take a = P at *
  generalize (l.take s).drop a = A1 at *
  generalize (l.take m).drop s = A2 at *
  generalize (l.take e).drop m = B1 at *
  generalize (l.take b).drop e = B2 at *
  generalize l.drop b = Q at *
  unfold turned
  by_cases h : s < m ∧ m < e
  · rw [if_pos h]
    have hr := rotL_is _ (P ++ A1) A2 B1 (B2 ++ Q) rfl (by omega) (by omega)
    rw [List.length_append, l2, l3, show P.length + A1.length + (m - s) = m by omega] at hr
    rw [hp]
    simp only [List.append_assoc] at hr ⊢
    exact hr
  · rw [if_neg h]
    have : A2 = [] ∨ B1 = [] := by
      rcases Nat.lt_or_ge s m with h6 | h6
      · right
        exact List.eq_nil_of_length_eq_zero (by omega)
      · left
        exact List.eq_nil_of_length_eq_zero (by omega)
    rw [hp]
    rcases this with rfl | rfl <;> simp
theorem sym_end {l : List Ac} {a s m e b d : Nat} (h1 : a ≤ s) (h2 : s ≤ m) (h3 : m ≤ e) (h4 : e ≤ b) (h5 : b ≤ l.length) (hd : d + m = s + e) (oA : ((l.take m).drop a).Pairwise fun x y => y.prio ≤ x.prio) (oB : ((l.take b).drop m).Pairwise fun x y => y.prio ≤ x.prio)
    (c1 : s = a ∨ e = b ∨ ∃ x y, l[s - 1]? = some x ∧ l[e]? = some y ∧ ¬ cmpA y x < 0) (c2 : s = m ∨ e = m ∨ ∃ x y, l[s]? = some x ∧ l[e - 1]? = some y ∧ cmpA y x < 0) :
    mrgL (mrgL (turned l s m e) a d) d b = mrgL l a b := by
  have hp := parts5 l h1 h2 h3 h4 h5
  have ht := turned_is l h1 h2 h3 h4 h5
  have hP : (l.take a).length = a := by rw [List.length_take]; omega
  have l1 := seg_len l h1 (show s ≤ l.length by omega)
  have l2 := seg_len l h2 (show m ≤ l.length by omega)
  have l3 := seg_len l h3 (show e ≤ l.length by omega)
  have l4 := seg_len l h4 h5
  have hs := sym_split (P := l.take a) (A1 := (l.take s).drop a) (A2 := (l.take m).drop s) (B1 := (l.take e).drop m) (B2 := (l.take b).drop e) (Q := l.drop b) (a := a) (d := d) (b := b)
    (fun x hx y hy => by
      obtain ⟨i, i1, i2, i3⟩ := seg_mem hx
      obtain ⟨j, j1, j2, j3⟩ := seg_mem hy
      rcases c1 with c | c | ⟨u, v, hu, hv, huv⟩
      · omega
      · omega
      · have g1 := ord_at oA i1 (show i ≤ s - 1 by omega) (by omega) i3 hu
        have g2 := ord_at oB (show m ≤ e by omega) j1 j2 hv j3
        unfold cmpA at huv
        omega)
    (fun x hx y hy => by
      obtain ⟨i, i1, i2, i3⟩ := seg_mem hx
      obtain ⟨j, j1, j2, j3⟩ := seg_mem hy
      exact ord_at oA i1 (by omega) j2 i3 j3)
    (fun x hx y hy => by
      obtain ⟨i, i1, i2, i3⟩ := seg_mem hx
      obtain ⟨j, j1, j2, j3⟩ := seg_mem hy
      rcases c2 with c | c | ⟨u, v, hu, hv, huv⟩
      · omega
      · omega
      · have g1 := ord_at oB i1 (show i ≤ e - 1 by omega) (by omega) i3 hv
        have g2 := ord_at oA h1 j1 j2 hu j3
        unfold cmpA at huv
        omega)
    (fun x hx y hy => by
      obtain ⟨i, i1, i2, i3⟩ := seg_mem hx
      obtain ⟨j, j1, j2, j3⟩ := seg_mem hy
      exact ord_at oB i1 (by omega) j2 i3 j3) hP.symm (by omega) (by omega)
  rw [← hp, ← ht] at hs
  exact hs
end Go.Proofs.YtmidechdlbcepaaGreat

namespace Go.Proofs.YtmidechdlbcepaaGreat
open Go.RowKit
set_option maxRecDepth 100000

theorem seg_app (P S Q : List Ac) {a b : Nat} (ha : a = P.length) (hb : b = a + S.length) : ((P ++ S ++ Q).take b).drop a = S := by
  subst ha hb
  rw [← List.length_append, List.take_left, List.drop_left]
theorem mrgL_id {l : List Ac} {a b : Nat} (h1 : a ≤ b) (h2 : b ≤ l.length) (h : ((l.take b).drop a).Pairwise fun x y => y.prio ≤ x.prio) : mrgL l a b = l := by
  rw [mrgL, sortA_id h]
  exact (part3 l h1 h2).symm
theorem mrgL_len {l : List Ac} {a b : Nat} (h1 : a ≤ b) (h2 : b ≤ l.length) : (mrgL l a b).length = l.length := by
  have hl := (List.mergeSort_perm ((l.take b).drop a) geA).length_eq
  have h3 := seg_len l h1 h2
  unfold mrgL sortA
  simp only [List.length_append, List.length_take, List.length_drop] at *
  omega
theorem mrgL_mem {l : List Ac} {a b : Nat} {x : Ac} (h : x ∈ mrgL l a b) : x ∈ l := by
  unfold mrgL at h
  rcases List.mem_append.1 h with h | h
  · rcases List.mem_append.1 h with h | h
    · exact List.mem_of_mem_take h
    · exact List.mem_of_mem_take (List.mem_of_mem_drop ((sortA_stab _).mem.1 h))
  · exact List.mem_of_mem_drop h
theorem mrgL_seg {l : List Ac} {a d p q : Nat} (h1 : a ≤ d) (h2 : d ≤ l.length) (h3 : d ≤ p) (h4 : p ≤ q) (h5 : q ≤ l.length) : ((mrgL l a d).take q).drop p = (l.take q).drop p := by
  have hlen := mrgL_len h1 h2
  apply List.ext_getElem?
  intro i
  rw [List.getElem?_drop, List.getElem?_drop]
  by_cases hi : p + i < q
  · rw [List.getElem?_take_of_lt hi, List.getElem?_take_of_lt hi]
    have hA : (l.take a ++ sortA ((l.take d).drop a)).length = d := by
      have hl := (List.mergeSort_perm ((l.take d).drop a) geA).length_eq
      have h3 := seg_len l h1 h2
      unfold sortA
      rw [List.length_append, hl, h3, List.length_take]
      omega
    rw [mrgL, List.getElem?_append_right (by omega), hA, List.getElem?_drop, show d + (p + i - d) = p + i by omega]
  · rw [List.getElem?_eq_none (by rw [List.length_take]; omega), List.getElem?_eq_none (by rw [List.length_take]; omega)]
theorem turned_seg (l : List Ac) {a s m e b d : Nat} (h1 : a ≤ s) (h2 : s ≤ m) (h3 : m ≤ e) (h4 : e ≤ b) (h5 : b ≤ l.length) (hd : d + m = s + e) :
    (turned l s m e).length = l.length ∧ ((turned l s m e).take s).drop a = (l.take s).drop a ∧ ((turned l s m e).take d).drop s = (l.take e).drop m ∧ ((turned l s m e).take e).drop d = (l.take m).drop s ∧ ((turned l s m e).take b).drop e = (l.take b).drop e ∧ ∀ x, x ∈ turned l s m e → x ∈ l := by
  have hp := parts5 l h1 h2 h3 h4 h5
  have ht := turned_is l h1 h2 h3 h4 h5
  have hP : (l.take a).length = a := by rw [List.length_take]; omega
  have l1 := seg_len l h1 (show s ≤ l.length by omega)
  have l2 := seg_len l h2 (show m ≤ l.length by omega)
  have l3 := seg_len l h3 (show e ≤ l.length by omega)
  have l4 := seg_len l h4 h5
  have l5 : (l.drop b).length = l.length - b := List.length_drop
  generalize l.take a = P at *
  generalize (l.take s).drop a = A1 at *
  generalize (l.take m).drop s = A2 at *
  generalize (l.take e).drop m = B1 at *
  generalize (l.take b).drop e = B2 at *
  generalize l.drop b = Q at *
  rw [ht]
  refine ⟨?_, ?_, ?_, ?_, ?_, fun x hx => ?_⟩
  · rw [hp]; simp only [List.length_append]; omega
  · have := seg_app P A1 (B1 ++ A2 ++ B2 ++ Q) (a := a) (b := s) hP.symm (by omega)
    simpa only [List.append_assoc] using this
  · have := seg_app (P ++ A1) B1 (A2 ++ B2 ++ Q) (a := s) (b := d) (by rw [List.length_append]; omega) (by omega)
    simpa only [List.append_assoc] using this
  · have := seg_app (P ++ A1 ++ B1) A2 (B2 ++ Q) (a := d) (b := e) (by simp only [List.length_append]; omega) (by omega)
    simpa only [List.append_assoc] using this
  · have := seg_app (P ++ A1 ++ B1 ++ A2) B2 Q (a := e) (b := b) (by simp only [List.length_append]; omega) (by omega)
    simpa only [List.append_assoc] using this
  · rw [hp]
    simp only [List.mem_append] at hx ⊢
    rcases hx with ((((hx | hx) | hx) | hx) | hx) | hx <;> simp [hx]
end Go.Proofs.YtmidechdlbcepaaGreat

namespace Go.Proofs.YtmidechdlbcepaaGreat
open Go.RowKit
set_option maxRecDepth 100000

set_option maxHeartbeats 8000000 in
theorem symMerge_T : ∀ (n : Nat) (l : List Ac) (a m b : Nat), b - a = n → (∀ x ∈ l, AcR x) → a < m → m < b → b ≤ l.length → l.length ≤ 40 → ((l.take m).drop a).Pairwise (fun x y => y.prio ≤ x.prio) → ((l.take b).drop m).Pairwise (fun x y => y.prio ≤ x.prio) →
    FunO Tryz.prog 172 [.osl 1000, .fv (.int .i64 a), .fv (.int .i64 m), .fv (.int .i64 b), .fn 133 []] [(1000, acRw l)] (.tup []) [(1000, acRw (mrgL l a b))] := by
  intro n
  induction n using Nat.strongRecOn with
  | _ n ih =>
    intro l a m b hn hr ham hmb hb hl oA oB
    by_cases k1 : m = a + 1
    · subst k1
      exact symMerge1_T l a b hr hmb hb hl oB
    by_cases k2 : b = m + 1
    · subst k2
      exact symMerge2_T l a m hr (by omega) hb hl oA
    obtain ⟨d, hd⟩ : ∃ d : Nat, d = (a + b) / 2 := ⟨_, rfl⟩
    have hdI : ((a : Int) + (b : Int)) / 2 = (d : Int) := by omega
    refine FunO.bodyL tbl_ok Tryz.func172 rfl (by kernel_rfl) rfl rfl rfl ?_
    unfold acRw
    repeat' (first | with_reducible refine WP.hold 140 ?_ | (apply X.loE; (· exact aR); (· first | (exact .eff (.toU rfl rfl rfl (by omega) (by omega))) | (exact .eff (.toI rfl rfl rfl (by omega) (by omega))) | (exact .eff (.half rfl rfl)))) | refine X.loc ?_ | refine nx ?_ | refine X.cdT ?_ | refine X.cdF ?_ | (refine WP.condBit rfl ?_ ?_) | (refine WP.cond rfl ?_ ?_ <;> intro hcond) | (apply X.gsE; (· exact aR); (· exact aV); (· exact aW); (· intro hc; first | (exact .eff (.toU rfl rfl rfl (by omega) (by omega))) | (exact .eff (.toI rfl rfl rfl (by omega) (by omega))) | (exact .eff (.half rfl rfl))); (· exact aR)) | refine rb ?_ | refine nd ?_ | refine dk ?_ | fail)
    all_goals (try apply Held.mk)
    refine WP.join (ι := Nat × Nat) (fun q => ⟨[(0, .osl 1000), (1, .fv (.int .i64 a)), (2, .fv (.int .i64 m)), (3, .fv (.int .i64 b)), (4, .fn 133 []), (18, .fv (.int .i64 d)), (19, .fv (.int .i64 ((d : Int) + (m : Int)))), (20, .fv (.int .i64 q.1)), (21, .fv (.int .i64 q.2))], [(1000, .row 38 9 l.length ((l.flatMap encAc).map .fv))]⟩) (fun q => (q.1 = a ∧ q.2 = m ∧ m ≤ d) ∨ (q.1 + b = d + m ∧ q.2 = d ∧ d < m)) ?_ ?_
    · by_cases hdm : d < m
      · skip
        repeat' (first | refine X.loc ?_ | refine nx ?_ | refine X.cdT ?_ | refine X.cdF ?_ | (refine WP.condBit rfl ?_ ?_) | (refine WP.cond rfl ?_ ?_ <;> intro hcond) | refine rb ?_ | refine nd ?_ | refine dk ?_ | fail)
        refine ⟨(d + m - b, d), .inr ⟨by dsimp only; omega, rfl, hdm⟩, ?_⟩
        try dsimp only
        rw [show ((d + m - b : Nat) : Int) = (d : Int) + (m : Int) - (b : Int) by omega, hdI]
        refine St.to [] [] rfl rfl ?_ ?_ <;> (repeat' (first | exact tA | refine t1 ?_ | exact tB | refine t2 ?_ ?_ | refine t3 ?_ | refine t4 ?_ ?_ | refine .ofEq ?_ | refine OB.To.cut rfl rfl ?_ ?_ ?_ ?_ | refine OB.To.box rfl rfl ?_ | refine ⟨⟨_, rfl, ?_⟩, ?_⟩ | refine ⟨?_, ?_⟩ | fail))
      · skip
        repeat' (first | refine X.loc ?_ | refine nx ?_ | refine X.cdT ?_ | refine X.cdF ?_ | (refine WP.condBit rfl ?_ ?_) | (refine WP.cond rfl ?_ ?_ <;> intro hcond) | refine rb ?_ | refine nd ?_ | refine dk ?_ | fail)
        refine ⟨(a, m), .inl ⟨rfl, rfl, by omega⟩, ?_⟩
        try dsimp only
        rw [hdI]
        refine St.to [] [] rfl rfl ?_ ?_ <;> (repeat' (first | exact tA | refine t1 ?_ | exact tB | refine t2 ?_ ?_ | refine t3 ?_ | refine t4 ?_ ?_ | refine .ofEq ?_ | refine OB.To.cut rfl rfl ?_ ?_ ?_ ?_ | refine OB.To.box rfl rfl ?_ | refine ⟨⟨_, rfl, ?_⟩, ?_⟩ | refine ⟨?_, ?_⟩ | fail))
    · rintro ⟨lo, hi⟩ hq
      try dsimp only at hq
      try dsimp only
      repeat' (first | refine X.loc ?_ | refine nx ?_ | refine X.cdT ?_ | refine X.cdF ?_ | (refine WP.condBit rfl ?_ ?_) | (refine WP.cond rfl ?_ ?_ <;> intro hcond) | refine rb ?_ | refine nd ?_ | refine dk ?_ | fail)
      refine WP.loop (ι := Nat × Nat) (fun q => ⟨[(0, .osl 1000), (1, .fv (.int .i64 a)), (2, .fv (.int .i64 m)), (3, .fv (.int .i64 b)), (4, .fn 133 []), (18, .fv (.int .i64 d)), (19, .fv (.int .i64 ((d : Int) + (m : Int)))), (22, .fv (.int .i64 ((d : Int) + (m : Int) - 1))), (20, .fv (.int .i64 q.1)), (21, .fv (.int .i64 q.2))], [(1000, .row 38 9 l.length ((l.flatMap encAc).map .fv))]⟩) (fun q => lo ≤ q.1 ∧ q.1 ≤ q.2 ∧ q.2 ≤ hi ∧ (∀ k x y, lo ≤ k → k < q.1 → l[k]? = some x → l[d + m - 1 - k]? = some y → ¬ cmpA y x < 0) ∧ (∀ k x y, q.2 ≤ k → k < hi → l[k]? = some x → l[d + m - 1 - k]? = some y → cmpA y x < 0)) (fun q => q.2 - q.1) (lo, hi) ⟨by dsimp only; omega, by dsimp only; omega, by dsimp only; omega, fun k x y h1 h2 => by dsimp only at h2; omega, fun k x y h1 h2 => by dsimp only at h1; omega⟩ ?_ ?_
      · try dsimp only
        refine St.to [] [] rfl rfl ?_ ?_ <;> (repeat' (first | exact tA | refine t1 ?_ | exact tB | refine t2 ?_ ?_ | refine t3 ?_ | refine t4 ?_ ?_ | refine .ofEq ?_ | refine OB.To.cut rfl rfl ?_ ?_ ?_ ?_ | refine OB.To.box rfl rfl ?_ | refine ⟨⟨_, rfl, ?_⟩, ?_⟩ | refine ⟨?_, ?_⟩ | fail))
      rintro ⟨i, j⟩ ⟨g1, g2, g3, g4, g5⟩
      try dsimp only at g1 g2 g3 g4 g5
      try dsimp only
      by_cases hij : i < j
      case pos =>
        obtain ⟨x, hx⟩ : ∃ x, l[(i + j) / 2]? = some x := ⟨_, List.getElem?_eq_getElem (by omega)⟩
        obtain ⟨y, hy⟩ : ∃ y, l[d + m - 1 - (i + j) / 2]? = some y := ⟨_, List.getElem?_eq_getElem (by omega)⟩
        have hc := cmpA_T y x (hr y (List.mem_of_getElem? hy)) (hr x (List.mem_of_getElem? hx))
        by_cases hlt : cmpA y x < 0
        · have g5' : ∀ k u v, (i + j) / 2 ≤ k → k < hi → l[k]? = some u → l[d + m - 1 - k]? = some v → cmpA v u < 0 := fun k u v k1 k2 hu hv => by
            have h3 := ord_at oA (show a ≤ (i + j) / 2 by omega) k1 (by omega) hx hu
            have h4 := ord_at oB (show m ≤ d + m - 1 - k by omega) (show d + m - 1 - k ≤ d + m - 1 - (i + j) / 2 by omega) (by omega) hv hy
            unfold cmpA at hlt ⊢
            omega
          generalize cmpA y x = o at *
          repeat' (first | (apply X.loE; (· exact aR); (· first | (exact .eff (.loadO rfl rfl (readAl (i := (i + j) / 2) (by omega) hx))) | (exact .eff (.loadO rfl rfl (readAl (i := d + m - 1 - (i + j) / 2) (by omega) hy))) | (exact .eff (.toU rfl rfl rfl (by omega) (by omega))) | (exact .eff (.toI rfl rfl rfl (by omega) (by omega))) | (exact .eff (.half rfl rfl)) | exact .callL rfl rfl rfl (hc) rfl | exact bl (hc))) | refine X.loc ?_ | refine nx ?_ | refine X.cdT ?_ | refine X.cdF ?_ | (refine WP.condBit rfl ?_ ?_) | (refine WP.cond rfl ?_ ?_ <;> intro hcond) | (apply X.gsE; (· exact aR); (· exact aV); (· exact aW); (· intro hc; first | (exact .eff (.loadO rfl rfl (readAl (i := (i + j) / 2) (by omega) hx))) | (exact .eff (.loadO rfl rfl (readAl (i := d + m - 1 - (i + j) / 2) (by omega) hy))) | (exact .eff (.toU rfl rfl rfl (by omega) (by omega))) | (exact .eff (.toI rfl rfl rfl (by omega) (by omega))) | (exact .eff (.half rfl rfl)) | exact .callG rfl rfl rfl (hc) rfl | exact bg (hc)); (· exact aR)) | refine rb ?_ | refine nd ?_ | refine dk ?_ | fail)
          all_goals try (exfalso; simp at hcond; omega)
          refine ⟨(i, (i + j) / 2), ⟨g1, by dsimp only; omega, by dsimp only; omega, g4, g5'⟩, by dsimp only; omega, ?_⟩
          try dsimp only
          rw [show (((i + j) / 2 : Nat) : Int) = ((i : Int) + (j : Int)) / 2 by omega]
          refine St.to [] [] rfl rfl ?_ ?_ <;> (repeat' (first | exact tA | refine t1 ?_ | exact tB | refine t2 ?_ ?_ | refine t3 ?_ | refine t4 ?_ ?_ | refine .ofEq ?_ | refine OB.To.cut rfl rfl ?_ ?_ ?_ ?_ | refine OB.To.box rfl rfl ?_ | refine ⟨⟨_, rfl, ?_⟩, ?_⟩ | refine ⟨?_, ?_⟩ | fail))
        · have g4' : ∀ k u v, lo ≤ k → k < (i + j) / 2 + 1 → l[k]? = some u → l[d + m - 1 - k]? = some v → ¬ cmpA v u < 0 := fun k u v k1 k2 hu hv => by
            have h3 := ord_at oA (show a ≤ k by omega) (show k ≤ (i + j) / 2 by omega) (by omega) hu hx
            have h4 := ord_at oB (show m ≤ d + m - 1 - (i + j) / 2 by omega) (show d + m - 1 - (i + j) / 2 ≤ d + m - 1 - k by omega) (by omega) hy hv
            unfold cmpA at hlt ⊢
            omega
          generalize cmpA y x = o at *
          repeat' (first | (apply X.loE; (· exact aR); (· first | (exact .eff (.loadO rfl rfl (readAl (i := (i + j) / 2) (by omega) hx))) | (exact .eff (.loadO rfl rfl (readAl (i := d + m - 1 - (i + j) / 2) (by omega) hy))) | (exact .eff (.toU rfl rfl rfl (by omega) (by omega))) | (exact .eff (.toI rfl rfl rfl (by omega) (by omega))) | (exact .eff (.half rfl rfl)) | exact .callL rfl rfl rfl (hc) rfl | exact bl (hc))) | refine X.loc ?_ | refine nx ?_ | refine X.cdT ?_ | refine X.cdF ?_ | (refine WP.condBit rfl ?_ ?_) | (refine WP.cond rfl ?_ ?_ <;> intro hcond) | (apply X.gsE; (· exact aR); (· exact aV); (· exact aW); (· intro hc; first | (exact .eff (.loadO rfl rfl (readAl (i := (i + j) / 2) (by omega) hx))) | (exact .eff (.loadO rfl rfl (readAl (i := d + m - 1 - (i + j) / 2) (by omega) hy))) | (exact .eff (.toU rfl rfl rfl (by omega) (by omega))) | (exact .eff (.toI rfl rfl rfl (by omega) (by omega))) | (exact .eff (.half rfl rfl)) | exact .callG rfl rfl rfl (hc) rfl | exact bg (hc)); (· exact aR)) | refine rb ?_ | refine nd ?_ | refine dk ?_ | fail)
          all_goals try (exfalso; simp at hcond; omega)
          refine ⟨((i + j) / 2 + 1, j), ⟨by dsimp only; omega, by dsimp only; omega, g3, g4', g5⟩, by dsimp only; omega, ?_⟩
          try dsimp only
          rw [show (((i + j) / 2 + 1 : Nat) : Int) = ((i : Int) + (j : Int)) / 2 + 1 by omega]
          refine St.to [] [] rfl rfl ?_ ?_ <;> (repeat' (first | exact tA | refine t1 ?_ | exact tB | refine t2 ?_ ?_ | refine t3 ?_ | refine t4 ?_ ?_ | refine .ofEq ?_ | refine OB.To.cut rfl rfl ?_ ?_ ?_ ?_ | refine OB.To.box rfl rfl ?_ | refine ⟨⟨_, rfl, ?_⟩, ?_⟩ | refine ⟨?_, ?_⟩ | fail))
      case neg =>
        obtain rfl : i = j := by omega
        obtain ⟨e, he⟩ : ∃ e : Nat, d + m = i + e := ⟨d + m - i, by omega⟩
        have b1 : a ≤ i := by omega
        have b2 : i ≤ m := by omega
        have b3 : m ≤ e := by omega
        have b4 : e ≤ b := by omega
        have c1 : i = a ∨ e = b ∨ ∃ x y, l[i - 1]? = some x ∧ l[e]? = some y ∧ ¬ cmpA y x < 0 := by
          by_cases hl : i = lo
          · rcases hq with hq | hq
            · exact .inl (by omega)
            · exact .inr (.inl (by omega))
          · by_cases heb : e = b
            · exact .inr (.inl heb)
            · obtain ⟨x, hx⟩ : ∃ x, l[i - 1]? = some x := ⟨_, List.getElem?_eq_getElem (by omega)⟩
              obtain ⟨y, hy⟩ : ∃ y, l[e]? = some y := ⟨_, List.getElem?_eq_getElem (by omega)⟩
              exact .inr (.inr ⟨x, y, hx, hy, g4 (i - 1) x y (by omega) (by omega) hx (by rw [show d + m - 1 - (i - 1) = e by omega]; exact hy)⟩)
        have c2 : i = m ∨ e = m ∨ ∃ x y, l[i]? = some x ∧ l[e - 1]? = some y ∧ cmpA y x < 0 := by
          by_cases hh : i = hi
          · rcases hq with hq | hq
            · exact .inl (by omega)
            · exact .inr (.inl (by omega))
          · by_cases hem : e = m
            · exact .inr (.inl hem)
            · obtain ⟨x, hx⟩ : ∃ x, l[i]? = some x := ⟨_, List.getElem?_eq_getElem (by omega)⟩
              obtain ⟨y, hy⟩ : ∃ y, l[e - 1]? = some y := ⟨_, List.getElem?_eq_getElem (by omega)⟩
              exact .inr (.inr ⟨x, y, hx, hy, g5 i x y (by omega) (by omega) hx (by rw [show d + m - 1 - i = e - 1 by omega]; exact hy)⟩)
        have hend := sym_end b1 b2 b3 b4 hb he oA oB c1 c2
        clear c1 c2 g4 g5
        obtain ⟨t1', t2', t3', t4', t5', t6'⟩ := turned_seg l b1 b2 b3 b4 hb he
        have rt := fun h1 h2 => rotate_T l i m e h1 h2 (by omega) hl
        have htu : turned l i m e = if i < m ∧ m < e then rotL l m (m - i) (e - m) else l := rfl
        unfold acRw at rt
        rw [← hend]
        generalize turned l i m e = T at *
        repeat' (first | with_reducible refine WP.hold 185 ?_ | refine X.loc ?_ | refine nx ?_ | refine X.cdT ?_ | refine X.cdF ?_ | (refine WP.condBit rfl ?_ ?_) | (refine WP.cond rfl ?_ ?_ <;> intro hcond) | refine rb ?_ | refine nd ?_ | refine dk ?_ | fail)
        all_goals (try apply Held.mk)
        refine WP.join (ι := Unit) (fun _ => ⟨[(0, .osl 1000), (1, .fv (.int .i64 a)), (2, .fv (.int .i64 m)), (3, .fv (.int .i64 b)), (4, .fn 133 []), (18, .fv (.int .i64 d)), (20, .fv (.int .i64 i)), (24, .fv (.int .i64 e))], [(1000, .row 38 9 T.length ((T.flatMap encAc).map .fv))]⟩) (fun _ => True) ?_ ?_
        · have hei : (d : Int) + (m : Int) - (i : Int) = (e : Int) := by omega
          by_cases hrot : i < m ∧ m < e
          · rw [if_pos hrot] at htu
            have u1 := rt hrot.1 hrot.2
            rw [← htu, ← hei] at u1
            repeat' (first | refine X.loc ?_ | refine nx ?_ | refine X.cdT ?_ | refine X.cdF ?_ | (refine WP.condBit rfl ?_ ?_) | (refine WP.cond rfl ?_ ?_ <;> intro hcond) | refine rb ?_ | refine X.c0 (u1) ?_ | refine nd ?_ | refine dk ?_ | fail)
            refine ⟨(), trivial, ?_⟩
            try dsimp only
            rw [← hei]
            refine St.to [] [] rfl rfl ?_ ?_ <;> (repeat' (first | exact tA | refine t1 ?_ | exact tB | refine t2 ?_ ?_ | refine t3 ?_ | refine t4 ?_ ?_ | refine .ofEq ?_ | refine OB.To.cut rfl rfl ?_ ?_ ?_ ?_ | refine OB.To.box rfl rfl ?_ | refine ⟨⟨_, rfl, ?_⟩, ?_⟩ | refine ⟨?_, ?_⟩ | fail))
          · rw [if_neg hrot] at htu
            subst htu
            repeat' (first | refine X.loc ?_ | refine nx ?_ | refine X.cdT ?_ | refine X.cdF ?_ | (refine WP.condBit rfl ?_ ?_) | (refine WP.cond rfl ?_ ?_ <;> intro hcond) | refine rb ?_ | refine nd ?_ | refine dk ?_ | fail)
            refine ⟨(), trivial, ?_⟩
            try dsimp only
            rw [← hei]
            refine St.to [] [] rfl rfl ?_ ?_ <;> (repeat' (first | exact tA | refine t1 ?_ | exact tB | refine t2 ?_ ?_ | refine t3 ?_ | refine t4 ?_ ?_ | refine .ofEq ?_ | refine OB.To.cut rfl rfl ?_ ?_ ?_ ?_ | refine OB.To.box rfl rfl ?_ | refine ⟨⟨_, rfl, ?_⟩, ?_⟩ | refine ⟨?_, ?_⟩ | fail))
        · rintro _ _
          try dsimp only
          have hTr : ∀ x ∈ T, AcR x := fun x hx => hr x (t6' x hx)
          have oS := split3 (l := l) (a := a) (b := i) (c := m) b1 b2
          rw [oS] at oA
          have oS2 := split3 (l := l) (a := m) (b := e) (c := b) b3 b4
          rw [oS2] at oB
          obtain ⟨oA1, oA2, _⟩ := List.pairwise_append.1 oA
          obtain ⟨oB1, oB2, _⟩ := List.pairwise_append.1 oB
          rw [← t2'] at oA1
          rw [← t4'] at oA2
          rw [← t3'] at oB1
          rw [← t5'] at oB2
          repeat' (first | with_reducible refine WP.hold 199 ?_ | refine X.loc ?_ | refine nx ?_ | refine X.cdT ?_ | refine X.cdF ?_ | (refine WP.condBit rfl ?_ ?_) | (refine WP.cond rfl ?_ ?_ <;> intro hcond) | refine rb ?_ | refine nd ?_ | refine dk ?_ | fail)
          all_goals (try apply Held.mk)
          refine WP.join (ι := Unit) (fun _ => ⟨[(0, .osl 1000), (1, .fv (.int .i64 a)), (2, .fv (.int .i64 m)), (3, .fv (.int .i64 b)), (4, .fn 133 []), (18, .fv (.int .i64 d)), (20, .fv (.int .i64 i)), (24, .fv (.int .i64 e))], [(1000, .row 38 9 (mrgL T a d).length (((mrgL T a d).flatMap encAc).map .fv))]⟩) (fun _ => True) ?_ ?_
          · by_cases hc1 : a < i ∧ i < d
            · have u1 := ih (d - a) (by omega) T a i d rfl hTr hc1.1 hc1.2 (by omega) (by omega) oA1 oB1
              unfold acRw at u1
              repeat' (first | refine X.loc ?_ | refine nx ?_ | refine X.cdT ?_ | refine X.cdF ?_ | (refine WP.condBit rfl ?_ ?_) | (refine WP.cond rfl ?_ ?_ <;> intro hcond) | refine rb ?_ | refine X.c0 (u1) ?_ | refine nd ?_ | refine dk ?_ | fail)
              refine ⟨(), trivial, ?_⟩
              refine St.to [] [] rfl rfl ?_ ?_ <;> (repeat' (first | exact tA | refine t1 ?_ | exact tB | refine t2 ?_ ?_ | refine t3 ?_ | refine t4 ?_ ?_ | refine .ofEq ?_ | refine OB.To.cut rfl rfl ?_ ?_ ?_ ?_ | refine OB.To.box rfl rfl ?_ | refine ⟨⟨_, rfl, ?_⟩, ?_⟩ | refine ⟨?_, ?_⟩ | fail))
            · have e1 : mrgL T a d = T := by
                have hs := split3 (l := T) (a := a) (b := i) (c := d) b1 (by omega)
                refine mrgL_id (by omega) (by omega) ?_
                rw [hs]
                have n1 : (T.take i).drop a = [] ∨ (T.take d).drop i = [] := by
                  rcases Nat.lt_or_ge a i with h | h
                  · right
                    exact List.eq_nil_of_length_eq_zero (by rw [seg_len T (by omega) (by omega)]; omega)
                  · left
                    exact List.eq_nil_of_length_eq_zero (by rw [seg_len T (by omega) (by omega)]; omega)
                rcases n1 with n1 | n1
                · rw [n1, List.nil_append]
                  exact oB1
                · rw [n1, List.append_nil]
                  exact oA1
              rw [e1]
              repeat' (first | refine X.loc ?_ | refine nx ?_ | refine X.cdT ?_ | refine X.cdF ?_ | (refine WP.condBit rfl ?_ ?_) | (refine WP.cond rfl ?_ ?_ <;> intro hcond) | refine rb ?_ | refine nd ?_ | refine dk ?_ | fail)
              refine ⟨(), trivial, ?_⟩
              refine St.to [] [] rfl rfl ?_ ?_ <;> (repeat' (first | exact tA | refine t1 ?_ | exact tB | refine t2 ?_ ?_ | refine t3 ?_ | refine t4 ?_ ?_ | refine .ofEq ?_ | refine OB.To.cut rfl rfl ?_ ?_ ?_ ?_ | refine OB.To.box rfl rfl ?_ | refine ⟨⟨_, rfl, ?_⟩, ?_⟩ | refine ⟨?_, ?_⟩ | fail))
          · rintro _ _
            try dsimp only
            have hRl : (mrgL T a d).length = T.length := mrgL_len (by omega) (by omega)
            have hRr : ∀ x ∈ mrgL T a d, AcR x := fun x hx => hTr x (mrgL_mem hx)
            have q1 := mrgL_seg (l := T) (a := a) (d := d) (p := d) (q := e) (by omega) (by omega) (by omega) (by omega) (by omega)
            have q2 := mrgL_seg (l := T) (a := a) (d := d) (p := e) (q := b) (by omega) (by omega) (by omega) (by omega) (by omega)
            rw [← q1] at oA2
            rw [← q2] at oB2
            generalize mrgL T a d = R at *
            by_cases hc2 : d < e ∧ e < b
            · have u1 := ih (b - d) (by omega) R d e b rfl hRr hc2.1 hc2.2 (by omega) (by omega) oA2 oB2
              unfold acRw at u1
              generalize mrgL R d b = U at *
              repeat' (first | refine X.loc ?_ | refine nx ?_ | refine X.cdT ?_ | refine X.cdF ?_ | (refine WP.condBit rfl ?_ ?_) | (refine WP.cond rfl ?_ ?_ <;> intro hcond) | refine rb ?_ | refine X.c0 (u1) ?_ | refine nd ?_ | refine dk ?_ | fail)
              refine .ofL (s' := ⟨[], [(1000, .row 38 9 U.length ((U.flatMap encAc).map .fv))]⟩) (by first | exact .inl rfl | exact .inr rfl) ?_ rfl rfl (by repeat' (first | exact trivial | refine ⟨⟨_, rfl, fun _ _ _ _ h => h⟩, ?_⟩))
              refine St.to [] [] rfl rfl ?_ ?_ <;> (repeat' (first | exact tA | refine t1 ?_ | exact tB | refine t2 ?_ ?_ | refine t3 ?_ | refine t4 ?_ ?_ | refine .ofEq ?_ | refine OB.To.cut rfl rfl ?_ ?_ ?_ ?_ | refine OB.To.box rfl rfl ?_ | refine ⟨⟨_, rfl, ?_⟩, ?_⟩ | refine ⟨?_, ?_⟩ | fail))
            · have e1 : mrgL R d b = R := by
                have hs := split3 (l := R) (a := d) (b := e) (c := b) (by omega) (by omega)
                refine mrgL_id (by omega) (by omega) ?_
                rw [hs]
                have n1 : (R.take e).drop d = [] ∨ (R.take b).drop e = [] := by
                  rcases Nat.lt_or_ge d e with h | h
                  · right
                    exact List.eq_nil_of_length_eq_zero (by rw [seg_len R (by omega) (by omega)]; omega)
                  · left
                    exact List.eq_nil_of_length_eq_zero (by rw [seg_len R (by omega) (by omega)]; omega)
                rcases n1 with n1 | n1
                · rw [n1, List.nil_append]
                  exact oB2
                · rw [n1, List.append_nil]
                  exact oA2
              rw [e1]
              repeat' (first | refine X.loc ?_ | refine nx ?_ | refine X.cdT ?_ | refine X.cdF ?_ | (refine WP.condBit rfl ?_ ?_) | (refine WP.cond rfl ?_ ?_ <;> intro hcond) | refine rb ?_ | refine nd ?_ | refine dk ?_ | fail)
              refine .ofL (s' := ⟨[], [(1000, .row 38 9 R.length ((R.flatMap encAc).map .fv))]⟩) (by first | exact .inl rfl | exact .inr rfl) ?_ rfl rfl (by repeat' (first | exact trivial | refine ⟨⟨_, rfl, fun _ _ _ _ h => h⟩, ?_⟩))
              refine St.to [] [] rfl rfl ?_ ?_ <;> (repeat' (first | exact tA | refine t1 ?_ | exact tB | refine t2 ?_ ?_ | refine t3 ?_ | refine t4 ?_ ?_ | refine .ofEq ?_ | refine OB.To.cut rfl rfl ?_ ?_ ?_ ?_ | refine OB.To.box rfl rfl ?_ | refine ⟨⟨_, rfl, ?_⟩, ?_⟩ | refine ⟨?_, ?_⟩ | fail))
end Go.Proofs.YtmidechdlbcepaaGreat

namespace Go.Proofs.YtmidechdlbcepaaGreat
open Go.RowKit
set_option maxRecDepth 100000

def blkA (l : List Ac) : Nat → List Ac
  | 0 => l
  | k + 1 => mrgL (blkA l k) (20 * k) (20 * k + 20)
theorem blkA_len (l : List Ac) : ∀ k, 20 * k ≤ l.length → (blkA l k).length = l.length
  | 0, _ => rfl
  | k + 1, h => by
    have ih := blkA_len l k (by omega)
    rw [blkA, mrgL_len (by omega) (by omega), ih]
theorem blkA_mem {l : List Ac} {x : Ac} : ∀ {k : Nat}, x ∈ blkA l k → x ∈ l
  | 0, h => h
  | k + 1, h => blkA_mem (mrgL_mem h)
theorem mrgL_all (l : List Ac) {n : Nat} (h : n = l.length) : mrgL l 0 n = sortA l := by
  subst h
  rw [mrgL, List.take_zero, List.take_length, List.drop_zero, List.drop_length]
  simp
theorem sortA_two (l : List Ac) {m : Nat} (hm : m ≤ l.length) : sortA (sortA (l.take m) ++ sortA (l.drop m)) = sortA l := by
  have s1 := sortA_stab (l.take m)
  have s2 := sortA_stab (l.drop m)
  have s3 := sortA_stab (sortA (l.take m) ++ sortA (l.drop m))
  refine StabA.is ⟨s3.ord, fun p => ?_⟩
  rw [s3.flt, List.filter_append, s1.flt, s2.flt, ← List.filter_append, List.take_append_drop]
theorem mrgL_self {l : List Ac} {a : Nat} (h : a ≤ l.length) : mrgL l a a = l := mrgL_id (Nat.le_refl _) h (by rw [List.drop_eq_nil_of_le (by rw [List.length_take]; omega)]; exact .nil)
def blksA (l : List Ac) : List Ac := mrgL (blkA l (l.length / 20)) (20 * (l.length / 20)) l.length
theorem blks_small {l : List Ac} (h : l.length ≤ 20) : blksA l = sortA l := by
  unfold blksA
  by_cases h2 : l.length = 20
  · rw [h2]
    show mrgL (mrgL l 0 20) 20 20 = sortA l
    rw [mrgL_self (by rw [mrgL_len (by omega) (by omega)]; omega), mrgL_all l h2.symm]
  · rw [show l.length / 20 = 0 by omega]
    exact mrgL_all l rfl
theorem mrgL_two {l : List Ac} {m n : Nat} (hm : m ≤ n) (hn : n = l.length) : mrgL (mrgL l 0 m) m n = sortA (l.take m) ++ sortA (l.drop m) := by
  subst hn
  have e : mrgL l 0 m = sortA (l.take m) ++ l.drop m := by rw [mrgL, List.take_zero, List.drop_zero, List.nil_append]
  have hl : (sortA (l.take m)).length = m := by
    rw [sortA, (List.mergeSort_perm _ geA).length_eq, List.length_take]
    omega
  have := mrgL_app (sortA (l.take m)) (l.drop m) []
  rw [List.append_nil, List.append_nil, hl, List.length_drop, show m + (l.length - m) = l.length by omega] at this
  rw [e, this]
theorem blks_big {l : List Ac} (h1 : 20 < l.length) (h2 : l.length ≤ 40) : blksA l = sortA (l.take 20) ++ sortA (l.drop 20) := by
  unfold blksA
  by_cases h3 : l.length = 40
  · rw [h3]
    show mrgL (mrgL (mrgL l 0 20) 20 40) 40 40 = _
    have hl : (mrgL l 0 20).length = 40 := by rw [mrgL_len (by omega) (by omega), h3]
    rw [mrgL_self (by rw [mrgL_len (by omega) (by omega)]; omega), mrgL_two (by omega) h3.symm]
  · rw [show l.length / 20 = 1 by omega]
    exact mrgL_two (m := 20) (by omega) rfl
theorem blks_all {l : List Ac} (h1 : 20 < l.length) (h2 : l.length ≤ 40) : mrgL (blksA l) 0 l.length = sortA l ∧ (blksA l).length = l.length ∧ ((((blksA l).take 20).drop 0).Pairwise fun x y => y.prio ≤ x.prio) ∧ ((((blksA l).take l.length).drop 20).Pairwise fun x y => y.prio ≤ x.prio) ∧ ∀ x, x ∈ blksA l → x ∈ l := by
  have hb := blks_big h1 h2
  have hl1 : (sortA (l.take 20)).length = 20 := by rw [sortA, (List.mergeSort_perm _ geA).length_eq, List.length_take]; omega
  have hl2 : (sortA (l.drop 20)).length = l.length - 20 := by rw [sortA, (List.mergeSort_perm _ geA).length_eq, List.length_drop]
  have hlen : (blksA l).length = l.length := by rw [hb, List.length_append, hl1, hl2]; omega
  refine ⟨by rw [mrgL_all _ hlen.symm, hb, sortA_two l (by omega)], hlen, ?_, ?_, fun x hx => ?_⟩
  · rw [hb, List.take_left' hl1, List.drop_zero]
    exact (sortA_stab _).ord
  · rw [← hlen, List.take_length, hb, List.drop_left' hl1]
    exact (sortA_stab _).ord
  · rw [hb] at hx
    rcases List.mem_append.1 hx with hx | hx
    · exact List.mem_of_mem_take ((sortA_stab _).mem.1 hx)
    · exact List.mem_of_mem_drop ((sortA_stab _).mem.1 hx)
end Go.Proofs.YtmidechdlbcepaaGreat

namespace Go.Proofs.YtmidechdlbcepaaGreat
open Go.RowKit
set_option maxRecDepth 100000

theorem insM_T (l : List Ac) (a b : Nat) (hr : ∀ x ∈ l, AcR x) (ha : a ≤ b) (hb : b ≤ l.length) (hl : l.length ≤ 40) : FunO Tryz.prog 171 [.osl 1000, .fv (.int .i64 a), .fv (.int .i64 b), .fn 133 []] [(1000, acRw l)] (.tup []) [(1000, acRw (mrgL l a b))] := by
  have h := insertion_T l a b hr ha hb hl
  rw [insN_sort l ha hb] at h
  exact h
set_option maxHeartbeats 8000000 in
theorem stableCmp_T (l : List Ac) (hr : ∀ x ∈ l, AcR x) (hl : l.length ≤ 40) : FunO Tryz.prog 155 [.osl 1000, .fv (.int .i64 l.length), .fn 133 []] [(1000, acRw l)] (.tup []) [(1000, acRw (sortA l))] := by
  refine FunO.bodyL tbl_ok Tryz.func155 rfl (by kernel_rfl) rfl rfl rfl ?_
  have hS : (sortA l).length = l.length := by rw [sortA, (List.mergeSort_perm _ geA).length_eq]
  unfold acRw
  repeat' (first | refine X.loc ?_ | refine nx ?_ | refine X.cdT ?_ | refine X.cdF ?_ | (refine WP.condBit rfl ?_ ?_) | (refine WP.cond rfl ?_ ?_ <;> intro hcond) | refine rb ?_ | refine nd ?_ | refine dk ?_ | fail)
  refine WP.loop (ι := Nat) (fun k => ⟨[(0, .osl 1000), (1, .fv (.int .i64 l.length)), (2, .fn 133 []), (6, .fv (.int .i64 20)), (7, .fv (.int .i64 (20 * k : Nat))), (8, .fv (.int .i64 (20 * k + 20 : Nat)))], [(1000, .row 38 9 (blkA l k).length (((blkA l k).flatMap encAc).map .fv))]⟩) (fun k => 20 * k ≤ l.length) (fun k => l.length - 20 * k) 0 (by omega) ?_ ?_
  · try dsimp only
    rw [show blkA l 0 = l from rfl]
    refine St.to [] [] rfl rfl ?_ ?_ <;> (repeat' (first | exact tA | refine t1 ?_ | exact tB | refine t2 ?_ ?_ | refine t3 ?_ | refine t4 ?_ ?_ | refine .ofEq ?_ | refine OB.To.cut rfl rfl ?_ ?_ ?_ ?_ | refine OB.To.box rfl rfl ?_ | refine ⟨⟨_, rfl, ?_⟩, ?_⟩ | refine ⟨?_, ?_⟩ | fail))
  rintro k hk
  try dsimp only [cond]
  have hkl := blkA_len l k hk
  have hkr : ∀ x ∈ blkA l k, AcR x := fun x hx => hr x (blkA_mem hx)
  by_cases hlt : 20 * k + 20 ≤ l.length
  case pos =>
    have u1 := insM_T (blkA l k) (20 * k) (20 * k + 20) hkr (by omega) (by omega) (by omega)
    unfold acRw at u1
    have hs : blkA l (k + 1) = mrgL (blkA l k) (20 * k) (20 * k + 20) := rfl
    rw [← hs] at u1
    generalize blkA l k = R at *
    repeat' (first | refine X.loc ?_ | refine nx ?_ | refine X.cdT ?_ | refine X.cdF ?_ | (refine WP.condBit rfl ?_ ?_) | (refine WP.cond rfl ?_ ?_ <;> intro hcond) | refine rb ?_ | refine X.c0 (u1) ?_ | refine nd ?_ | refine dk ?_ | fail)
    refine ⟨k + 1, by omega, by omega, ?_⟩
    try dsimp only [cond]
    rw [show 20 * (k + 1) = 20 * k + 20 by omega, show ((20 * k + 20 + 20 : Nat) : Int) = ((20 * k + 20 : Nat) : Int) + 20 by omega]
    refine St.to [] [] rfl rfl ?_ ?_ <;> (repeat' (first | exact tA | refine t1 ?_ | exact tB | refine t2 ?_ ?_ | refine t3 ?_ | refine t4 ?_ ?_ | refine .ofEq ?_ | refine OB.To.cut rfl rfl ?_ ?_ ?_ ?_ | refine OB.To.box rfl rfl ?_ | refine ⟨⟨_, rfl, ?_⟩, ?_⟩ | refine ⟨?_, ?_⟩ | fail))
  case neg =>
    have hkq : k = l.length / 20 := by omega
    have u1 := insM_T (blkA l k) (20 * k) l.length hkr (by omega) (by omega) (by omega)
    have hB : mrgL (blkA l k) (20 * k) l.length = blksA l := by rw [hkq]; rfl
    rw [hB] at u1
    unfold acRw at u1
    clear hB
    generalize blkA l k = R at *
    by_cases hsm : l.length ≤ 20
    · rw [blks_small hsm] at u1
      generalize sortA l = S at *
      repeat' (first | refine X.loc ?_ | refine nx ?_ | refine X.cdT ?_ | refine X.cdF ?_ | (refine WP.condBit rfl ?_ ?_) | (refine WP.cond rfl ?_ ?_ <;> intro hcond) | refine rb ?_ | refine X.c0 (u1) ?_ | refine nd ?_ | refine dk ?_ | fail)
      refine WP.loop (ι := Unit) (fun _ => ⟨[(0, .osl 1000), (1, .fv (.int .i64 l.length)), (2, .fn 133 []), (6, .fv (.int .i64 20))], [(1000, .row 38 9 S.length ((S.flatMap encAc).map .fv))]⟩) (fun _ => True) (fun _ => 0) () trivial ?_ ?_
      · skip
        refine St.to [] [] rfl rfl ?_ ?_ <;> (repeat' (first | exact tA | refine t1 ?_ | exact tB | refine t2 ?_ ?_ | refine t3 ?_ | refine t4 ?_ ?_ | refine .ofEq ?_ | refine OB.To.cut rfl rfl ?_ ?_ ?_ ?_ | refine OB.To.box rfl rfl ?_ | refine ⟨⟨_, rfl, ?_⟩, ?_⟩ | refine ⟨?_, ?_⟩ | fail))
      rintro _ _
      try dsimp only [cond]
      repeat' (first | refine X.loc ?_ | refine nx ?_ | refine X.cdT ?_ | refine X.cdF ?_ | (refine WP.condBit rfl ?_ ?_) | (refine WP.cond rfl ?_ ?_ <;> intro hcond) | refine rb ?_ | refine nd ?_ | refine dk ?_ | fail)
      refine .ofL (s' := ⟨[], [(1000, .row 38 9 S.length ((S.flatMap encAc).map .fv))]⟩) (by first | exact .inl rfl | exact .inr rfl) ?_ rfl rfl (by repeat' (first | exact trivial | refine ⟨⟨_, rfl, fun _ _ _ _ h => h⟩, ?_⟩))
      refine St.to [] [] rfl rfl ?_ ?_ <;> (repeat' (first | exact tA | refine t1 ?_ | exact tB | refine t2 ?_ ?_ | refine t3 ?_ | refine t4 ?_ ?_ | refine .ofEq ?_ | refine OB.To.cut rfl rfl ?_ ?_ ?_ ?_ | refine OB.To.box rfl rfl ?_ | refine ⟨⟨_, rfl, ?_⟩, ?_⟩ | refine ⟨?_, ?_⟩ | fail))
    · obtain ⟨z1, z2, z3, z4, z5⟩ := blks_all (l := l) (by omega) hl
      have sy := symMerge_T _ (blksA l) 0 20 l.length rfl (fun x hx => hr x (z5 x hx)) (by omega) (by omega) (by omega) (by omega) z3 z4
      rw [z1] at sy
      unfold acRw at sy
      clear z1 z3 z4 z5
      generalize blksA l = B at *
      generalize sortA l = S at *
      repeat' (first | refine X.loc ?_ | refine nx ?_ | refine X.cdT ?_ | refine X.cdF ?_ | (refine WP.condBit rfl ?_ ?_) | (refine WP.cond rfl ?_ ?_ <;> intro hcond) | refine rb ?_ | refine X.c0 (u1) ?_ | refine nd ?_ | refine dk ?_ | fail)
      refine WP.loop (ι := Bool) (fun q => ⟨[(0, .osl 1000), (1, .fv (.int .i64 l.length)), (2, .fn 133 []), (6, .fv (.int .i64 (cond q 40 20)))], [(1000, .row 38 9 (cond q S B).length (((cond q S B).flatMap encAc).map .fv))]⟩) (fun _ => True) (fun q => cond q 0 1) false trivial ?_ ?_
      · try dsimp only
        refine St.to [] [] rfl rfl ?_ ?_ <;> (repeat' (first | exact tA | refine t1 ?_ | exact tB | refine t2 ?_ ?_ | refine t3 ?_ | refine t4 ?_ ?_ | refine .ofEq ?_ | refine OB.To.cut rfl rfl ?_ ?_ ?_ ?_ | refine OB.To.box rfl rfl ?_ | refine ⟨⟨_, rfl, ?_⟩, ?_⟩ | refine ⟨?_, ?_⟩ | fail))
        all_goals rfl
      rintro q _
      cases q with
      | true =>
        try dsimp only [cond]
        repeat' (first | refine X.loc ?_ | refine nx ?_ | refine X.cdT ?_ | refine X.cdF ?_ | (refine WP.condBit rfl ?_ ?_) | (refine WP.cond rfl ?_ ?_ <;> intro hcond) | refine rb ?_ | refine nd ?_ | refine dk ?_ | fail)
        refine .ofL (s' := ⟨[], [(1000, .row 38 9 S.length ((S.flatMap encAc).map .fv))]⟩) (by first | exact .inl rfl | exact .inr rfl) ?_ rfl rfl (by repeat' (first | exact trivial | refine ⟨⟨_, rfl, fun _ _ _ _ h => h⟩, ?_⟩))
        refine St.to [] [] rfl rfl ?_ ?_ <;> (repeat' (first | exact tA | refine t1 ?_ | exact tB | refine t2 ?_ ?_ | refine t3 ?_ | refine t4 ?_ ?_ | refine .ofEq ?_ | refine OB.To.cut rfl rfl ?_ ?_ ?_ ?_ | refine OB.To.box rfl rfl ?_ | refine ⟨⟨_, rfl, ?_⟩, ?_⟩ | refine ⟨?_, ?_⟩ | fail))
        all_goals rfl
      | false =>
        try dsimp only [cond]
        repeat' (first | refine X.loc ?_ | refine nx ?_ | refine X.cdT ?_ | refine X.cdF ?_ | (refine WP.condBit rfl ?_ ?_) | (refine WP.cond rfl ?_ ?_ <;> intro hcond) | refine rb ?_ | refine nd ?_ | refine dk ?_ | fail)
        by_cases h40 : l.length = 40
        · refine WP.loop (ι := Bool) (fun q => ⟨[(0, .osl 1000), (1, .fv (.int .i64 l.length)), (2, .fn 133 []), (6, .fv (.int .i64 20)), (7, .fv (.int .i64 (cond q 40 0))), (8, .fv (.int .i64 (cond q 80 40)))], [(1000, .row 38 9 (cond q S B).length (((cond q S B).flatMap encAc).map .fv))]⟩) (fun _ => True) (fun q => cond q 0 1) false trivial ?_ ?_
          · try dsimp only
            refine St.to [] [] rfl rfl ?_ ?_ <;> (repeat' (first | exact tA | refine t1 ?_ | exact tB | refine t2 ?_ ?_ | refine t3 ?_ | refine t4 ?_ ?_ | refine .ofEq ?_ | refine OB.To.cut rfl rfl ?_ ?_ ?_ ?_ | refine OB.To.box rfl rfl ?_ | refine ⟨⟨_, rfl, ?_⟩, ?_⟩ | refine ⟨?_, ?_⟩ | fail))
            all_goals rfl
          rintro q _
          cases q with
          | true =>
            try dsimp only [cond]
            repeat' (first | refine X.loc ?_ | refine nx ?_ | refine X.cdT ?_ | refine X.cdF ?_ | (refine WP.condBit rfl ?_ ?_) | (refine WP.cond rfl ?_ ?_ <;> intro hcond) | refine rb ?_ | refine nd ?_ | refine dk ?_ | fail)
            refine ⟨true, trivial, by decide, ?_⟩
            try dsimp only [cond]
            refine St.to [] [] rfl rfl ?_ ?_ <;> (repeat' (first | exact tA | refine t1 ?_ | exact tB | refine t2 ?_ ?_ | refine t3 ?_ | refine t4 ?_ ?_ | refine .ofEq ?_ | refine OB.To.cut rfl rfl ?_ ?_ ?_ ?_ | refine OB.To.box rfl rfl ?_ | refine ⟨⟨_, rfl, ?_⟩, ?_⟩ | refine ⟨?_, ?_⟩ | fail))
            all_goals rfl
          | false =>
            try dsimp only [cond]
            rw [h40] at sy
            repeat' (first | refine X.loc ?_ | refine nx ?_ | refine X.cdT ?_ | refine X.cdF ?_ | (refine WP.condBit rfl ?_ ?_) | (refine WP.cond rfl ?_ ?_ <;> intro hcond) | refine rb ?_ | refine X.c0 (sy) ?_ | refine nd ?_ | refine dk ?_ | fail)
            refine ⟨true, trivial, by decide, ?_⟩
            try dsimp only [cond]
            refine St.to [] [] rfl rfl ?_ ?_ <;> (repeat' (first | exact tA | refine t1 ?_ | exact tB | refine t2 ?_ ?_ | refine t3 ?_ | refine t4 ?_ ?_ | refine .ofEq ?_ | refine OB.To.cut rfl rfl ?_ ?_ ?_ ?_ | refine OB.To.box rfl rfl ?_ | refine ⟨⟨_, rfl, ?_⟩, ?_⟩ | refine ⟨?_, ?_⟩ | fail))
            all_goals rfl
        · refine WP.loop (ι := Unit) (fun _ => ⟨[(0, .osl 1000), (1, .fv (.int .i64 l.length)), (2, .fn 133 []), (6, .fv (.int .i64 20)), (7, .fv (.int .i64 0)), (8, .fv (.int .i64 40))], [(1000, .row 38 9 B.length ((B.flatMap encAc).map .fv))]⟩) (fun _ => True) (fun _ => 0) () trivial ?_ ?_
          · skip
            refine St.to [] [] rfl rfl ?_ ?_ <;> (repeat' (first | exact tA | refine t1 ?_ | exact tB | refine t2 ?_ ?_ | refine t3 ?_ | refine t4 ?_ ?_ | refine .ofEq ?_ | refine OB.To.cut rfl rfl ?_ ?_ ?_ ?_ | refine OB.To.box rfl rfl ?_ | refine ⟨⟨_, rfl, ?_⟩, ?_⟩ | refine ⟨?_, ?_⟩ | fail))
            all_goals rfl
          rintro _ _
          try dsimp only [cond]
          repeat' (first | refine X.loc ?_ | refine nx ?_ | refine X.cdT ?_ | refine X.cdF ?_ | (refine WP.condBit rfl ?_ ?_) | (refine WP.cond rfl ?_ ?_ <;> intro hcond) | refine rb ?_ | refine X.c0 (sy) ?_ | refine nd ?_ | refine dk ?_ | fail)
          refine ⟨true, trivial, by decide, ?_⟩
          try dsimp only [cond]
          refine St.to [] [] rfl rfl ?_ ?_ <;> (repeat' (first | exact tA | refine t1 ?_ | exact tB | refine t2 ?_ ?_ | refine t3 ?_ | refine t4 ?_ ?_ | refine .ofEq ?_ | refine OB.To.cut rfl rfl ?_ ?_ ?_ ?_ | refine OB.To.box rfl rfl ?_ | refine ⟨⟨_, rfl, ?_⟩, ?_⟩ | refine ⟨?_, ?_⟩ | fail))
          all_goals rfl
theorem sortStable_T (l : List Ac) (hr : ∀ x ∈ l, AcR x) (hl : l.length ≤ 40) : FunO Tryz.prog 132 [.osl 1000, .fn 133 []] [(1000, acRw l)] (.tup []) [(1000, acRw (sortA l))] := by
  have u1 := stableCmp_T l hr hl
  unfold acRw at u1
  refine FunO.bodyL tbl_ok Tryz.func132 rfl (by kernel_rfl) rfl rfl rfl ?_
  unfold acRw
  generalize sortA l = S at *
  repeat' (first | refine X.loc ?_ | refine nx ?_ | refine X.cdT ?_ | refine X.cdF ?_ | (refine WP.condBit rfl ?_ ?_) | (refine WP.cond rfl ?_ ?_ <;> intro hcond) | refine rb ?_ | refine X.c0 (u1) ?_ | refine nd ?_ | refine dk ?_ | fail)
  refine .ofL (s' := ⟨[], [(1000, .row 38 9 S.length ((S.flatMap encAc).map .fv))]⟩) (by first | exact .inl rfl | exact .inr rfl) ?_ rfl rfl (by repeat' (first | exact trivial | refine ⟨⟨_, rfl, fun _ _ _ _ h => h⟩, ?_⟩))
  refine St.to [] [] rfl rfl ?_ ?_ <;> (repeat' (first | exact tA | refine t1 ?_ | exact tB | refine t2 ?_ ?_ | refine t3 ?_ | refine t4 ?_ ?_ | refine .ofEq ?_ | refine OB.To.cut rfl rfl ?_ ?_ ?_ ?_ | refine OB.To.box rfl rfl ?_ | refine ⟨⟨_, rfl, ?_⟩, ?_⟩ | refine ⟨?_, ?_⟩ | fail))
end Go.Proofs.YtmidechdlbcepaaGreat

namespace Go.Proofs.YtmidechdlbcepaaGreat.AS
open Go.RowKit
set_option maxRecDepth 100000

theorem readE {α : Type} {e : α → List FV} {s : Nat} (he : ∀ x, (e x).length = s) {l : List α} {i off : Nat} {x : α} (h : off = i * s) (hx : l[i]? = some x) : dropO off ((l.flatMap e).map AV.fv) = some ((e x).map .fv ++ ((l.drop (i + 1)).flatMap e).map .fv) := by
  subst h
  have hlt := (List.getElem?_eq_some_iff.1 hx).1
  have hlen : ((l.flatMap e).map AV.fv).length = l.length * s := by rw [List.length_map, flatMap_len he]
  have h1 : (l.flatMap e).drop (i * s) = e x ++ (l.drop (i + 1)).flatMap e := by
    have e1 : l = l.take i ++ x :: l.drop (i + 1) := by
      rw [← (List.getElem?_eq_some_iff.1 hx).2, ← List.drop_eq_getElem_cons hlt, List.take_append_drop]
    have e2 : ((l.take i).flatMap e).length = i * s := by rw [flatMap_len he, List.length_take, Nat.min_eq_left (by omega)]
    have e3 : l.flatMap e = (l.take i).flatMap e ++ (e x ++ (l.drop (i + 1)).flatMap e) := by
      conv => lhs; rw [e1]
      rw [List.flatMap_append, List.flatMap_cons]
    rw [e3, ← e2, List.drop_left']
    rfl
  rw [dropO_mk (by rw [hlen]; exact Nat.mul_le_mul_right s (by omega)), ← List.map_drop, h1, List.map_append]
theorem readAl {l : List Ar} {i off : Nat} {x : Ar} (h : off = i * 9) (hx : l[i]? = some x) : readA tbl 41 off ((l.flatMap encAr).map .fv) = some (.agg ((encAr x).map .fv)) := by
  unfold readA
  rw [readE encAr_len h hx]
  generalize ((l.drop (i + 1)).flatMap encAr).map AV.fv = r
  cases r with
  | nil => rfl
  | cons a r => rfl
theorem setAl {l : List Ar} {i off : Nat} {x : Ar} (h : off = i * 9) (hi : i < l.length) : setC ((l.flatMap encAr).map .fv) off ((encAr x).map .fv) = some (((l.set i x).flatMap encAr).map .fv) := by
  subst h
  induction l generalizing i with
  | nil => simp at hi
  | cons y l ih =>
    cases i with
    | zero => simp [setC, encAr, encFr]
    | succ i =>
      have := ih (i := i) (by simpa using hi)
      rw [show (i + 1) * 9 = (i * 9) + 9 from by omega]
      simp only [List.flatMap_cons, List.map_append, List.set_cons_succ]
      show setC (AV.fv _ :: AV.fv _ :: AV.fv _ :: AV.fv _ :: AV.fv _ :: AV.fv _ :: AV.fv _ :: AV.fv _ :: AV.fv _ :: (l.flatMap encAr).map AV.fv) _ _ = _
      simp only [setC, this]
      rfl
def arRw (l : List Ar) : OB := .row 41 9 l.length ((l.flatMap encAr).map .fv)
def cmpA (a b : Ar) : Int := b.prio - a.prio
theorem cmpA_T (a b : Ar) (ha : ArR a) (hb : ArR b) : Fun Tryz.prog 78 [.agg ((encAr a).map .fv), .agg ((encAr b).map .fv)] (.fv (.int .i64 (cmpA a b))) := by
  unfold ArR at ha hb
  unfold cmpA
  refine Fun.body tbl_ok Tryz.func78 rfl (by kernel_rfl) rfl rfl rfl ?_
  repeat' (first | refine X.loc ?_ | refine nx ?_ | refine X.cdT ?_ | refine X.cdF ?_ | (refine WP.condBit rfl ?_ ?_) | (refine WP.cond rfl ?_ ?_ <;> intro hcond) | refine rb ?_ | refine nd ?_ | refine dk ?_ | fail)
  refine .f1 (.inl rfl) rfl ?_
  unfold Ar.prio
  rw [show -b.port - -a.port = a.port - b.port by omega]
def swp (l : List Ar) (i j : Nat) : List Ar := match l[i]?, l[j]? with
  | some x, some y => (l.set i y).set j x
  | _, _ => l
theorem swp_len (l : List Ar) (i j : Nat) : (swp l i j).length = l.length := by
  unfold swp
  split <;> simp
def swpN (l : List Ar) (a b : Nat) : Nat → List Ar
  | 0 => l
  | n + 1 => swp (swpN l a b n) (a + n) (b + n)
theorem swpN_len (l : List Ar) (a b : Nat) : ∀ n, (swpN l a b n).length = l.length
  | 0 => rfl
  | n + 1 => by rw [swpN, swp_len, swpN_len l a b n]
set_option maxHeartbeats 4000000 in
theorem swapRange_T (l : List Ar) (a b n : Nat) (ha : a + n ≤ l.length) (hb : b + n ≤ l.length) (hl : l.length ≤ 40) : FunO Tryz.prog 176 [.osl 1000, .fv (.int .i64 a), .fv (.int .i64 b), .fv (.int .i64 n), .fn 78 []] [(1000, arRw l)] (.tup []) [(1000, arRw (swpN l a b n))] := by
  refine FunO.bodyL tbl_ok Tryz.func176 rfl (by kernel_rfl) rfl rfl rfl ?_
  have hlen := swpN_len l a b
  unfold arRw
  repeat' (first | refine X.loc ?_ | refine nx ?_ | refine X.cdT ?_ | refine X.cdF ?_ | (refine WP.condBit rfl ?_ ?_) | (refine WP.cond rfl ?_ ?_ <;> intro hcond) | refine rb ?_ | refine nd ?_ | refine dk ?_ | fail)
  refine WP.loop (ι := Nat) (fun i => ⟨[(0, .osl 1000), (1, .fv (.int .i64 a)), (2, .fv (.int .i64 b)), (3, .fv (.int .i64 n)), (10, .fv (.int .i64 i))], [(1000, .row 41 9 (swpN l a b i).length (((swpN l a b i).flatMap encAr).map .fv))]⟩) (fun i => i ≤ n) (fun i => n - i) 0 (by omega) ?_ ?_
  · try dsimp only
    rw [show swpN l a b 0 = l from rfl]
    refine St.to [] [] rfl rfl ?_ ?_ <;> (repeat' (first | exact tA | refine t1 ?_ | exact tB | refine t2 ?_ ?_ | refine t3 ?_ | refine t4 ?_ ?_ | refine .ofEq ?_ | refine OB.To.cut rfl rfl ?_ ?_ ?_ ?_ | refine OB.To.box rfl rfl ?_ | refine ⟨⟨_, rfl, ?_⟩, ?_⟩ | refine ⟨?_, ?_⟩ | fail))
  rintro i hi
  try dsimp only
  by_cases hlt : i < n
  case neg =>
    obtain rfl : i = n := by omega
    generalize swpN l a b i = R at *
    repeat' (first | refine X.loc ?_ | refine nx ?_ | refine X.cdT ?_ | refine X.cdF ?_ | (refine WP.condBit rfl ?_ ?_) | (refine WP.cond rfl ?_ ?_ <;> intro hcond) | refine rb ?_ | refine nd ?_ | refine dk ?_ | fail)
    refine .ofL (s' := ⟨[], [(1000, .row 41 9 R.length ((R.flatMap encAr).map .fv))]⟩) (by first | exact .inl rfl | exact .inr rfl) ?_ rfl rfl (by repeat' (first | exact trivial | refine ⟨⟨_, rfl, fun _ _ _ _ h => h⟩, ?_⟩))
    refine St.to [] [] rfl rfl ?_ ?_ <;> (repeat' (first | exact tA | refine t1 ?_ | exact tB | refine t2 ?_ ?_ | refine t3 ?_ | refine t4 ?_ ?_ | refine .ofEq ?_ | refine OB.To.cut rfl rfl ?_ ?_ ?_ ?_ | refine OB.To.box rfl rfl ?_ | refine ⟨⟨_, rfl, ?_⟩, ?_⟩ | refine ⟨?_, ?_⟩ | fail))
  case pos =>
    have h1 := hlen i
    have hs : swpN l a b (i + 1) = swp (swpN l a b i) (a + i) (b + i) := rfl
    generalize swpN l a b i = R at *
    obtain ⟨x, hx⟩ : ∃ x, R[a + i]? = some x := ⟨_, List.getElem?_eq_getElem (by omega)⟩
    obtain ⟨y, hy⟩ : ∃ y, R[b + i]? = some y := ⟨_, List.getElem?_eq_getElem (by omega)⟩
    rw [swp, hx, hy] at hs
    try dsimp only at hs
    have s1 := setAl (l := R) (i := a + i) (off := ((a : Int) + (i : Int)).toNat * 9) (x := y) (by omega) (by omega)
    have s2 := setAl (l := R.set (a + i) y) (i := b + i) (off := ((b : Int) + (i : Int)).toNat * 9) (x := x) (by omega) (by rw [List.length_set]; omega)
    repeat' (first | (apply X.loE; (· exact aR); (· first | (exact .eff (.loadO rfl rfl (readAl (i := a + i) (by omega) hx))) | (exact .eff (.loadO rfl rfl (readAl (i := b + i) (by omega) hy))))) | refine X.loc ?_ | (apply X.stRE; (· exact aS); (· exact s1); (· exact aE)) | (apply X.stRE; (· exact aS); (· exact s2); (· exact aE)) | refine nx ?_ | refine X.cdT ?_ | refine X.cdF ?_ | (refine WP.condBit rfl ?_ ?_) | (refine WP.cond rfl ?_ ?_ <;> intro hcond) | (apply X.gsE; (· exact aR); (· exact aV); (· exact aW); (· intro hc; first | (exact .eff (.loadO rfl rfl (readAl (i := a + i) (by omega) hx))) | (exact .eff (.loadO rfl rfl (readAl (i := b + i) (by omega) hy)))); (· exact aR)) | refine rb ?_ | refine nd ?_ | refine dk ?_ | fail)
    refine ⟨i + 1, by omega, by omega, ?_⟩
    try dsimp only
    rw [hs]
    refine St.to [] [] rfl rfl ?_ ?_ <;> (repeat' (first | exact tA | refine t1 ?_ | exact tB | refine t2 ?_ ?_ | refine t3 ?_ | refine t4 ?_ ?_ | refine .ofEq ?_ | refine OB.To.cut rfl rfl ?_ ?_ ?_ ?_ | refine OB.To.box rfl rfl ?_ | refine ⟨⟨_, rfl, ?_⟩, ?_⟩ | refine ⟨?_, ?_⟩ | fail))
    all_goals first | omega | (simp; done)
end Go.Proofs.YtmidechdlbcepaaGreat.AS

namespace Go.Proofs.YtmidechdlbcepaaGreat.AS
open Go.RowKit
set_option maxRecDepth 100000

def ltA (x y : Option Ar) : Bool := match x, y with
  | some x, some y => decide (cmpA x y < 0)
  | _, _ => false
def bub (a : Nat) : Nat → List Ar → List Ar
  | 0, l => l
  | j + 1, l => if a < j + 1 ∧ ltA l[j + 1]? l[j]? = true then bub a j (swp l (j + 1) j) else l
theorem bub_len (a : Nat) : ∀ (j : Nat) (l : List Ar), (bub a j l).length = l.length
  | 0, _ => rfl
  | j + 1, l => by
    rw [bub]
    split
    · rw [bub_len a j, swp_len]
    · rfl
def insN (l : List Ar) (a : Nat) : Nat → List Ar
  | 0 => l
  | k + 1 => bub a (a + 1 + k) (insN l a k)
theorem insN_len (l : List Ar) (a : Nat) : ∀ k, (insN l a k).length = l.length
  | 0 => rfl
  | k + 1 => by rw [insN, bub_len, insN_len l a k]
theorem swp_mem {l : List Ar} {i j : Nat} {x : Ar} (h : x ∈ swp l i j) : x ∈ l := by
  unfold swp at h
  split at h
  · rename_i a b h1 h2
    rcases List.mem_or_eq_of_mem_set h with h | rfl
    · rcases List.mem_or_eq_of_mem_set h with h | rfl
      · exact h
      · exact List.mem_of_getElem? h2
    · exact List.mem_of_getElem? h1
  · exact h
theorem bub_mem {a : Nat} : ∀ {j : Nat} {l : List Ar} {x : Ar}, x ∈ bub a j l → x ∈ l
  | 0, _, _, h => h
  | j + 1, l, x, h => by
    rw [bub] at h
    split at h
    · exact swp_mem (bub_mem h)
    · exact h
theorem insN_mem {l : List Ar} {a : Nat} {x : Ar} : ∀ {k : Nat}, x ∈ insN l a k → x ∈ l
  | 0, h => h
  | k + 1, h => insN_mem (bub_mem h)
set_option maxHeartbeats 8000000 in
theorem insertion_T (l : List Ar) (a b : Nat) (hr : ∀ x ∈ l, ArR x) (ha : a ≤ b) (hb : b ≤ l.length) (hl : l.length ≤ 40) : FunO Tryz.prog 143 [.osl 1000, .fv (.int .i64 a), .fv (.int .i64 b), .fn 78 []] [(1000, arRw l)] (.tup []) [(1000, arRw (insN l a (b - (a + 1))))] := by
  refine FunO.bodyL tbl_ok Tryz.func143 rfl (by kernel_rfl) rfl rfl rfl ?_
  have hlen := insN_len l a
  have hmem := fun k x => @insN_mem l a x k
  unfold arRw
  repeat' (first | refine X.loc ?_ | refine nx ?_ | refine X.cdT ?_ | refine X.cdF ?_ | (refine WP.condBit rfl ?_ ?_) | (refine WP.cond rfl ?_ ?_ <;> intro hcond) | refine rb ?_ | refine nd ?_ | refine dk ?_ | fail)
  refine WP.loop (ι := Nat) (fun k => ⟨[(0, .osl 1000), (1, .fv (.int .i64 a)), (2, .fv (.int .i64 b)), (3, .fn 78 []), (8, .fv (.int .i64 (a + 1 + k : Nat)))], [(1000, .row 41 9 (insN l a k).length (((insN l a k).flatMap encAr).map .fv))]⟩) (fun k => k ≤ b - (a + 1)) (fun k => b - (a + 1) - k) 0 (by omega) ?_ ?_
  · try dsimp only
    rw [show insN l a 0 = l from rfl, show ((a + 1 + 0 : Nat) : Int) = (a : Int) + 1 by omega]
    refine St.to [] [] rfl rfl ?_ ?_ <;> (repeat' (first | exact tA | refine t1 ?_ | exact tB | refine t2 ?_ ?_ | refine t3 ?_ | refine t4 ?_ ?_ | refine .ofEq ?_ | refine OB.To.cut rfl rfl ?_ ?_ ?_ ?_ | refine OB.To.box rfl rfl ?_ | refine ⟨⟨_, rfl, ?_⟩, ?_⟩ | refine ⟨?_, ?_⟩ | fail))
  rintro k hk
  try dsimp only
  rw [show ((a + 1 + k : Nat) : Int) = (a : Int) + 1 + (k : Int) by omega]
  by_cases hlt : a + 1 + k < b
  case neg =>
    obtain rfl : k = b - (a + 1) := by omega
    generalize insN l a (b - (a + 1)) = R at *
    repeat' (first | refine X.loc ?_ | refine nx ?_ | refine X.cdT ?_ | refine X.cdF ?_ | (refine WP.condBit rfl ?_ ?_) | (refine WP.cond rfl ?_ ?_ <;> intro hcond) | refine rb ?_ | refine nd ?_ | refine dk ?_ | fail)
    refine .ofL (s' := ⟨[], [(1000, .row 41 9 R.length ((R.flatMap encAr).map .fv))]⟩) (by first | exact .inl rfl | exact .inr rfl) ?_ rfl rfl (by repeat' (first | exact trivial | refine ⟨⟨_, rfl, fun _ _ _ _ h => h⟩, ?_⟩))
    refine St.to [] [] rfl rfl ?_ ?_ <;> (repeat' (first | exact tA | refine t1 ?_ | exact tB | refine t2 ?_ ?_ | refine t3 ?_ | refine t4 ?_ ?_ | refine .ofEq ?_ | refine OB.To.cut rfl rfl ?_ ?_ ?_ ?_ | refine OB.To.box rfl rfl ?_ | refine ⟨⟨_, rfl, ?_⟩, ?_⟩ | refine ⟨?_, ?_⟩ | fail))
  case pos =>
    have h1 := hlen k
    have h2 := hmem k
    have hs : insN l a (k + 1) = bub a (a + 1 + k) (insN l a k) := rfl
    have hT := hlen (k + 1)
    rw [hs] at hT
    generalize insN l a k = R at *
    generalize hTT : bub a (a + 1 + k) R = T at *
    repeat' (first | refine X.loc ?_ | refine nx ?_ | refine X.cdT ?_ | refine X.cdF ?_ | (refine WP.condBit rfl ?_ ?_) | (refine WP.cond rfl ?_ ?_ <;> intro hcond) | refine rb ?_ | refine nd ?_ | refine dk ?_ | fail)
    refine WP.loop (ι := Nat × List Ar) (fun q => ⟨[(0, .osl 1000), (1, .fv (.int .i64 a)), (2, .fv (.int .i64 b)), (3, .fn 78 []), (8, .fv (.int .i64 ((a : Int) + 1 + (k : Int)))), (9, .fv (.int .i64 q.1))], [(1000, .row 41 9 q.2.length ((q.2.flatMap encAr).map .fv))]⟩) (fun q => q.1 ≤ a + 1 + k ∧ q.2.length = l.length ∧ (∀ x ∈ q.2, ArR x) ∧ bub a q.1 q.2 = T) (fun q => q.1) (a + 1 + k, R) ⟨by dsimp only; omega, h1, fun x hx => hr x (h2 x hx), hTT⟩ ?_ ?_
    · try dsimp only
      rw [show ((a + 1 + k : Nat) : Int) = (a : Int) + 1 + (k : Int) by omega]
      refine St.to [] [] rfl rfl ?_ ?_ <;> (repeat' (first | exact tA | refine t1 ?_ | exact tB | refine t2 ?_ ?_ | refine t3 ?_ | refine t4 ?_ ?_ | refine .ofEq ?_ | refine OB.To.cut rfl rfl ?_ ?_ ?_ ?_ | refine OB.To.box rfl rfl ?_ | refine ⟨⟨_, rfl, ?_⟩, ?_⟩ | refine ⟨?_, ?_⟩ | fail))
    rintro ⟨j, Q⟩ ⟨g1, g2, g3, g4⟩
    try dsimp only at g1 g2 g3 g4
    try dsimp only
    by_cases hja : a < j
    case neg =>
      have e : Q = T := by
        cases j with
        | zero => exact g4
        | succ j => rw [bub, if_neg (by omega)] at g4; exact g4
      subst e
      repeat' (first | refine X.loc ?_ | (refine X.gst (r := .fv (.bool false)) ?_ (hE := fun hc => absurd hc (by simp only [decide_eq_true_eq]; omega))) | refine nx ?_ | refine X.cdT ?_ | refine X.cdF ?_ | (refine WP.condBit rfl ?_ ?_) | (refine WP.cond rfl ?_ ?_ <;> intro hcond) | refine rb ?_ | refine nd ?_ | refine dk ?_ | fail)
      refine ⟨k + 1, by omega, by omega, ?_⟩
      try dsimp only
      rw [hs, show ((a + 1 + (k + 1) : Nat) : Int) = (a : Int) + 1 + (k : Int) + 1 by omega]
      refine St.to [] [] rfl rfl ?_ ?_ <;> (repeat' (first | exact tA | refine t1 ?_ | exact tB | refine t2 ?_ ?_ | refine t3 ?_ | refine t4 ?_ ?_ | refine .ofEq ?_ | refine OB.To.cut rfl rfl ?_ ?_ ?_ ?_ | refine OB.To.box rfl rfl ?_ | refine ⟨⟨_, rfl, ?_⟩, ?_⟩ | refine ⟨?_, ?_⟩ | fail))
    case pos =>
      obtain ⟨j, rfl⟩ : ∃ i, j = i + 1 := ⟨j - 1, by omega⟩
      obtain ⟨x, hx⟩ : ∃ x, Q[j + 1]? = some x := ⟨_, List.getElem?_eq_getElem (by omega)⟩
      obtain ⟨y, hy⟩ : ∃ y, Q[j]? = some y := ⟨_, List.getElem?_eq_getElem (by omega)⟩
      have hc := cmpA_T x y (g3 x (List.mem_of_getElem? hx)) (g3 y (List.mem_of_getElem? hy))
      rw [bub, hx, hy] at g4
      have hlt2 : ltA (some x) (some y) = decide (cmpA x y < 0) := rfl
      rw [hlt2] at g4
      have hsw : swp Q (j + 1) j = (Q.set (j + 1) y).set j x := by rw [swp, hx, hy]
      have hsl := swp_len Q (j + 1) j
      have hsm := fun z => @swp_mem Q (j + 1) j z
      generalize cmpA x y = o at *
      rw [show ((j + 1 : Nat) : Int) = (j : Int) + 1 by omega]
      by_cases ho : o < 0
      · rw [if_pos ⟨hja, decide_eq_true ho⟩] at g4
        have s1 := setAl (l := Q) (i := j + 1) (off := ((j : Int) + 1).toNat * 9) (x := y) (by omega) (by omega)
        have s2 := setAl (l := Q.set (j + 1) y) (i := j) (off := ((j : Int) + 1 - 1).toNat * 9) (x := x) (by omega) (by rw [List.length_set]; omega)
        rw [← hsw] at s2
        generalize swp Q (j + 1) j = Q2 at *
        repeat' (first | (apply X.loE; (· exact aR); (· first | (exact .eff (.loadO rfl rfl (readAl (i := j + 1) (by omega) hx))) | (exact .eff (.loadO rfl rfl (readAl (i := j) (by omega) hy))))) | refine X.loc ?_ | (apply X.grd; (· exact aR); (· exact decide_eq_true (by omega)); (· first |(refine X.loc ?_; exact X.nil ⟨rfl, rfl⟩) |(apply X.loE; (· exact aR); (· first |exact .eff (.loadO rfl rfl (readAl (i := j + 1) (by omega) hx)) |exact .eff (.loadO rfl rfl (readAl (i := j) (by omega) hy)) |exact .callL rfl rfl rfl hc rfl); exact X.nil ⟨rfl, rfl⟩)); (· rfl)) | (apply X.stRE; (· exact aS); (· exact s1); (· exact aE)) | (apply X.stRE; (· exact aS); (· exact s2); (· exact aE)) | refine nx ?_ | refine X.cdT ?_ | refine X.cdF ?_ | (refine WP.condBit rfl ?_ ?_) | (refine WP.cond rfl ?_ ?_ <;> intro hcond) | (apply X.gsE; (· exact aR); (· exact aV); (· exact aW); (· intro hc; first | (exact .eff (.loadO rfl rfl (readAl (i := j + 1) (by omega) hx))) | (exact .eff (.loadO rfl rfl (readAl (i := j) (by omega) hy)))); (· exact aR)) | refine rb ?_ | refine nd ?_ | refine dk ?_ | fail)
        refine ⟨(j, Q2), ⟨by dsimp only; omega, by dsimp only; omega, fun z hz => g3 z (hsm z hz), g4⟩, by dsimp only; omega, ?_⟩
        try dsimp only
        rw [show (j : Int) = (j : Int) + 1 - 1 by omega]
        refine St.to [] [] rfl rfl ?_ ?_ <;> (repeat' (first | exact tA | refine t1 ?_ | exact tB | refine t2 ?_ ?_ | refine t3 ?_ | refine t4 ?_ ?_ | refine .ofEq ?_ | refine OB.To.cut rfl rfl ?_ ?_ ?_ ?_ | refine OB.To.box rfl rfl ?_ | refine ⟨⟨_, rfl, ?_⟩, ?_⟩ | refine ⟨?_, ?_⟩ | fail))
        all_goals first | omega | (simp; done)
      · rw [if_neg (fun h => ho (of_decide_eq_true h.2))] at g4
        subst g4
        repeat' (first | refine X.loc ?_ | (apply X.grd; (· exact aR); (· exact decide_eq_true (by omega)); (· first |(refine X.loc ?_; exact X.nil ⟨rfl, rfl⟩) |(apply X.loE; (· exact aR); (· first |exact .eff (.loadO rfl rfl (readAl (i := j + 1) (by omega) hx)) |exact .eff (.loadO rfl rfl (readAl (i := j) (by omega) hy)) |exact .callL rfl rfl rfl hc rfl); exact X.nil ⟨rfl, rfl⟩)); (· rfl)) | refine nx ?_ | refine X.cdT ?_ | refine X.cdF ?_ | (refine WP.condBit rfl ?_ ?_) | (refine WP.cond rfl ?_ ?_ <;> intro hcond) | refine rb ?_ | refine nd ?_ | refine dk ?_ | fail)
        refine ⟨k + 1, by omega, by omega, ?_⟩
        try dsimp only
        rw [hs, show ((a + 1 + (k + 1) : Nat) : Int) = (a : Int) + 1 + (k : Int) + 1 by omega]
        refine St.to [] [] rfl rfl ?_ ?_ <;> (repeat' (first | exact tA | refine t1 ?_ | exact tB | refine t2 ?_ ?_ | refine t3 ?_ | refine t4 ?_ ?_ | refine .ofEq ?_ | refine OB.To.cut rfl rfl ?_ ?_ ?_ ?_ | refine OB.To.box rfl rfl ?_ | refine ⟨⟨_, rfl, ?_⟩, ?_⟩ | refine ⟨?_, ?_⟩ | fail))
end Go.Proofs.YtmidechdlbcepaaGreat.AS

namespace Go.Proofs.YtmidechdlbcepaaGreat.AS
open Go.RowKit

theorem swp_two (Q D : List Ar) (x y : Ar) : swp (Q ++ y :: x :: D) (Q.length + 1) Q.length = Q ++ x :: y :: D := by
  have h1 : (Q ++ y :: x :: D)[Q.length + 1]? = some x := by rw [List.getElem?_append_right (by omega)]; simp
  have h2 : (Q ++ y :: x :: D)[Q.length]? = some y := by rw [List.getElem?_append_right (by omega)]; simp
  rw [swp, h1, h2]
  dsimp only
  rw [List.set_append_right _ _ (by omega), List.set_append_right _ _ (by omega)]
  simp
theorem StabA.snoc {R S : List Ar} {x y : Ar} (h : StabA R (S ++ [x])) (hy : ∀ z ∈ S, y.prio ≤ z.prio) (hxy : y.prio < x.prio) : StabA (R ++ [y]) (S ++ [y] ++ [x]) := by
  refine ⟨List.pairwise_append.2 ⟨h.ord, List.pairwise_singleton _ _, fun z hz w hw => ?_⟩, fun p => ?_⟩
  · obtain rfl := List.mem_singleton.1 hw
    rw [h.mem, List.mem_append] at hz
    rcases hz with hz | hz
    · exact hy z hz
    · obtain rfl := List.mem_singleton.1 hz
      omega
  · rw [List.filter_append, h.flt, List.filter_append, List.filter_append, List.filter_append, List.append_assoc, List.append_assoc]
    congr 1
    by_cases hx : x.prio = p
    · have : ¬ y.prio = p := by omega
      simp [hx, this]
    · simp [hx]
theorem bub_is (P : List Ar) (x : Ar) : ∀ (n : Nat) (S D : List Ar), S.length = n → S.Pairwise (fun x y => y.prio ≤ x.prio) → ∃ R, bub P.length (P.length + n) (P ++ S ++ x :: D) = P ++ R ++ D ∧ StabA R (S ++ [x])
  | 0, S, D, hn, _ => by
    obtain rfl := List.eq_nil_of_length_eq_zero hn
    refine ⟨[x], ?_, List.pairwise_singleton _ _, fun p => by simp⟩
    have e : bub P.length (P.length + 0) (P ++ [] ++ x :: D) = P ++ [] ++ x :: D := by
      cases h : P.length with
      | zero => rfl
      | succ k => rw [Nat.add_zero, bub, if_neg (by omega)]
    rw [e]
    simp
  | n + 1, S, D, hn, hS => by
    obtain ⟨S', y, rfl⟩ : ∃ S' y, S = S' ++ [y] := by
      rcases List.eq_nil_or_concat S with rfl | ⟨S', y, h⟩
      · simp at hn
      · exact ⟨S', y, by simpa using h⟩
    have hn' : S'.length = n := by simpa using hn
    obtain ⟨h1, _, h2⟩ := List.pairwise_append.1 hS
    have hl : P ++ (S' ++ [y]) ++ x :: D = (P ++ S') ++ y :: x :: D := by simp
    have hQ : (P ++ S').length = P.length + n := by simp [hn']
    have e1 : ((P ++ S') ++ y :: x :: D)[P.length + n + 1]? = some x := by rw [List.getElem?_append_right (by omega), hQ]; simp
    have e2 : ((P ++ S') ++ y :: x :: D)[P.length + n]? = some y := by rw [List.getElem?_append_right (by omega), hQ]; simp
    rw [hl, ← Nat.add_assoc, bub, e1, e2]
    by_cases hxy : y.prio < x.prio
    · rw [if_pos ⟨by omega, decide_eq_true (show cmpA x y < 0 by unfold cmpA; omega)⟩, ← hQ, swp_two, hQ]
      obtain ⟨R, r1, r2⟩ := bub_is P x n S' (y :: D) hn' h1
      refine ⟨R ++ [y], ?_, r2.snoc (fun z hz => h2 z hz y (by simp)) hxy⟩
      rw [r1]
      simp
    · rw [if_neg (fun h => hxy (by have h3 : cmpA x y < 0 := of_decide_eq_true h.2; unfold cmpA at h3; omega))]
      refine ⟨S' ++ [y] ++ [x], by simp, ?_, fun _ => rfl⟩
      refine List.pairwise_append.2 ⟨hS, List.pairwise_singleton _ _, fun z hz w hw => ?_⟩
      obtain rfl := List.mem_singleton.1 hw
      rcases List.mem_append.1 hz with hz | hz
      · have := h2 z hz y (by simp)
        omega
      · obtain rfl := List.mem_singleton.1 hz
        omega
theorem StabA.trans {R S T : List Ar} (h : StabA R (S ++ T)) {U : List Ar} (hS : StabA S U) : StabA R (U ++ T) := ⟨h.ord, fun p => by rw [h.flt, List.filter_append, List.filter_append, hS.flt]⟩
theorem insN_is (l : List Ar) (a : Nat) : ∀ k, a + 1 + k ≤ l.length → ∃ R, insN l a k = l.take a ++ R ++ l.drop (a + 1 + k) ∧ StabA R ((l.take (a + 1 + k)).drop a)
  | 0, h => by
    obtain ⟨x, hx⟩ : ∃ x, l[a]? = some x := ⟨_, List.getElem?_eq_getElem (by omega)⟩
    refine ⟨(l.take (a + 1)).drop a, ?_, ?_, fun _ => rfl⟩
    · rw [insN]
      have e : l.take a = (l.take (a + 1)).take a := by rw [List.take_take, Nat.min_eq_left (by omega)]
      rw [e, List.take_append_drop, Nat.add_zero, List.take_append_drop]
    · rw [List.take_add_one, hx, List.drop_append_of_le_length (by rw [List.length_take]; omega), List.drop_eq_nil_of_le (by rw [List.length_take]; omega)]
      simp
  | k + 1, h => by
    obtain ⟨S, e, hS⟩ := insN_is l a k (by omega)
    obtain ⟨x, hx⟩ : ∃ x, l[a + 1 + k]? = some x := ⟨_, List.getElem?_eq_getElem (by omega)⟩
    have hd : l.drop (a + 1 + k) = x :: l.drop (a + 1 + k + 1) := by rw [List.drop_eq_getElem_cons (by omega), (List.getElem?_eq_some_iff.1 hx).2]
    have hPl : (l.take a).length = a := by rw [List.length_take]; omega
    have hSl : S.length = 1 + k := by
      have h1 := congrArg List.length e
      rw [insN_len, List.length_append, List.length_append, hPl, List.length_drop] at h1
      omega
    obtain ⟨R, r1, r2⟩ := bub_is (l.take a) x (1 + k) S (l.drop (a + 1 + k + 1)) hSl hS.ord
    refine ⟨R, ?_, ?_⟩
    · rw [insN, e, hd]
      rw [hPl, ← Nat.add_assoc] at r1
      exact r1
    · have h3 := r2.trans hS
      have e4 : (l.take (a + 1 + (k + 1))).drop a = (l.take (a + 1 + k)).drop a ++ [x] := by
        rw [show a + 1 + (k + 1) = a + 1 + k + 1 by omega, List.take_add_one, hx, List.drop_append_of_le_length (by rw [List.length_take]; omega)]
        rfl
      rw [e4]
      exact h3
theorem insN_sort (l : List Ar) {a b : Nat} (ha : a ≤ b) (hb : b ≤ l.length) : insN l a (b - (a + 1)) = l.take a ++ sortA ((l.take b).drop a) ++ l.drop b := by
  by_cases h : a = b
  · subst h
    rw [show a - (a + 1) = 0 by omega, insN, List.drop_eq_nil_of_le (by rw [List.length_take]; omega)]
    have : sortA [] = [] := by simp [sortA]
    rw [this]
    simp
  · obtain ⟨R, e, hR⟩ := insN_is l a (b - (a + 1)) (by omega)
    rw [show a + 1 + (b - (a + 1)) = b by omega] at e hR
    rw [e, hR.is]
end Go.Proofs.YtmidechdlbcepaaGreat.AS
