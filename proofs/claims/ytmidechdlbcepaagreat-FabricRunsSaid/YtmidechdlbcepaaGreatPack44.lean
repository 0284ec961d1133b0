import Derived.Test.YtmidechdlbcepaaGreatPack43
import Derived.Test.YtmidechdlbcepaaGreatPack39
import Derived.Test.YtmidechdlbcepaaGreatPack36
import Derived.Test.YtmidechdlbcepaaGreatPack42
import Derived.Test.YtmidechdlbcepaaGreatPack26
import Derived.Test.YtmidechdlbcepaaGreatPack33
set_option linter.unusedSimpArgs false
set_option linter.unusedVariables false
namespace Go.Proofs.YtmidechdlbcepaaGreat.AS
open Go.RowKit
set_option maxRecDepth 100000
set_option maxHeartbeats 8000000 in
theorem symMerge_T : ∀ (n : Nat) (l : List Ar) (a m b : Nat), b - a = n → (∀ x ∈ l, ArR x) → a < m → m < b → b ≤ l.length → l.length ≤ 40 → ((l.take m).drop a).Pairwise (fun x y => y.prio ≤ x.prio) → ((l.take b).drop m).Pairwise (fun x y => y.prio ≤ x.prio) →
    FunO Tryz.prog 144 [.osl 1000, .fv (.int .i64 a), .fv (.int .i64 m), .fv (.int .i64 b), .fn 78 []] [(1000, arRw l)] (.tup []) [(1000, arRw (mrgL l a b))] := by
  intro n
  induction n using Nat.strongRecOn with
  | _ n ih =>
    intro l a m b hn hr ham hmb hb hl oA oB
    by_cases k1 : m = a + 1
    · subst k1
      exact symMerge1_T l a b hr hmb hb hl oB
    by_cases k2 : b = m + 1
    · subst k2
      exact symMerge2_T l a m hr (by omega) hb hl oA
    obtain ⟨d, hd⟩ : ∃ d : Nat, d = (a + b) / 2 := ⟨_, rfl⟩
    have hdI : ((a : Int) + (b : Int)) / 2 = (d : Int) := by omega
    refine FunO.bodyL tbl_ok Tryz.func144 rfl (by kernel_rfl) rfl rfl rfl ?_
    unfold arRw
    repeat' (first | with_reducible refine WP.hold 140 ?_ | (apply X.loE; (· exact aR); (· first | (exact .eff (.toU rfl rfl rfl (by omega) (by omega))) | (exact .eff (.toI rfl rfl rfl (by omega) (by omega))) | (exact .eff (.half rfl rfl)))) | refine X.loc ?_ | refine nx ?_ | refine X.cdT ?_ | refine X.cdF ?_ | refine cb ?_ ?_ | (refine cc ?_ ?_ <;> intro hcond) | (apply X.gsE; (· exact aR); (· exact aV); (· exact aW); (· intro hc; first | (exact .eff (.toU rfl rfl rfl (by omega) (by omega))) | (exact .eff (.toI rfl rfl rfl (by omega) (by omega))) | (exact .eff (.half rfl rfl))); (· exact aR)) | refine rb ?_ | refine nd ?_ | refine dk ?_ | fail)
    all_goals (try apply Held.mk)
    refine WP.join (ι := Nat × Nat) (fun q => ⟨[(0, .osl 1000), (1, .fv (.int .i64 a)), (2, .fv (.int .i64 m)), (3, .fv (.int .i64 b)), (4, .fn 78 []), (18, .fv (.int .i64 d)), (19, .fv (.int .i64 ((d : Int) + (m : Int)))), (20, .fv (.int .i64 q.1)), (21, .fv (.int .i64 q.2))], [(1000, .row 41 9 l.length ((l.flatMap encAr).map .fv))]⟩) (fun q => (q.1 = a ∧ q.2 = m ∧ m ≤ d) ∨ (q.1 + b = d + m ∧ q.2 = d ∧ d < m)) ?_ ?_
    · by_cases hdm : d < m
      · skip
        repeat' (first | refine X.loc ?_ | refine nx ?_ | refine X.cdT ?_ | refine X.cdF ?_ | refine cb ?_ ?_ | (refine cc ?_ ?_ <;> intro hcond) | refine rb ?_ | refine nd ?_ | refine dk ?_ | fail)
        refine ⟨(d + m - b, d), .inr ⟨by dsimp only; omega, rfl, hdm⟩, ?_⟩
        try dsimp only
        rw [show ((d + m - b : Nat) : Int) = (d : Int) + (m : Int) - (b : Int) by omega, hdI]
        exact tq [] []
      · skip
        repeat' (first | refine X.loc ?_ | refine nx ?_ | refine X.cdT ?_ | refine X.cdF ?_ | refine cb ?_ ?_ | (refine cc ?_ ?_ <;> intro hcond) | refine rb ?_ | refine nd ?_ | refine dk ?_ | fail)
        refine ⟨(a, m), .inl ⟨rfl, rfl, by omega⟩, ?_⟩
        try dsimp only
        rw [hdI]
        exact tq [] []
    · rintro ⟨lo, hi⟩ hq
      try dsimp only at hq
      try dsimp only
      repeat' (first | refine X.loc ?_ | refine nx ?_ | refine X.cdT ?_ | refine X.cdF ?_ | refine cb ?_ ?_ | (refine cc ?_ ?_ <;> intro hcond) | refine rb ?_ | refine nd ?_ | refine dk ?_ | fail)
      refine WP.loop (ι := Nat × Nat) (fun q => ⟨[(0, .osl 1000), (1, .fv (.int .i64 a)), (2, .fv (.int .i64 m)), (3, .fv (.int .i64 b)), (4, .fn 78 []), (18, .fv (.int .i64 d)), (19, .fv (.int .i64 ((d : Int) + (m : Int)))), (22, .fv (.int .i64 ((d : Int) + (m : Int) - 1))), (20, .fv (.int .i64 q.1)), (21, .fv (.int .i64 q.2))], [(1000, .row 41 9 l.length ((l.flatMap encAr).map .fv))]⟩) (fun q => lo ≤ q.1 ∧ q.1 ≤ q.2 ∧ q.2 ≤ hi ∧ (∀ k x y, lo ≤ k → k < q.1 → l[k]? = some x → l[d + m - 1 - k]? = some y → ¬ cmpA y x < 0) ∧ (∀ k x y, q.2 ≤ k → k < hi → l[k]? = some x → l[d + m - 1 - k]? = some y → cmpA y x < 0)) (fun q => q.2 - q.1) (lo, hi) ⟨by dsimp only; omega, by dsimp only; omega, by dsimp only; omega, fun k x y h1 h2 => by dsimp only at h2; omega, fun k x y h1 h2 => by dsimp only at h1; omega⟩ ?_ ?_
      · try dsimp only
        exact tq [] []
      rintro ⟨i, j⟩ ⟨g1, g2, g3, g4, g5⟩
      try dsimp only at g1 g2 g3 g4 g5
      try dsimp only
      by_cases hij : i < j
      case pos =>
        obtain ⟨x, hx⟩ : ∃ x, l[(i + j) / 2]? = some x := ⟨_, List.getElem?_eq_getElem (by omega)⟩
        obtain ⟨y, hy⟩ : ∃ y, l[d + m - 1 - (i + j) / 2]? = some y := ⟨_, List.getElem?_eq_getElem (by omega)⟩
        have hc := cmpA_T y x (hr y (List.mem_of_getElem? hy)) (hr x (List.mem_of_getElem? hx))
        by_cases hlt : cmpA y x < 0
        · have g5' : ∀ k u v, (i + j) / 2 ≤ k → k < hi → l[k]? = some u → l[d + m - 1 - k]? = some v → cmpA v u < 0 := fun k u v k1 k2 hu hv => by
            have h3 := ord_at oA (show a ≤ (i + j) / 2 by omega) k1 (by omega) hx hu
            have h4 := ord_at oB (show m ≤ d + m - 1 - k by omega) (show d + m - 1 - k ≤ d + m - 1 - (i + j) / 2 by omega) (by omega) hv hy
            unfold cmpA at hlt ⊢
            omega
          generalize cmpA y x = o at *
          repeat' (first | (apply X.loE; (· exact aR); (· first | (exact .eff (.loadO rfl rfl (readAl (i := (i + j) / 2) (by omega) hx))) | (exact .eff (.loadO rfl rfl (readAl (i := d + m - 1 - (i + j) / 2) (by omega) hy))) | (exact .eff (.toU rfl rfl rfl (by omega) (by omega))) | (exact .eff (.toI rfl rfl rfl (by omega) (by omega))) | (exact .eff (.half rfl rfl)) | exact .callL rfl rfl rfl (hc) rfl | exact bl (hc))) | refine X.loc ?_ | refine nx ?_ | refine X.cdT ?_ | refine X.cdF ?_ | refine cb ?_ ?_ | (refine cc ?_ ?_ <;> intro hcond) | (apply X.gsE; (· exact aR); (· exact aV); (· exact aW); (· intro hc; first | (exact .eff (.loadO rfl rfl (readAl (i := (i + j) / 2) (by omega) hx))) | (exact .eff (.loadO rfl rfl (readAl (i := d + m - 1 - (i + j) / 2) (by omega) hy))) | (exact .eff (.toU rfl rfl rfl (by omega) (by omega))) | (exact .eff (.toI rfl rfl rfl (by omega) (by omega))) | (exact .eff (.half rfl rfl)) | exact .callG rfl rfl rfl (hc) rfl | exact bg (hc)); (· exact aR)) | refine rb ?_ | refine nd ?_ | refine dk ?_ | fail)
          all_goals try (exfalso; simp at hcond; omega)
          refine ⟨(i, (i + j) / 2), ⟨g1, by dsimp only; omega, by dsimp only; omega, g4, g5'⟩, by dsimp only; omega, ?_⟩
          try dsimp only
          rw [show (((i + j) / 2 : Nat) : Int) = ((i : Int) + (j : Int)) / 2 by omega]
          exact tq [] []
        · have g4' : ∀ k u v, lo ≤ k → k < (i + j) / 2 + 1 → l[k]? = some u → l[d + m - 1 - k]? = some v → ¬ cmpA v u < 0 := fun k u v k1 k2 hu hv => by
            have h3 := ord_at oA (show a ≤ k by omega) (show k ≤ (i + j) / 2 by omega) (by omega) hu hx
            have h4 := ord_at oB (show m ≤ d + m - 1 - (i + j) / 2 by omega) (show d + m - 1 - (i + j) / 2 ≤ d + m - 1 - k by omega) (by omega) hy hv
            unfold cmpA at hlt ⊢
            omega
          generalize cmpA y x = o at *
          repeat' (first | (apply X.loE; (· exact aR); (· first | (exact .eff (.loadO rfl rfl (readAl (i := (i + j) / 2) (by omega) hx))) | (exact .eff (.loadO rfl rfl (readAl (i := d + m - 1 - (i + j) / 2) (by omega) hy))) | (exact .eff (.toU rfl rfl rfl (by omega) (by omega))) | (exact .eff (.toI rfl rfl rfl (by omega) (by omega))) | (exact .eff (.half rfl rfl)) | exact .callL rfl rfl rfl (hc) rfl | exact bl (hc))) | refine X.loc ?_ | refine nx ?_ | refine X.cdT ?_ | refine X.cdF ?_ | refine cb ?_ ?_ | (refine cc ?_ ?_ <;> intro hcond) | (apply X.gsE; (· exact aR); (· exact aV); (· exact aW); (· intro hc; first | (exact .eff (.loadO rfl rfl (readAl (i := (i + j) / 2) (by omega) hx))) | (exact .eff (.loadO rfl rfl (readAl (i := d + m - 1 - (i + j) / 2) (by omega) hy))) | (exact .eff (.toU rfl rfl rfl (by omega) (by omega))) | (exact .eff (.toI rfl rfl rfl (by omega) (by omega))) | (exact .eff (.half rfl rfl)) | exact .callG rfl rfl rfl (hc) rfl | exact bg (hc)); (· exact aR)) | refine rb ?_ | refine nd ?_ | refine dk ?_ | fail)
          all_goals try (exfalso; simp at hcond; omega)
          refine ⟨((i + j) / 2 + 1, j), ⟨by dsimp only; omega, by dsimp only; omega, g3, g4', g5⟩, by dsimp only; omega, ?_⟩
          try dsimp only
          rw [show (((i + j) / 2 + 1 : Nat) : Int) = ((i : Int) + (j : Int)) / 2 + 1 by omega]
          exact tq [] []
      case neg =>
        obtain rfl : i = j := by omega
        obtain ⟨e, he⟩ : ∃ e : Nat, d + m = i + e := ⟨d + m - i, by omega⟩
        have b1 : a ≤ i := by omega
        have b2 : i ≤ m := by omega
        have b3 : m ≤ e := by omega
        have b4 : e ≤ b := by omega
        have c1 : i = a ∨ e = b ∨ ∃ x y, l[i - 1]? = some x ∧ l[e]? = some y ∧ ¬ cmpA y x < 0 := by
          by_cases hl : i = lo
          · rcases hq with hq | hq
            · exact .inl (by omega)
            · exact .inr (.inl (by omega))
          · by_cases heb : e = b
            · exact .inr (.inl heb)
            · obtain ⟨x, hx⟩ : ∃ x, l[i - 1]? = some x := ⟨_, List.getElem?_eq_getElem (by omega)⟩
              obtain ⟨y, hy⟩ : ∃ y, l[e]? = some y := ⟨_, List.getElem?_eq_getElem (by omega)⟩
              exact .inr (.inr ⟨x, y, hx, hy, g4 (i - 1) x y (by omega) (by omega) hx (by rw [show d + m - 1 - (i - 1) = e by omega]; exact hy)⟩)
        have c2 : i = m ∨ e = m ∨ ∃ x y, l[i]? = some x ∧ l[e - 1]? = some y ∧ cmpA y x < 0 := by
          by_cases hh : i = hi
          · rcases hq with hq | hq
            · exact .inl (by omega)
            · exact .inr (.inl (by omega))
          · by_cases hem : e = m
            · exact .inr (.inl hem)
            · obtain ⟨x, hx⟩ : ∃ x, l[i]? = some x := ⟨_, List.getElem?_eq_getElem (by omega)⟩
              obtain ⟨y, hy⟩ : ∃ y, l[e - 1]? = some y := ⟨_, List.getElem?_eq_getElem (by omega)⟩
              exact .inr (.inr ⟨x, y, hx, hy, g5 i x y (by omega) (by omega) hx (by rw [show d + m - 1 - i = e - 1 by omega]; exact hy)⟩)
        have hend := sym_end b1 b2 b3 b4 hb he oA oB c1 c2
        clear c1 c2 g4 g5
        obtain ⟨t1', t2', t3', t4', t5', t6'⟩ := turned_seg l b1 b2 b3 b4 hb he
        have rt := fun h1 h2 => rotate_T l i m e h1 h2 (by omega) hl
        have htu : turned l i m e = if i < m ∧ m < e then rotL l m (m - i) (e - m) else l := rfl
        unfold arRw at rt
        rw [← hend]
        generalize turned l i m e = T at *
        repeat' (first | with_reducible refine WP.hold 185 ?_ | refine X.loc ?_ | refine nx ?_ | refine X.cdT ?_ | refine X.cdF ?_ | refine cb ?_ ?_ | (refine cc ?_ ?_ <;> intro hcond) | refine rb ?_ | refine nd ?_ | refine dk ?_ | fail)
        all_goals (try apply Held.mk)
        refine WP.join (ι := Unit) (fun _ => ⟨[(0, .osl 1000), (1, .fv (.int .i64 a)), (2, .fv (.int .i64 m)), (3, .fv (.int .i64 b)), (4, .fn 78 []), (18, .fv (.int .i64 d)), (20, .fv (.int .i64 i)), (24, .fv (.int .i64 e))], [(1000, .row 41 9 T.length ((T.flatMap encAr).map .fv))]⟩) (fun _ => True) ?_ ?_
        · have hei : (d : Int) + (m : Int) - (i : Int) = (e : Int) := by omega
          by_cases hrot : i < m ∧ m < e
          · rw [if_pos hrot] at htu
            have u1 := rt hrot.1 hrot.2
            rw [← htu, ← hei] at u1
            repeat' (first | refine X.loc ?_ | refine nx ?_ | refine X.cdT ?_ | refine X.cdF ?_ | refine cb ?_ ?_ | (refine cc ?_ ?_ <;> intro hcond) | refine rb ?_ | refine X.c0 (u1) ?_ | refine nd ?_ | refine dk ?_ | fail)
            refine ⟨(), trivial, ?_⟩
            try dsimp only
            rw [← hei]
            exact tq [] []
          · rw [if_neg hrot] at htu
            subst htu
            repeat' (first | refine X.loc ?_ | refine nx ?_ | refine X.cdT ?_ | refine X.cdF ?_ | refine cb ?_ ?_ | (refine cc ?_ ?_ <;> intro hcond) | refine rb ?_ | refine nd ?_ | refine dk ?_ | fail)
            refine ⟨(), trivial, ?_⟩
            try dsimp only
            rw [← hei]
            exact tq [] []
        · rintro _ _
          try dsimp only
          have hTr : ∀ x ∈ T, ArR x := fun x hx => hr x (t6' x hx)
          have oS := split3 (l := l) (a := a) (b := i) (c := m) b1 b2
          rw [oS] at oA
          have oS2 := split3 (l := l) (a := m) (b := e) (c := b) b3 b4
          rw [oS2] at oB
          obtain ⟨oA1, oA2, _⟩ := List.pairwise_append.1 oA
          obtain ⟨oB1, oB2, _⟩ := List.pairwise_append.1 oB
          rw [← t2'] at oA1
          rw [← t4'] at oA2
          rw [← t3'] at oB1
          rw [← t5'] at oB2
          repeat' (first | with_reducible refine WP.hold 199 ?_ | refine X.loc ?_ | refine nx ?_ | refine X.cdT ?_ | refine X.cdF ?_ | refine cb ?_ ?_ | (refine cc ?_ ?_ <;> intro hcond) | refine rb ?_ | refine nd ?_ | refine dk ?_ | fail)
          all_goals (try apply Held.mk)
          refine WP.join (ι := Unit) (fun _ => ⟨[(0, .osl 1000), (1, .fv (.int .i64 a)), (2, .fv (.int .i64 m)), (3, .fv (.int .i64 b)), (4, .fn 78 []), (18, .fv (.int .i64 d)), (20, .fv (.int .i64 i)), (24, .fv (.int .i64 e))], [(1000, .row 41 9 (mrgL T a d).length (((mrgL T a d).flatMap encAr).map .fv))]⟩) (fun _ => True) ?_ ?_
          · by_cases hc1 : a < i ∧ i < d
            · have u1 := ih (d - a) (by omega) T a i d rfl hTr hc1.1 hc1.2 (by omega) (by omega) oA1 oB1
              unfold arRw at u1
              repeat' (first | refine X.loc ?_ | refine nx ?_ | refine X.cdT ?_ | refine X.cdF ?_ | refine cb ?_ ?_ | (refine cc ?_ ?_ <;> intro hcond) | refine rb ?_ | refine X.c0 (u1) ?_ | refine nd ?_ | refine dk ?_ | fail)
              refine ⟨(), trivial, ?_⟩
              exact tq [] []
            · have e1 : mrgL T a d = T := by
                have hs := split3 (l := T) (a := a) (b := i) (c := d) b1 (by omega)
                refine mrgL_id (by omega) (by omega) ?_
                rw [hs]
                have n1 : (T.take i).drop a = [] ∨ (T.take d).drop i = [] := by
                  rcases Nat.lt_or_ge a i with h | h
                  · right
                    exact List.eq_nil_of_length_eq_zero (by rw [seg_len T (by omega) (by omega)]; omega)
                  · left
                    exact List.eq_nil_of_length_eq_zero (by rw [seg_len T (by omega) (by omega)]; omega)
                rcases n1 with n1 | n1
                · rw [n1, List.nil_append]
                  exact oB1
                · rw [n1, List.append_nil]
                  exact oA1
              rw [e1]
              repeat' (first | refine X.loc ?_ | refine nx ?_ | refine X.cdT ?_ | refine X.cdF ?_ | refine cb ?_ ?_ | (refine cc ?_ ?_ <;> intro hcond) | refine rb ?_ | refine nd ?_ | refine dk ?_ | fail)
              refine ⟨(), trivial, ?_⟩
              exact tq [] []
          · rintro _ _
            try dsimp only
            have hRl : (mrgL T a d).length = T.length := mrgL_len (by omega) (by omega)
            have hRr : ∀ x ∈ mrgL T a d, ArR x := fun x hx => hTr x (mrgL_mem hx)
            have q1 := mrgL_seg (l := T) (a := a) (d := d) (p := d) (q := e) (by omega) (by omega) (by omega) (by omega) (by omega)
            have q2 := mrgL_seg (l := T) (a := a) (d := d) (p := e) (q := b) (by omega) (by omega) (by omega) (by omega) (by omega)
            rw [← q1] at oA2
            rw [← q2] at oB2
            generalize mrgL T a d = R at *
            by_cases hc2 : d < e ∧ e < b
            · have u1 := ih (b - d) (by omega) R d e b rfl hRr hc2.1 hc2.2 (by omega) (by omega) oA2 oB2
              unfold arRw at u1
              generalize mrgL R d b = U at *
              repeat' (first | refine X.loc ?_ | refine nx ?_ | refine X.cdT ?_ | refine X.cdF ?_ | refine cb ?_ ?_ | (refine cc ?_ ?_ <;> intro hcond) | refine rb ?_ | refine X.c0 (u1) ?_ | refine nd ?_ | refine dk ?_ | fail)
              exact rq ⟨[], [(1000, .row 41 9 U.length ((U.flatMap encAr).map .fv))]⟩ (tq [] [])
            · have e1 : mrgL R d b = R := by
                have hs := split3 (l := R) (a := d) (b := e) (c := b) (by omega) (by omega)
                refine mrgL_id (by omega) (by omega) ?_
                rw [hs]
                have n1 : (R.take e).drop d = [] ∨ (R.take b).drop e = [] := by
                  rcases Nat.lt_or_ge d e with h | h
                  · right
                    exact List.eq_nil_of_length_eq_zero (by rw [seg_len R (by omega) (by omega)]; omega)
                  · left
                    exact List.eq_nil_of_length_eq_zero (by rw [seg_len R (by omega) (by omega)]; omega)
                rcases n1 with n1 | n1
                · rw [n1, List.nil_append]
                  exact oB2
                · rw [n1, List.append_nil]
                  exact oA2
              rw [e1]
              repeat' (first | refine X.loc ?_ | refine nx ?_ | refine X.cdT ?_ | refine X.cdF ?_ | refine cb ?_ ?_ | (refine cc ?_ ?_ <;> intro hcond) | refine rb ?_ | refine nd ?_ | refine dk ?_ | fail)
              exact rq ⟨[], [(1000, .row 41 9 R.length ((R.flatMap encAr).map .fv))]⟩ (tq [] [])
def blkA (l : List Ar) : Nat → List Ar
  | 0 => l
  | k + 1 => mrgL (blkA l k) (20 * k) (20 * k + 20)
theorem blkA_len (l : List Ar) : ∀ k, 20 * k ≤ l.length → (blkA l k).length = l.length
  | 0, _ => rfl
  | k + 1, h => by
    have ih := blkA_len l k (by omega)
    rw [blkA, mrgL_len (by omega) (by omega), ih]
theorem blkA_mem {l : List Ar} {x : Ar} : ∀ {k : Nat}, x ∈ blkA l k → x ∈ l
  | 0, h => h
  | k + 1, h => blkA_mem (mrgL_mem h)
theorem mrgL_all (l : List Ar) {n : Nat} (h : n = l.length) : mrgL l 0 n = sortA l := by
  subst h
  rw [mrgL, List.take_zero, List.take_length, List.drop_zero, List.drop_length]
  simp
theorem sortA_two (l : List Ar) {m : Nat} (hm : m ≤ l.length) : sortA (sortA (l.take m) ++ sortA (l.drop m)) = sortA l := by
  have s1 := sortA_stab (l.take m)
  have s2 := sortA_stab (l.drop m)
  have s3 := sortA_stab (sortA (l.take m) ++ sortA (l.drop m))
  refine StabA.is ⟨s3.ord, fun p => ?_⟩
  rw [s3.flt, List.filter_append, s1.flt, s2.flt, ← List.filter_append, List.take_append_drop]
theorem mrgL_self {l : List Ar} {a : Nat} (h : a ≤ l.length) : mrgL l a a = l := mrgL_id (Nat.le_refl _) h (by rw [List.drop_eq_nil_of_le (by rw [List.length_take]; omega)]; exact .nil)
def blksA (l : List Ar) : List Ar := mrgL (blkA l (l.length / 20)) (20 * (l.length / 20)) l.length
theorem blks_small {l : List Ar} (h : l.length ≤ 20) : blksA l = sortA l := by
  unfold blksA
  by_cases h2 : l.length = 20
  · rw [h2]
    show mrgL (mrgL l 0 20) 20 20 = sortA l
    rw [mrgL_self (by rw [mrgL_len (by omega) (by omega)]; omega), mrgL_all l h2.symm]
  · rw [show l.length / 20 = 0 by omega]
    exact mrgL_all l rfl
theorem mrgL_two {l : List Ar} {m n : Nat} (hm : m ≤ n) (hn : n = l.length) : mrgL (mrgL l 0 m) m n = sortA (l.take m) ++ sortA (l.drop m) := by
  subst hn
  have e : mrgL l 0 m = sortA (l.take m) ++ l.drop m := by rw [mrgL, List.take_zero, List.drop_zero, List.nil_append]
  have hl : (sortA (l.take m)).length = m := by
    rw [sortA, (List.mergeSort_perm _ geA).length_eq, List.length_take]
    omega
  have := mrgL_app (sortA (l.take m)) (l.drop m) []
  rw [List.append_nil, List.append_nil, hl, List.length_drop, show m + (l.length - m) = l.length by omega] at this
  rw [e, this]
theorem blks_big {l : List Ar} (h1 : 20 < l.length) (h2 : l.length ≤ 40) : blksA l = sortA (l.take 20) ++ sortA (l.drop 20) := by
  unfold blksA
  by_cases h3 : l.length = 40
  · rw [h3]
    show mrgL (mrgL (mrgL l 0 20) 20 40) 40 40 = _
    have hl : (mrgL l 0 20).length = 40 := by rw [mrgL_len (by omega) (by omega), h3]
    rw [mrgL_self (by rw [mrgL_len (by omega) (by omega)]; omega), mrgL_two (by omega) h3.symm]
  · rw [show l.length / 20 = 1 by omega]
    exact mrgL_two (m := 20) (by omega) rfl
theorem blks_all {l : List Ar} (h1 : 20 < l.length) (h2 : l.length ≤ 40) : mrgL (blksA l) 0 l.length = sortA l ∧ (blksA l).length = l.length ∧ ((((blksA l).take 20).drop 0).Pairwise fun x y => y.prio ≤ x.prio) ∧ ((((blksA l).take l.length).drop 20).Pairwise fun x y => y.prio ≤ x.prio) ∧ ∀ x, x ∈ blksA l → x ∈ l := by
  have hb := blks_big h1 h2
  have hl1 : (sortA (l.take 20)).length = 20 := by rw [sortA, (List.mergeSort_perm _ geA).length_eq, List.length_take]; omega
  have hl2 : (sortA (l.drop 20)).length = l.length - 20 := by rw [sortA, (List.mergeSort_perm _ geA).length_eq, List.length_drop]
  have hlen : (blksA l).length = l.length := by rw [hb, List.length_append, hl1, hl2]; omega
  refine ⟨by rw [mrgL_all _ hlen.symm, hb, sortA_two l (by omega)], hlen, ?_, ?_, fun x hx => ?_⟩
  · rw [hb, List.take_left' hl1, List.drop_zero]
    exact (sortA_stab _).ord
  · rw [← hlen, List.take_length, hb, List.drop_left' hl1]
    exact (sortA_stab _).ord
  · rw [hb] at hx
    rcases List.mem_append.1 hx with hx | hx
    · exact List.mem_of_mem_take ((sortA_stab _).mem.1 hx)
    · exact List.mem_of_mem_drop ((sortA_stab _).mem.1 hx)
theorem insM_T (l : List Ar) (a b : Nat) (hr : ∀ x ∈ l, ArR x) (ha : a ≤ b) (hb : b ≤ l.length) (hl : l.length ≤ 40) : FunO Tryz.prog 143 [.osl 1000, .fv (.int .i64 a), .fv (.int .i64 b), .fn 78 []] [(1000, arRw l)] (.tup []) [(1000, arRw (mrgL l a b))] := by
  have h := insertion_T l a b hr ha hb hl
  rw [insN_sort l ha hb] at h
  exact h
set_option maxHeartbeats 8000000 in
theorem stableCmp_T (l : List Ar) (hr : ∀ x ∈ l, ArR x) (hl : l.length ≤ 40) : FunO Tryz.prog 107 [.osl 1000, .fv (.int .i64 l.length), .fn 78 []] [(1000, arRw l)] (.tup []) [(1000, arRw (sortA l))] := by
  refine FunO.bodyL tbl_ok Tryz.func107 rfl (by kernel_rfl) rfl rfl rfl ?_
  have hS : (sortA l).length = l.length := by rw [sortA, (List.mergeSort_perm _ geA).length_eq]
  unfold arRw
  repeat' (first | refine X.loc ?_ | refine nx ?_ | refine X.cdT ?_ | refine X.cdF ?_ | refine cb ?_ ?_ | (refine cc ?_ ?_ <;> intro hcond) | refine rb ?_ | refine nd ?_ | refine dk ?_ | fail)
  refine WP.loop (ι := Nat) (fun k => ⟨[(0, .osl 1000), (1, .fv (.int .i64 l.length)), (2, .fn 78 []), (6, .fv (.int .i64 20)), (7, .fv (.int .i64 (20 * k : Nat))), (8, .fv (.int .i64 (20 * k + 20 : Nat)))], [(1000, .row 41 9 (blkA l k).length (((blkA l k).flatMap encAr).map .fv))]⟩) (fun k => 20 * k ≤ l.length) (fun k => l.length - 20 * k) 0 (by omega) ?_ ?_
  · try dsimp only
    rw [show blkA l 0 = l from rfl]
    exact tq [] []
  rintro k hk
  try dsimp only [cond]
  have hkl := blkA_len l k hk
  have hkr : ∀ x ∈ blkA l k, ArR x := fun x hx => hr x (blkA_mem hx)
  by_cases hlt : 20 * k + 20 ≤ l.length
  case pos =>
    have u1 := insM_T (blkA l k) (20 * k) (20 * k + 20) hkr (by omega) (by omega) (by omega)
    unfold arRw at u1
    have hs : blkA l (k + 1) = mrgL (blkA l k) (20 * k) (20 * k + 20) := rfl
    rw [← hs] at u1
    generalize blkA l k = R at *
    repeat' (first | refine X.loc ?_ | refine nx ?_ | refine X.cdT ?_ | refine X.cdF ?_ | refine cb ?_ ?_ | (refine cc ?_ ?_ <;> intro hcond) | refine rb ?_ | refine X.c0 (u1) ?_ | refine nd ?_ | refine dk ?_ | fail)
    refine ⟨k + 1, by omega, by omega, ?_⟩
    try dsimp only [cond]
    rw [show 20 * (k + 1) = 20 * k + 20 by omega, show ((20 * k + 20 + 20 : Nat) : Int) = ((20 * k + 20 : Nat) : Int) + 20 by omega]
    exact tq [] []
  case neg =>
    have hkq : k = l.length / 20 := by omega
    have u1 := insM_T (blkA l k) (20 * k) l.length hkr (by omega) (by omega) (by omega)
    have hB : mrgL (blkA l k) (20 * k) l.length = blksA l := by rw [hkq]; rfl
    rw [hB] at u1
    unfold arRw at u1
    clear hB
    generalize blkA l k = R at *
    by_cases hsm : l.length ≤ 20
    · rw [blks_small hsm] at u1
      generalize sortA l = S at *
      repeat' (first | refine X.loc ?_ | refine nx ?_ | refine X.cdT ?_ | refine X.cdF ?_ | refine cb ?_ ?_ | (refine cc ?_ ?_ <;> intro hcond) | refine rb ?_ | refine X.c0 (u1) ?_ | refine nd ?_ | refine dk ?_ | fail)
      refine WP.loop (ι := Unit) (fun _ => ⟨[(0, .osl 1000), (1, .fv (.int .i64 l.length)), (2, .fn 78 []), (6, .fv (.int .i64 20))], [(1000, .row 41 9 S.length ((S.flatMap encAr).map .fv))]⟩) (fun _ => True) (fun _ => 0) () trivial ?_ ?_
      · exact tq [] []
      rintro _ _
      try dsimp only [cond]
      repeat' (first | refine X.loc ?_ | refine nx ?_ | refine X.cdT ?_ | refine X.cdF ?_ | refine cb ?_ ?_ | (refine cc ?_ ?_ <;> intro hcond) | refine rb ?_ | refine nd ?_ | refine dk ?_ | fail)
      exact rq ⟨[], [(1000, .row 41 9 S.length ((S.flatMap encAr).map .fv))]⟩ (tq [] [])
    · obtain ⟨z1, z2, z3, z4, z5⟩ := blks_all (l := l) (by omega) hl
      have sy := symMerge_T _ (blksA l) 0 20 l.length rfl (fun x hx => hr x (z5 x hx)) (by omega) (by omega) (by omega) (by omega) z3 z4
      rw [z1] at sy
      unfold arRw at sy
      clear z1 z3 z4 z5
      generalize blksA l = B at *
      generalize sortA l = S at *
      repeat' (first | refine X.loc ?_ | refine nx ?_ | refine X.cdT ?_ | refine X.cdF ?_ | refine cb ?_ ?_ | (refine cc ?_ ?_ <;> intro hcond) | refine rb ?_ | refine X.c0 (u1) ?_ | refine nd ?_ | refine dk ?_ | fail)
      refine WP.loop (ι := Bool) (fun q => ⟨[(0, .osl 1000), (1, .fv (.int .i64 l.length)), (2, .fn 78 []), (6, .fv (.int .i64 (cond q 40 20)))], [(1000, .row 41 9 (cond q S B).length (((cond q S B).flatMap encAr).map .fv))]⟩) (fun _ => True) (fun q => cond q 0 1) false trivial ?_ ?_
      · try dsimp only
        refine St.to [] [] rfl rfl ?_ ?_ <;> (repeat' (first | exact tA | refine t1 ?_ | exact tB | refine t2 ?_ ?_ | refine t3 ?_ | refine t4 ?_ ?_ | refine .ofEq ?_ | refine OB.To.cut rfl rfl ?_ ?_ ?_ ?_ | refine OB.To.box rfl rfl ?_ | refine ⟨⟨_, rfl, ?_⟩, ?_⟩ | refine ⟨?_, ?_⟩ | fail))
        all_goals rfl
      rintro q _
      cases q with
      | true =>
        try dsimp only [cond]
        repeat' (first | refine X.loc ?_ | refine nx ?_ | refine X.cdT ?_ | refine X.cdF ?_ | refine cb ?_ ?_ | (refine cc ?_ ?_ <;> intro hcond) | refine rb ?_ | refine nd ?_ | refine dk ?_ | fail)
        refine .ofL (s' := ⟨[], [(1000, .row 41 9 S.length ((S.flatMap encAr).map .fv))]⟩) (by first | exact .inl rfl | exact .inr rfl) ?_ rfl rfl (by repeat' (first | exact trivial | refine ⟨⟨_, rfl, fun _ _ _ _ h => h⟩, ?_⟩))
        refine St.to [] [] rfl rfl ?_ ?_ <;> (repeat' (first | exact tA | refine t1 ?_ | exact tB | refine t2 ?_ ?_ | refine t3 ?_ | refine t4 ?_ ?_ | refine .ofEq ?_ | refine OB.To.cut rfl rfl ?_ ?_ ?_ ?_ | refine OB.To.box rfl rfl ?_ | refine ⟨⟨_, rfl, ?_⟩, ?_⟩ | refine ⟨?_, ?_⟩ | fail))
        all_goals rfl
      | false =>
        try dsimp only [cond]
        repeat' (first | refine X.loc ?_ | refine nx ?_ | refine X.cdT ?_ | refine X.cdF ?_ | refine cb ?_ ?_ | (refine cc ?_ ?_ <;> intro hcond) | refine rb ?_ | refine nd ?_ | refine dk ?_ | fail)
        by_cases h40 : l.length = 40
        · refine WP.loop (ι := Bool) (fun q => ⟨[(0, .osl 1000), (1, .fv (.int .i64 l.length)), (2, .fn 78 []), (6, .fv (.int .i64 20)), (7, .fv (.int .i64 (cond q 40 0))), (8, .fv (.int .i64 (cond q 80 40)))], [(1000, .row 41 9 (cond q S B).length (((cond q S B).flatMap encAr).map .fv))]⟩) (fun _ => True) (fun q => cond q 0 1) false trivial ?_ ?_
          · try dsimp only
            refine St.to [] [] rfl rfl ?_ ?_ <;> (repeat' (first | exact tA | refine t1 ?_ | exact tB | refine t2 ?_ ?_ | refine t3 ?_ | refine t4 ?_ ?_ | refine .ofEq ?_ | refine OB.To.cut rfl rfl ?_ ?_ ?_ ?_ | refine OB.To.box rfl rfl ?_ | refine ⟨⟨_, rfl, ?_⟩, ?_⟩ | refine ⟨?_, ?_⟩ | fail))
            all_goals rfl
          rintro q _
          cases q with
          | true =>
            try dsimp only [cond]
            repeat' (first | refine X.loc ?_ | refine nx ?_ | refine X.cdT ?_ | refine X.cdF ?_ | refine cb ?_ ?_ | (refine cc ?_ ?_ <;> intro hcond) | refine rb ?_ | refine nd ?_ | refine dk ?_ | fail)
            refine ⟨true, trivial, by decide, ?_⟩
            try dsimp only [cond]
            refine St.to [] [] rfl rfl ?_ ?_ <;> (repeat' (first | exact tA | refine t1 ?_ | exact tB | refine t2 ?_ ?_ | refine t3 ?_ | refine t4 ?_ ?_ | refine .ofEq ?_ | refine OB.To.cut rfl rfl ?_ ?_ ?_ ?_ | refine OB.To.box rfl rfl ?_ | refine ⟨⟨_, rfl, ?_⟩, ?_⟩ | refine ⟨?_, ?_⟩ | fail))
            all_goals rfl
          | false =>
            try dsimp only [cond]
            rw [h40] at sy
            repeat' (first | refine X.loc ?_ | refine nx ?_ | refine X.cdT ?_ | refine X.cdF ?_ | refine cb ?_ ?_ | (refine cc ?_ ?_ <;> intro hcond) | refine rb ?_ | refine X.c0 (sy) ?_ | refine nd ?_ | refine dk ?_ | fail)
            refine ⟨true, trivial, by decide, ?_⟩
            try dsimp only [cond]
            refine St.to [] [] rfl rfl ?_ ?_ <;> (repeat' (first | exact tA | refine t1 ?_ | exact tB | refine t2 ?_ ?_ | refine t3 ?_ | refine t4 ?_ ?_ | refine .ofEq ?_ | refine OB.To.cut rfl rfl ?_ ?_ ?_ ?_ | refine OB.To.box rfl rfl ?_ | refine ⟨⟨_, rfl, ?_⟩, ?_⟩ | refine ⟨?_, ?_⟩ | fail))
            all_goals rfl
        · refine WP.loop (ι := Unit) (fun _ => ⟨[(0, .osl 1000), (1, .fv (.int .i64 l.length)), (2, .fn 78 []), (6, .fv (.int .i64 20)), (7, .fv (.int .i64 0)), (8, .fv (.int .i64 40))], [(1000, .row 41 9 B.length ((B.flatMap encAr).map .fv))]⟩) (fun _ => True) (fun _ => 0) () trivial ?_ ?_
          · skip
            refine St.to [] [] rfl rfl ?_ ?_ <;> (repeat' (first | exact tA | refine t1 ?_ | exact tB | refine t2 ?_ ?_ | refine t3 ?_ | refine t4 ?_ ?_ | refine .ofEq ?_ | refine OB.To.cut rfl rfl ?_ ?_ ?_ ?_ | refine OB.To.box rfl rfl ?_ | refine ⟨⟨_, rfl, ?_⟩, ?_⟩ | refine ⟨?_, ?_⟩ | fail))
            all_goals rfl
          rintro _ _
          try dsimp only [cond]
          repeat' (first | refine X.loc ?_ | refine nx ?_ | refine X.cdT ?_ | refine X.cdF ?_ | refine cb ?_ ?_ | (refine cc ?_ ?_ <;> intro hcond) | refine rb ?_ | refine X.c0 (sy) ?_ | refine nd ?_ | refine dk ?_ | fail)
          refine ⟨true, trivial, by decide, ?_⟩
          try dsimp only [cond]
          refine St.to [] [] rfl rfl ?_ ?_ <;> (repeat' (first | exact tA | refine t1 ?_ | exact tB | refine t2 ?_ ?_ | refine t3 ?_ | refine t4 ?_ ?_ | refine .ofEq ?_ | refine OB.To.cut rfl rfl ?_ ?_ ?_ ?_ | refine OB.To.box rfl rfl ?_ | refine ⟨⟨_, rfl, ?_⟩, ?_⟩ | refine ⟨?_, ?_⟩ | fail))
          all_goals rfl
theorem sortStable_T (l : List Ar) (hr : ∀ x ∈ l, ArR x) (hl : l.length ≤ 40) : FunO Tryz.prog 77 [.osl 1000, .fn 78 []] [(1000, arRw l)] (.tup []) [(1000, arRw (sortA l))] := by
  have u1 := stableCmp_T l hr hl
  unfold arRw at u1
  refine FunO.bodyL tbl_ok Tryz.func77 rfl (by kernel_rfl) rfl rfl rfl ?_
  unfold arRw
  generalize sortA l = S at *
  repeat' (first | refine X.loc ?_ | refine nx ?_ | refine X.cdT ?_ | refine X.cdF ?_ | refine cb ?_ ?_ | (refine cc ?_ ?_ <;> intro hcond) | refine rb ?_ | refine X.c0 (u1) ?_ | refine nd ?_ | refine dk ?_ | fail)
  exact rq ⟨[], [(1000, .row 41 9 S.length ((S.flatMap encAr).map .fv))]⟩ (tq [] [])
end Go.Proofs.YtmidechdlbcepaaGreat.AS
namespace Go.Proofs.YtmidechdlbcepaaGreat
open Go.RowKit
set_option maxRecDepth 100000
def FlS (x : Fl) : Prop := x.ms.length ≤ 12 ∧ x.ds.length ≤ 100
theorem FlS.fit {f : Fl} (h : FlS f) : f.Fit := by
  obtain ⟨h1, h2⟩ := h
  unfold Fl.Fit
  omega
theorem bits_T (b : Int) (hb : 0 ≤ b ∧ b ≤ 16) : Fun Tryz.prog 134 [.fv (.int .i64 b)] (.fv (.int .i64 (maskN b))) := by
  obtain ⟨n, rfl⟩ : ∃ n : Nat, b = n := ⟨b.toNat, by omega⟩
  have hb64 : (n : Int) ≤ (IntKind.i64).bits := by show (n : Int) ≤ 64; omega
  refine Fun.body tbl_ok Tryz.func134 rfl (by kernel_rfl) rfl rfl rfl ?_
  repeat' (first | (apply X.loE; (· exact aR); (· first | (exact .eff (.shr rfl rfl (by omega) hb64)))) | refine X.loc ?_ | refine nx ?_ | refine cb ?_ ?_ | (refine cc ?_ ?_ <;> intro hcond) | (apply X.gsE; (· exact aR); (· exact aV); (· exact aW); (· intro hc; first | (exact .eff (.shr rfl rfl (by omega) hb64))); (· exact aR)) | refine rb ?_ | refine nd ?_ | refine dk ?_ | fail)
  refine .f1 (.inl rfl) rfl ?_
  unfold maskN
  rw [Int.toNat_natCast]
  have := mask_val n (by omega)
  congr 1
theorem ruleDeny {t next n : Int} {a : Ac} (hp : 0 ≤ a.port) (hd : a.deny = true) : ruleF t next n a = ⟨t, n, [⟨8, 65535, a.sw⟩, ⟨4, maskN a.srcBits, a.src⟩, ⟨5, maskN a.dstBits, a.dst⟩, ⟨7, 65535, a.port⟩], []⟩ := by
  unfold ruleF ruleM
  rw [if_pos hp, if_pos hd]
  rfl
theorem ruleAllow {t next n : Int} {a : Ac} (hp : 0 ≤ a.port) (hd : a.deny = false) : ruleF t next n a = ⟨t, n, [⟨8, 65535, a.sw⟩, ⟨4, maskN a.srcBits, a.src⟩, ⟨5, maskN a.dstBits, a.dst⟩, ⟨7, 65535, a.port⟩], [⟨4, 0, next⟩]⟩ := by
  unfold ruleF ruleM
  rw [if_pos hp, if_neg (by simp [hd])]
  rfl
theorem ruleDeny0 {t next n : Int} {a : Ac} (hp : ¬ 0 ≤ a.port) (hd : a.deny = true) : ruleF t next n a = ⟨t, n, [⟨8, 65535, a.sw⟩, ⟨4, maskN a.srcBits, a.src⟩, ⟨5, maskN a.dstBits, a.dst⟩], []⟩ := by
  unfold ruleF ruleM
  rw [if_neg hp, if_pos hd]
  rfl
theorem ruleAllow0 {t next n : Int} {a : Ac} (hp : ¬ 0 ≤ a.port) (hd : a.deny = false) : ruleF t next n a = ⟨t, n, [⟨8, 65535, a.sw⟩, ⟨4, maskN a.srcBits, a.src⟩, ⟨5, maskN a.dstBits, a.dst⟩], [⟨4, 0, next⟩]⟩ := by
  unfold ruleF ruleM
  rw [if_neg hp, if_neg (by simp [hd])]
  rfl
theorem filter_succ {α : Type} {l : List α} {k : Nat} {x : α} (p : α → Bool) (hx : l[k]? = some x) : (l.take (k + 1)).filter p = (l.take k).filter p ++ if p x = true then [x] else [] := by
  rw [take_succ hx, List.filter_append]
  cases h : p x <;> simp [h]
set_option maxHeartbeats 16000000 in
theorem rules_T (c : Cf) (ch : Int) (L : List Fl) (t next : Int) (inn : Bool) (hc : CfOk c) (hL : L.length ≤ 100000) : FunO Tryz.prog 99 [.optr 1000 0, .fv (.int .i64 t), .fv (.bool inn), .fv (.int .i64 next)] [(1000, mkB c ch 1001), (1001, flR L)] (.tup []) [(1000, mkB c ch 7), (7, flR (L ++ rulesF c t next inn))] := by
  have hal := hc.al
  have c1 := is_T
  have c2 := to_T
  have aa := fun L f h => add_T c ch L f h
  unfold mkB flR mkC at aa
  refine FunO.bodyL tbl_ok Tryz.func99 rfl (by kernel_rfl) rfl rfl rfl ?_
  unfold mkB flR mkC
  repeat' (first | refine X.loc ?_ | refine nx ?_ | refine X.cdT ?_ | refine X.cdF ?_ | refine cb ?_ ?_ | (refine cc ?_ ?_ <;> intro hcond) | refine rb ?_ | refine nd ?_ | refine dk ?_ | fail)
  refine WP.loop (ι := Nat) (fun k => ⟨[(0, .optr 1000 0), (1, .fv (.int .i64 t)), (2, .fv (.bool inn)), (3, .fv (.int .i64 next)), (8, .osl 900), (18, .fv (slOf encAc c.acs)), (19, .fv (.int .i64 c.acs.length)), (20, .fv (.int .i64 k))], [(1000, .box 153 ((encCf c).map .fv ++ [.fv (.int .i64 ch), .osl 1001])), (1001, .row 108 4 L.length ((L.flatMap encFl).map .fv)), (900, .row 38 9 ((c.acs.take k).filter fun a => a.inn == inn).length ((((c.acs.take k).filter fun a => a.inn == inn).flatMap encAc).map .fv))]⟩) (fun k => k ≤ c.acs.length) (fun k => c.acs.length - k) 0 (by omega) ?_ ?_
  · try dsimp only
    rw [List.take_zero, List.filter_nil]
    exact tq [(900, .nil)] []
  rintro k hk
  try dsimp only
  by_cases hlt : k < c.acs.length
  case pos =>
    obtain ⟨x, hx⟩ : ∃ x, c.acs[k]? = some x := ⟨_, List.getElem?_eq_getElem hlt⟩
    have hs := filter_succ (fun a : Ac => a.inn == inn) hx
    have hR : ((c.acs.take k).filter fun a => a.inn == inn).length ≤ 40 := by
      have h1 := List.length_filter_le (fun a : Ac => a.inn == inn) (c.acs.take k)
      rw [List.length_take] at h1
      omega
    try dsimp only at hs
    generalize ((c.acs.take k).filter fun a => a.inn == inn) = R at *
    repeat' (first | refine X.loc ?_ | refine nx ?_ | refine X.cdT ?_ | refine X.cdF ?_ | refine cb ?_ ?_ | (refine cc ?_ ?_ <;> intro hcond) | refine rb ?_ | refine nd ?_ | refine dk ?_ | fail)
    · rw [if_pos hcond] at hs
      refine ⟨k + 1, by omega, by omega, ?_⟩
      try dsimp only
      rw [hs]
      refine St.to [(900, .id 31)] [] rfl rfl ?_ ?_ <;> (repeat' (first | exact tA | refine t1 ?_ | exact tB | refine t2 ?_ ?_ | refine t3 ?_ | refine t4 ?_ ?_ | refine .ofEq ?_ | refine OB.To.cut rfl rfl ?_ ?_ ?_ ?_ | refine OB.To.box rfl rfl ?_ | refine ⟨⟨_, rfl, ?_⟩, ?_⟩ | refine ⟨?_, ?_⟩ | fail))
      all_goals first | omega | (simp; done) | (simp only [List.flatMap_append, List.map_append]; rfl)
    · rw [if_neg (by rw [hcond]; simp), List.append_nil] at hs
      refine ⟨k + 1, by omega, by omega, ?_⟩
      try dsimp only
      rw [hs]
      exact tq [] []
  case neg =>
    rw [List.take_of_length_le (by omega)]
    have hof : (c.acs.filter fun a => a.inn == inn) = ofKind c inn := rfl
    rw [hof]
    have hO : (ofKind c inn).length ≤ 40 := Nat.le_trans (List.length_filter_le _ _) hal
    have hr : ∀ x ∈ ofKind c inn, AcR x := fun x hx => (hc.ar x (List.mem_filter.1 hx).1).1
    have st := sortStable_T (ofKind c inn) hr hO
    have hSr : ∀ x ∈ sortA (ofKind c inn), AcR x := fun x hx => hr x ((sortA_stab _).mem.1 hx)
    have hSl : (sortA (ofKind c inn)).length ≤ 40 := by rw [sortA, (List.mergeSort_perm _ geA).length_eq]; exact hO
    unfold acRw at st
    unfold rulesF
    generalize sortA (ofKind c inn) = S at *
    generalize ofKind c inn = O at *
    repeat' (first | refine X.loc ?_ | refine nx ?_ | refine X.cdT ?_ | refine X.cdF ?_ | refine cb ?_ ?_ | (refine cc ?_ ?_ <;> intro hcond) | refine rb ?_ | refine X.c0 (st) ?_ | refine nd ?_ | refine dk ?_ | fail)
    refine WP.loop (ι := Nat) (fun k => ⟨[(0, .optr 1000 0), (1, .fv (.int .i64 t)), (2, .fv (.bool inn)), (3, .fv (.int .i64 next)), (8, .osl 900), (35, .osl 900), (36, .fv (.int .i64 S.length)), (37, .fv (.int .i64 k))], [(900, .row 38 9 S.length ((S.flatMap encAc).map .fv)), (1000, .box 153 ((encCf c).map .fv ++ [.fv (.int .i64 ch), .osl 901])), (901, .row 108 4 (L ++ (rulesL t next S).take k).length (((L ++ (rulesL t next S).take k).flatMap encFl).map .fv))]⟩) (fun k => k ≤ S.length) (fun k => S.length - k) 0 (by omega) ?_ ?_
    · try dsimp only
      rw [List.take_zero, List.append_nil]
      exact tq [(901, .id 1001)] []
    rintro k hk
    try dsimp only
    have hQl : (L ++ (rulesL t next S).take k).length ≤ 100040 := by
      rw [List.length_append, List.length_take]
      omega
    by_cases hlt : k < S.length
    case neg =>
      rw [List.take_of_length_le (by rw [rulesL_len]; omega)] at hQl ⊢
      have u1 := aa (L ++ rulesL t next S) (restF t next) (by omega)
      rw [show L ++ (rulesL t next S ++ [restF t next]) = (L ++ rulesL t next S) ++ [restF t next] by simp]
      generalize L ++ rulesL t next S = Q at *
      repeat' (first | (apply X.loE; (· exact aR); (· first | exact .eff (.bsliceFS rfl rfl rfl rfl rfl rfl) | exact .callL rfl rfl rfl (c2 _) rfl | exact bl (c2 _))) | refine X.loc ?_ | refine nx ?_ | refine X.cdT ?_ | refine X.cdF ?_ | refine cb ?_ ?_ | (refine cc ?_ ?_ <;> intro hcond) | (apply X.gsE; (· exact aR); (· exact aV); (· exact aW); (· intro hc; first | exact .eff (.bsliceFS rfl rfl rfl rfl rfl rfl) | exact .callG rfl rfl rfl (c2 _) rfl | exact bg (c2 _)); (· exact aR)) | refine rb ?_ | refine X.c0 (u1) ?_ | refine nd ?_ | refine dk ?_ | fail)
      exact rq ⟨[], [(1000, .box 153 ((encCf c).map .fv ++ [.fv (.int .i64 ch), .osl 7])), (7, .row 108 4 (Q ++ [restF t next]).length (((Q ++ [restF t next]).flatMap encFl).map .fv))]⟩ (tq [(7, .id 94)] [])
    case pos =>
      obtain ⟨x, hx⟩ : ∃ x, S[k]? = some x := ⟨_, List.getElem?_eq_getElem hlt⟩
      have hxr := hSr x (List.mem_of_getElem? hx)
      have b1 := bits_T x.srcBits hxr.1.2.2.2.1
      have b2 := bits_T x.dstBits hxr.1.2.2.2.2.1
      have hs : L ++ (rulesL t next S).take (k + 1) = (L ++ (rulesL t next S).take k) ++ [ruleF t next ((S.length : Int) - (k : Int)) x] := by
        rw [take_succ (rulesL_at hx), List.append_assoc]
      generalize (L ++ (rulesL t next S).take k) = Q at *
      have u := fun f => aa Q f (by omega)
      by_cases hp : 0 ≤ x.port
      · skip
        have u1 := u ⟨t, (S.length : Int) - (k : Int), [⟨8, 65535, x.sw⟩, ⟨4, maskN x.srcBits, x.src⟩, ⟨5, maskN x.dstBits, x.dst⟩, ⟨7, 65535, x.port⟩], []⟩
        have u2 := u ⟨t, (S.length : Int) - (k : Int), [⟨8, 65535, x.sw⟩, ⟨4, maskN x.srcBits, x.src⟩, ⟨5, maskN x.dstBits, x.dst⟩, ⟨7, 65535, x.port⟩], [⟨4, 0, next⟩]⟩
        repeat' (first | (apply X.loE; (· exact aR); (· first | (exact .eff (.loadO rfl rfl (readAl (i := k) (by omega) hx))) | exact .callL rfl rfl rfl (by first | exact c1 _ _ | exact c2 _ | exact b1 | exact b2) rfl | exact bl (c1 _ _) | exact bl (c2 _) | exact bl (b1) | exact bl (b2))) | refine X.loc ?_ | refine nx ?_ | refine X.cdT ?_ | refine X.cdF ?_ | refine cb ?_ ?_ | (refine cc ?_ ?_ <;> intro hcond) | (apply X.gsE; (· exact aR); (· exact aV); (· exact aW); (· intro hc; first | (exact .eff (.loadO rfl rfl (readAl (i := k) (by omega) hx))) | exact .callG rfl rfl rfl (by first | exact c1 _ _ | exact c2 _ | exact b1 | exact b2) rfl | exact bg (c1 _ _) | exact bg (c2 _) | exact bg (b1) | exact bg (b2)); (· exact aR)) | refine rb ?_ | refine X.c0 (u1) ?_ | refine X.c0 (u2) ?_ | refine nd ?_ | refine dk ?_ | fail)
        · refine ⟨k + 1, by omega, by omega, ?_⟩
          try dsimp only
          rw [hs, ruleDeny hp hcond]
          exact tq [(901, .id 76)] []
        · refine ⟨k + 1, by omega, by omega, ?_⟩
          try dsimp only
          rw [hs, ruleAllow hp hcond]
          exact tq [(901, .id 87)] []
      · skip
        have u1 := u ⟨t, (S.length : Int) - (k : Int), [⟨8, 65535, x.sw⟩, ⟨4, maskN x.srcBits, x.src⟩, ⟨5, maskN x.dstBits, x.dst⟩], []⟩
        have u2 := u ⟨t, (S.length : Int) - (k : Int), [⟨8, 65535, x.sw⟩, ⟨4, maskN x.srcBits, x.src⟩, ⟨5, maskN x.dstBits, x.dst⟩], [⟨4, 0, next⟩]⟩
        repeat' (first | (apply X.loE; (· exact aR); (· first | (exact .eff (.loadO rfl rfl (readAl (i := k) (by omega) hx))) | exact .callL rfl rfl rfl (by first | exact c1 _ _ | exact c2 _ | exact b1 | exact b2) rfl | exact bl (c1 _ _) | exact bl (c2 _) | exact bl (b1) | exact bl (b2))) | refine X.loc ?_ | refine nx ?_ | refine X.cdT ?_ | refine X.cdF ?_ | refine cb ?_ ?_ | (refine cc ?_ ?_ <;> intro hcond) | (apply X.gsE; (· exact aR); (· exact aV); (· exact aW); (· intro hc; first | (exact .eff (.loadO rfl rfl (readAl (i := k) (by omega) hx))) | exact .callG rfl rfl rfl (by first | exact c1 _ _ | exact c2 _ | exact b1 | exact b2) rfl | exact bg (c1 _ _) | exact bg (c2 _) | exact bg (b1) | exact bg (b2)); (· exact aR)) | refine rb ?_ | refine X.c0 (u1) ?_ | refine X.c0 (u2) ?_ | refine nd ?_ | refine dk ?_ | fail)
        · refine ⟨k + 1, by omega, by omega, ?_⟩
          try dsimp only
          rw [hs, ruleDeny0 hp hcond]
          exact tq [(901, .id 76)] []
        · refine ⟨k + 1, by omega, by omega, ?_⟩
          try dsimp only
          rw [hs, ruleAllow0 hp hcond]
          exact tq [(901, .id 87)] []
end Go.Proofs.YtmidechdlbcepaaGreat