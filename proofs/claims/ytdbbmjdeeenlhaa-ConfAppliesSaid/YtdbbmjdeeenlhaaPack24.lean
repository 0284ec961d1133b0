/- The document's answer to an act: a port that goes, or moves. -/
import Derived.Test.YtdbbmjdeeenlhaaPack23
import Derived.Test.YtdbbmjdeeenlhaaPack19
import Derived.Test.YtdbbmjdeeenlhaaPack22
namespace Go.Proofs.Ytdbbmjdeeenlhaa
open Go.RowKit
set_option maxRecDepth 100000

set_option maxHeartbeats 4000000 in
theorem applied46_T (c : Cf) (a : De) (hl : c.Fit) (hm : cfMay c = true) (k46 : a.kind = 4 ∨ a.kind = 6) : Fun Try.prog 23 [.agg ((encCf c).map .fv), .agg ((encDe a).map .fv)] (.tup [.agg ((encCf (applyR c a)).map .fv), .fv (.int .i64 (applyE c a))]) := by
  have hck := confMay_T c hl.small
  refine Fun.body tbl_ok Try.func23 rfl (by kernel_rfl) rfl rfl rfl ?_
  rw [hm] at hck
  have hlen := cfMay_len hm
  have hcp := copyR_T c hl
  have b1 := hlen.ss
  have b2 := hlen.ps
  have b3 := hlen.acs
  have hids : ∀ k, ((c.ps.take k).filterMap (keepP a)).length ≤ k := fun k => Nat.le_trans (List.length_filterMap_le _ _) (by rw [List.length_take]; omega)
  have c1 := portOf_T c a.n hl.small
  have c2 := in_T a.m (-1) 5
  have hany := idxB_any (fun p : Po => p.id == a.n) c.ps
  have hfin : applyE c a = 0 → c.ps.filterMap (keepP a) = (applyR c a).ps ∧ (applyR c a).ss = c.ss ∧ (applyR c a).acs = c.acs := fun h0 => by
    rw [applyR_ok h0, ← applyD_eq hm h0, applyD, if_neg (by omega), if_neg (by omega), if_neg (by omega), if_pos k46]
    exact ⟨rfl, rfl, rfl⟩
  have e0 : applyE c a = (if (c.ps.any fun p => p.id == a.n) = false then 6 else if a.kind = 6 ∧ inR a.m (-1) 5 = false then 2 else 0) := by
    rw [applyE, if_neg (by rw [hm]; decide), if_neg (by omega), if_neg (by omega), if_neg (by omega), if_pos k46]
    by_cases ha : (c.ps.any fun p => p.id == a.n) = false
    · rw [if_pos (hany.2 ha), if_pos ha]
    · rw [if_neg fun h => ha (hany.1 h), if_neg ha]
  have hbad : applyE c a ≠ 0 → applyR c a = cf0 := applyR_bad
  generalize hF : (c.ps.find? fun p => p.id == a.n).getD po0 = pf at c1
  clear hF
  generalize (c.ps.any fun p => p.id == a.n) = an at c1 e0
  generalize inR a.m (-1) 5 = ir at c2 e0
  generalize applyE c a = e at *
  generalize hR : applyR c a = R at *
  clear hR
  rcases k46 with hk | hk
  · skip
    repeat' (first
      | with_reducible refine WP.hold 71 ?_
      | (apply X.loE; (· exact aR); (· first | exact .callL rfl rfl rfl (by first | exact hck | exact c1) rfl | (apply LEff.callBL; (· rfl); (· rfl); (· exact hck); (· exact aB); (· rfl)) | (apply LEff.callBL; (· rfl); (· rfl); (· exact c1); (· exact aB); (· rfl))))
      | refine X.loc ?_
      | refine nx ?_
      | refine X.cdT ?_
      | refine X.cdF ?_
      | (refine WP.condBit rfl ?_ ?_)
      | (refine WP.cond rfl ?_ ?_ <;> intro hcond)
      | (apply X.gsE; (· exact aR); (· exact aV); (· exact aW); (· intro hc; first | exact .callG rfl rfl rfl (by first | exact hck | exact c1) rfl | (apply LEff.callBG; (· rfl); (· rfl); (· exact hck); (· exact aB); (· rfl)) | (apply LEff.callBG; (· rfl); (· rfl); (· exact c1); (· exact aB); (· rfl))); (· exact aR))
      | refine X.gst ?_ | refine X.gld ?_ | refine X.new ?_ | refine X.app ?_ | refine X.appS ?_ | refine X.stoW ?_ | refine X.stoB ?_ | refine X.stoR ?_ | refine X.gand ?_ | refine X.gor ?_
      | (apply X.cal false; (· exact aR); (· exact hcp); (· exact aC))
      | refine nd ?_
      | ((with_reducible apply drwK.mk); (· kernel_rfl); (· exact aF))
      | fail)
    all_goals (try apply Held.mk)
    refine WP.join (ι := Unit) (fun _ => ⟨[(2, .optr 2 0), (3, .optr 3 0), (4, .optr 4 0), (6, .optr 6 0), (7, .fv (.int .i64 e))], [(2, .box 50 ((encCf c).map .fv)), (3, .box 60 ((encDe a).map .fv)), (4, .box 50 [.nil, .nil, .nil]), (6, .box 50 [.osl 18, .osl 318, .osl 618]), (18, .row 52 3 c.ss.length ((c.ss.flatMap encSw).map .fv)), (618, .row 56 9 c.acs.length ((c.acs.flatMap encAc).map .fv))]⟩) (fun _ => True) ?_ ?_
    · cases an with
      | false =>
        rw [if_pos rfl] at e0
        subst e0
        repeat' (first
          | refine X.loc ?_
          | refine nx ?_
          | refine X.cdT ?_
          | refine X.cdF ?_
          | (refine WP.condBit rfl ?_ ?_)
          | (refine WP.cond rfl ?_ ?_ <;> intro hcond)
          | refine X.gst ?_ | refine X.gld ?_ | refine X.new ?_ | refine X.app ?_ | refine X.appS ?_ | refine X.stoW ?_ | refine X.stoB ?_ | refine X.stoR ?_ | refine X.gand ?_ | refine X.gor ?_
          | refine nd ?_
          | ((with_reducible apply drwK.mk); (· kernel_rfl); (· exact aF))
          | fail)
        refine ⟨(), trivial, ?_⟩
        refine St.to [] [] rfl rfl ?_ ?_ <;> (repeat' (first | exact tA | refine t1 ?_ | exact tB | refine t2 ?_ ?_ | refine t3 ?_ | refine t4 ?_ ?_ | refine .ofEq ?_ | refine OB.To.cut rfl rfl ?_ ?_ ?_ ?_ | refine OB.To.box rfl rfl ?_ | refine ⟨⟨_, rfl, ?_⟩, ?_⟩ | refine ⟨?_, ?_⟩ | fail))
      | true =>
        rw [if_neg (by simp)] at e0
        cases ir with
        | false =>
          simp [hk] at e0
          subst e0
          repeat' (first
            | (apply X.loE; (· exact aR); (· first | exact .callL rfl rfl rfl (c2) rfl | (apply LEff.callBL; (· rfl); (· rfl); (· exact c2); (· exact aB); (· rfl))))
            | refine X.loc ?_
            | refine nx ?_
            | refine X.cdT ?_
            | refine X.cdF ?_
            | (refine WP.condBit rfl ?_ ?_)
            | (refine WP.cond rfl ?_ ?_ <;> intro hcond)
            | (apply X.gsE; (· exact aR); (· exact aV); (· exact aW); (· intro hc; first | exact .callG rfl rfl rfl (c2) rfl | (apply LEff.callBG; (· rfl); (· rfl); (· exact c2); (· exact aB); (· rfl))); (· exact aR))
            | refine X.gst ?_ | refine X.gld ?_ | refine X.new ?_ | refine X.app ?_ | refine X.appS ?_ | refine X.stoW ?_ | refine X.stoB ?_ | refine X.stoR ?_ | refine X.gand ?_ | refine X.gor ?_
            | refine nd ?_
            | ((with_reducible apply drwK.mk); (· kernel_rfl); (· exact aF))
            | fail)
          all_goals (try (exfalso; simp [hk] at hcond; done))
          refine ⟨(), trivial, ?_⟩
          refine St.to [] [] rfl rfl ?_ ?_ <;> (repeat' (first | exact tA | refine t1 ?_ | exact tB | refine t2 ?_ ?_ | refine t3 ?_ | refine t4 ?_ ?_ | refine .ofEq ?_ | refine OB.To.cut rfl rfl ?_ ?_ ?_ ?_ | refine OB.To.box rfl rfl ?_ | refine ⟨⟨_, rfl, ?_⟩, ?_⟩ | refine ⟨?_, ?_⟩ | fail))
        | true =>
          rw [if_neg (by simp)] at e0
          subst e0
          repeat' (first
            | (apply X.loE; (· exact aR); (· first | exact .callL rfl rfl rfl (c2) rfl | (apply LEff.callBL; (· rfl); (· rfl); (· exact c2); (· exact aB); (· rfl))))
            | refine X.loc ?_
            | refine nx ?_
            | refine X.cdT ?_
            | refine X.cdF ?_
            | (refine WP.condBit rfl ?_ ?_)
            | (refine WP.cond rfl ?_ ?_ <;> intro hcond)
            | (apply X.gsE; (· exact aR); (· exact aV); (· exact aW); (· intro hc; first | exact .callG rfl rfl rfl (c2) rfl | (apply LEff.callBG; (· rfl); (· rfl); (· exact c2); (· exact aB); (· rfl))); (· exact aR))
            | refine X.gst ?_ | refine X.gld ?_ | refine X.new ?_ | refine X.app ?_ | refine X.appS ?_ | refine X.stoW ?_ | refine X.stoB ?_ | refine X.stoR ?_ | refine X.gand ?_ | refine X.gor ?_
            | refine nd ?_
            | ((with_reducible apply drwK.mk); (· kernel_rfl); (· exact aF))
            | fail)
          all_goals (try (exfalso; simp [hk] at hcond; done))
          refine ⟨(), trivial, ?_⟩
          refine St.to [] [] rfl rfl ?_ ?_ <;> (repeat' (first | exact tA | refine t1 ?_ | exact tB | refine t2 ?_ ?_ | refine t3 ?_ | refine t4 ?_ ?_ | refine .ofEq ?_ | refine OB.To.cut rfl rfl ?_ ?_ ?_ ?_ | refine OB.To.box rfl rfl ?_ | refine ⟨⟨_, rfl, ?_⟩, ?_⟩ | refine ⟨?_, ?_⟩ | fail))
    · rintro _ _
      try dsimp only
      repeat' (first
        | refine X.loc ?_
        | refine nx ?_
        | refine X.cdT ?_
        | refine X.cdF ?_
        | (refine WP.condBit rfl ?_ ?_)
        | (refine WP.cond rfl ?_ ?_ <;> intro hcond)
        | refine X.gst ?_ | refine X.gld ?_ | refine X.new ?_ | refine X.app ?_ | refine X.appS ?_ | refine X.stoW ?_ | refine X.stoB ?_ | refine X.stoR ?_ | refine X.gand ?_ | refine X.gor ?_
        | refine nd ?_
        | ((with_reducible apply drwK.mk); (· kernel_rfl); (· exact aF))
        | fail)
      refine WP.loop (ι := Nat) (fun k => ⟨[(2, .optr 2 0), (3, .optr 3 0), (4, .optr 4 0), (6, .optr 6 0), (7, .fv (.int .i64 e)), (10, .fv (.int .i64 k))], [(2, .box 50 ((encCf c).map .fv)), (3, .box 60 ((encDe a).map .fv)), (4, .box 50 [.nil, .nil, .nil]), (6, .box 50 [.osl 18, .osl 900, .osl 618]), (18, .row 52 3 c.ss.length ((c.ss.flatMap encSw).map .fv)), (618, .row 56 9 c.acs.length ((c.acs.flatMap encAc).map .fv)), (900, .row 54 5 ((c.ps.take k).filterMap (keepP a)).length ((((c.ps.take k).filterMap (keepP a)).flatMap encPo).map .fv))]⟩) (fun k => k ≤ c.ps.length) (fun k => c.ps.length - k) 0 (by omega) ?_ ?_
      · skip
        refine St.to [(900, .nil)] [] rfl rfl ?_ ?_ <;> (repeat' (first | exact tA | refine t1 ?_ | exact tB | refine t2 ?_ ?_ | refine t3 ?_ | refine t4 ?_ ?_ | refine .ofEq ?_ | refine OB.To.cut rfl rfl ?_ ?_ ?_ ?_ | refine OB.To.box rfl rfl ?_ | refine ⟨⟨_, rfl, ?_⟩, ?_⟩ | refine ⟨?_, ?_⟩ | fail))
      rintro k hkl
      try dsimp only
      have hRk := hids k
      by_cases hlt : k < c.ps.length
      case neg =>
        rw [List.take_of_length_le (by omega)]
        rw [List.take_of_length_le (by omega)] at hRk
        by_cases he : e = 0
        · obtain ⟨f1, f2, f3⟩ := hfin he
          subst he
          generalize c.ps.filterMap (keepP a) = L at *
          repeat' (first
            | refine X.loc ?_
            | refine nx ?_
            | refine X.cdT ?_
            | refine X.cdF ?_
            | (refine WP.condBit rfl ?_ ?_)
            | (refine WP.cond rfl ?_ ?_ <;> intro hcond)
            | refine X.gst ?_ | refine X.gld ?_ | refine X.new ?_ | refine X.app ?_ | refine X.appS ?_ | refine X.stoW ?_ | refine X.stoB ?_ | refine X.stoR ?_ | refine X.gand ?_ | refine X.gor ?_
            | refine nd ?_
            | ((with_reducible apply drwK.mk); (· kernel_rfl); (· exact aF))
            | fail)
          refine .le (s' := ⟨[(4, .optr 4 0), (5, .fv (.int .i64 0))], [(4, .box 50 ((encCf R).map .fv))]⟩) ?_ (.fun (.inl rfl) rfl rfl)
          refine St.to [] [18, 900, 618] rfl rfl ?_ ?_ <;> (repeat' (first | exact tA | refine t1 ?_ | exact tB | refine t2 ?_ ?_ | refine t3 ?_ | refine t4 ?_ ?_ | refine .ofEq ?_ | refine OB.To.cut rfl rfl ?_ ?_ ?_ ?_ | refine OB.To.box rfl rfl ?_ | refine ⟨⟨_, rfl, ?_⟩, ?_⟩ | refine ⟨?_, ?_⟩ | fail))
          all_goals first | (rw [f2]; done) | (rw [f3]; done) | (rw [f1]; done) | (simp [f1, f2, f3]; done)
        · skip
          repeat' (first
            | refine X.loc ?_
            | refine nx ?_
            | refine X.cdT ?_
            | refine X.cdF ?_
            | (refine WP.condBit rfl ?_ ?_)
            | (refine WP.cond rfl ?_ ?_ <;> intro hcond)
            | refine X.gst ?_ | refine X.gld ?_ | refine X.new ?_ | refine X.app ?_ | refine X.appS ?_ | refine X.stoW ?_ | refine X.stoB ?_ | refine X.stoR ?_ | refine X.gand ?_ | refine X.gor ?_
            | refine nd ?_
            | ((with_reducible apply drwK.mk); (· kernel_rfl); (· exact aF))
            | fail)
          refine .le (s' := ⟨[(4, .optr 4 0), (5, .fv (.int .i64 e))], [(4, .box 50 ((encCf cf0).map .fv))]⟩) ?_ (.fun (.inl rfl) rfl ?_)
          · skip
            refine St.to [] [] rfl rfl ?_ ?_ <;> (repeat' (first | exact tA | refine t1 ?_ | exact tB | refine t2 ?_ ?_ | refine t3 ?_ | refine t4 ?_ ?_ | refine .ofEq ?_ | refine OB.To.cut rfl rfl ?_ ?_ ?_ ?_ | refine OB.To.box rfl rfl ?_ | refine ⟨⟨_, rfl, ?_⟩, ?_⟩ | refine ⟨?_, ?_⟩ | fail))
          · rw [hbad he]
            rfl
      case pos =>
        obtain ⟨x, hx⟩ : ∃ x, c.ps[k]? = some x := ⟨_, List.getElem?_eq_getElem hlt⟩
        have hsn : (c.ps.take (k + 1)).filterMap (keepP a) = (c.ps.take k).filterMap (keepP a) ++ (keepP a x).toList := by
          rw [List.take_add_one, hx, List.filterMap_append]
          have e1 : (some x).toList.filterMap (keepP a) = (keepP a x).toList := by
            show List.filterMap (keepP a) [x] = _
            rw [List.filterMap_cons]
            cases keepP a x <;> rfl
          rw [e1]
        generalize (c.ps.take k).filterMap (keepP a) = L at *
        by_cases hxn : x.id = a.n
        · have hkp : (keepP a x).toList = [] := by
            rw [keepP, if_pos hxn]
            simp [hk]
          rw [hkp] at hsn
          repeat' (first
            | (apply X.loE; (· exact aR); (· first | (exact .eff (.idxS rfl rfl rfl encPo_len hx))))
            | refine X.loc ?_
            | refine nx ?_
            | refine X.cdT ?_
            | refine X.cdF ?_
            | (refine WP.condBit rfl ?_ ?_)
            | (refine WP.cond rfl ?_ ?_ <;> intro hcond)
            | (apply X.gsE; (· exact aR); (· exact aV); (· exact aW); (· intro hc; first | (exact .eff (.idxS rfl rfl rfl encPo_len hx))); (· exact aR))
            | refine X.gst ?_ | refine X.gld ?_ | refine X.new ?_ | refine X.app ?_ | refine X.appS ?_ | refine X.stoW ?_ | refine X.stoB ?_ | refine X.stoR ?_ | refine X.gand ?_ | refine X.gor ?_
            | refine nd ?_
            | ((with_reducible apply drwK.mk); (· kernel_rfl); (· exact aF))
            | fail)
          refine ⟨k + 1, by omega, by omega, ?_⟩
          try dsimp only
          rw [hsn]
          refine St.to [(900, .id 900)] [] rfl rfl ?_ ?_ <;> (repeat' (first | exact tA | refine t1 ?_ | exact tB | refine t2 ?_ ?_ | refine t3 ?_ | refine t4 ?_ ?_ | refine .ofEq ?_ | refine OB.To.cut rfl rfl ?_ ?_ ?_ ?_ | refine OB.To.box rfl rfl ?_ | refine ⟨⟨_, rfl, ?_⟩, ?_⟩ | refine ⟨?_, ?_⟩ | fail))
          all_goals first | (simp; done) | (simp only [List.flatMap_append, List.map_append]; rfl)
        · have hkp : (keepP a x).toList = [x] := by
            rw [keepP, if_neg hxn]
            rfl
          rw [hkp] at hsn
          repeat' (first
            | (apply X.loE; (· exact aR); (· first | (exact .eff (.idxS rfl rfl rfl encPo_len hx))))
            | refine X.loc ?_
            | refine nx ?_
            | refine X.cdT ?_
            | refine X.cdF ?_
            | (refine WP.condBit rfl ?_ ?_)
            | (refine WP.cond rfl ?_ ?_ <;> intro hcond)
            | (apply X.gsE; (· exact aR); (· exact aV); (· exact aW); (· intro hc; first | (exact .eff (.idxS rfl rfl rfl encPo_len hx))); (· exact aR))
            | refine X.gst ?_ | refine X.gld ?_ | refine X.new ?_ | refine X.app ?_ | refine X.appS ?_ | refine X.stoW ?_ | refine X.stoB ?_ | refine X.stoR ?_ | refine X.gand ?_ | refine X.gor ?_
            | refine nd ?_
            | ((with_reducible apply drwK.mk); (· kernel_rfl); (· exact aF))
            | fail)
          refine ⟨k + 1, by omega, by omega, ?_⟩
          try dsimp only
          rw [hsn]
          refine St.to [(900, .id 116)] [] rfl rfl ?_ ?_ <;> (repeat' (first | exact tA | refine t1 ?_ | exact tB | refine t2 ?_ ?_ | refine t3 ?_ | refine t4 ?_ ?_ | refine .ofEq ?_ | refine OB.To.cut rfl rfl ?_ ?_ ?_ ?_ | refine OB.To.box rfl rfl ?_ | refine ⟨⟨_, rfl, ?_⟩, ?_⟩ | refine ⟨?_, ?_⟩ | fail))
          all_goals first | (simp; done) | (simp only [List.flatMap_append, List.map_append]; rfl)
  · skip
    repeat' (first
      | with_reducible refine WP.hold 71 ?_
      | (apply X.loE; (· exact aR); (· first | exact .callL rfl rfl rfl (by first | exact hck | exact c1) rfl | (apply LEff.callBL; (· rfl); (· rfl); (· exact hck); (· exact aB); (· rfl)) | (apply LEff.callBL; (· rfl); (· rfl); (· exact c1); (· exact aB); (· rfl))))
      | refine X.loc ?_
      | refine nx ?_
      | refine X.cdT ?_
      | refine X.cdF ?_
      | (refine WP.condBit rfl ?_ ?_)
      | (refine WP.cond rfl ?_ ?_ <;> intro hcond)
      | (apply X.gsE; (· exact aR); (· exact aV); (· exact aW); (· intro hc; first | exact .callG rfl rfl rfl (by first | exact hck | exact c1) rfl | (apply LEff.callBG; (· rfl); (· rfl); (· exact hck); (· exact aB); (· rfl)) | (apply LEff.callBG; (· rfl); (· rfl); (· exact c1); (· exact aB); (· rfl))); (· exact aR))
      | refine X.gst ?_ | refine X.gld ?_ | refine X.new ?_ | refine X.app ?_ | refine X.appS ?_ | refine X.stoW ?_ | refine X.stoB ?_ | refine X.stoR ?_ | refine X.gand ?_ | refine X.gor ?_
      | (apply X.cal false; (· exact aR); (· exact hcp); (· exact aC))
      | refine nd ?_
      | ((with_reducible apply drwK.mk); (· kernel_rfl); (· exact aF))
      | fail)
    all_goals (try apply Held.mk)
    refine WP.join (ι := Unit) (fun _ => ⟨[(2, .optr 2 0), (3, .optr 3 0), (4, .optr 4 0), (6, .optr 6 0), (7, .fv (.int .i64 e))], [(2, .box 50 ((encCf c).map .fv)), (3, .box 60 ((encDe a).map .fv)), (4, .box 50 [.nil, .nil, .nil]), (6, .box 50 [.osl 18, .osl 318, .osl 618]), (18, .row 52 3 c.ss.length ((c.ss.flatMap encSw).map .fv)), (618, .row 56 9 c.acs.length ((c.acs.flatMap encAc).map .fv))]⟩) (fun _ => True) ?_ ?_
    · cases an with
      | false =>
        rw [if_pos rfl] at e0
        subst e0
        repeat' (first
          | refine X.loc ?_
          | refine nx ?_
          | refine X.cdT ?_
          | refine X.cdF ?_
          | (refine WP.condBit rfl ?_ ?_)
          | (refine WP.cond rfl ?_ ?_ <;> intro hcond)
          | refine X.gst ?_ | refine X.gld ?_ | refine X.new ?_ | refine X.app ?_ | refine X.appS ?_ | refine X.stoW ?_ | refine X.stoB ?_ | refine X.stoR ?_ | refine X.gand ?_ | refine X.gor ?_
          | refine nd ?_
          | ((with_reducible apply drwK.mk); (· kernel_rfl); (· exact aF))
          | fail)
        refine ⟨(), trivial, ?_⟩
        refine St.to [] [] rfl rfl ?_ ?_ <;> (repeat' (first | exact tA | refine t1 ?_ | exact tB | refine t2 ?_ ?_ | refine t3 ?_ | refine t4 ?_ ?_ | refine .ofEq ?_ | refine OB.To.cut rfl rfl ?_ ?_ ?_ ?_ | refine OB.To.box rfl rfl ?_ | refine ⟨⟨_, rfl, ?_⟩, ?_⟩ | refine ⟨?_, ?_⟩ | fail))
      | true =>
        rw [if_neg (by simp)] at e0
        cases ir with
        | false =>
          simp [hk] at e0
          subst e0
          repeat' (first
            | (apply X.loE; (· exact aR); (· first | exact .callL rfl rfl rfl (c2) rfl | (apply LEff.callBL; (· rfl); (· rfl); (· exact c2); (· exact aB); (· rfl))))
            | refine X.loc ?_
            | refine nx ?_
            | refine X.cdT ?_
            | refine X.cdF ?_
            | (refine WP.condBit rfl ?_ ?_)
            | (refine WP.cond rfl ?_ ?_ <;> intro hcond)
            | (apply X.gsE; (· exact aR); (· exact aV); (· exact aW); (· intro hc; first | exact .callG rfl rfl rfl (c2) rfl | (apply LEff.callBG; (· rfl); (· rfl); (· exact c2); (· exact aB); (· rfl))); (· exact aR))
            | refine X.gst ?_ | refine X.gld ?_ | refine X.new ?_ | refine X.app ?_ | refine X.appS ?_ | refine X.stoW ?_ | refine X.stoB ?_ | refine X.stoR ?_ | refine X.gand ?_ | refine X.gor ?_
            | refine nd ?_
            | ((with_reducible apply drwK.mk); (· kernel_rfl); (· exact aF))
            | fail)
          all_goals (try (exfalso; simp [hk] at hcond; done))
          refine ⟨(), trivial, ?_⟩
          refine St.to [] [] rfl rfl ?_ ?_ <;> (repeat' (first | exact tA | refine t1 ?_ | exact tB | refine t2 ?_ ?_ | refine t3 ?_ | refine t4 ?_ ?_ | refine .ofEq ?_ | refine OB.To.cut rfl rfl ?_ ?_ ?_ ?_ | refine OB.To.box rfl rfl ?_ | refine ⟨⟨_, rfl, ?_⟩, ?_⟩ | refine ⟨?_, ?_⟩ | fail))
        | true =>
          rw [if_neg (by simp)] at e0
          subst e0
          repeat' (first
            | (apply X.loE; (· exact aR); (· first | exact .callL rfl rfl rfl (c2) rfl | (apply LEff.callBL; (· rfl); (· rfl); (· exact c2); (· exact aB); (· rfl))))
            | refine X.loc ?_
            | refine nx ?_
            | refine X.cdT ?_
            | refine X.cdF ?_
            | (refine WP.condBit rfl ?_ ?_)
            | (refine WP.cond rfl ?_ ?_ <;> intro hcond)
            | (apply X.gsE; (· exact aR); (· exact aV); (· exact aW); (· intro hc; first | exact .callG rfl rfl rfl (c2) rfl | (apply LEff.callBG; (· rfl); (· rfl); (· exact c2); (· exact aB); (· rfl))); (· exact aR))
            | refine X.gst ?_ | refine X.gld ?_ | refine X.new ?_ | refine X.app ?_ | refine X.appS ?_ | refine X.stoW ?_ | refine X.stoB ?_ | refine X.stoR ?_ | refine X.gand ?_ | refine X.gor ?_
            | refine nd ?_
            | ((with_reducible apply drwK.mk); (· kernel_rfl); (· exact aF))
            | fail)
          all_goals (try (exfalso; simp [hk] at hcond; done))
          refine ⟨(), trivial, ?_⟩
          refine St.to [] [] rfl rfl ?_ ?_ <;> (repeat' (first | exact tA | refine t1 ?_ | exact tB | refine t2 ?_ ?_ | refine t3 ?_ | refine t4 ?_ ?_ | refine .ofEq ?_ | refine OB.To.cut rfl rfl ?_ ?_ ?_ ?_ | refine OB.To.box rfl rfl ?_ | refine ⟨⟨_, rfl, ?_⟩, ?_⟩ | refine ⟨?_, ?_⟩ | fail))
    · rintro _ _
      try dsimp only
      repeat' (first
        | refine X.loc ?_
        | refine nx ?_
        | refine X.cdT ?_
        | refine X.cdF ?_
        | (refine WP.condBit rfl ?_ ?_)
        | (refine WP.cond rfl ?_ ?_ <;> intro hcond)
        | refine X.gst ?_ | refine X.gld ?_ | refine X.new ?_ | refine X.app ?_ | refine X.appS ?_ | refine X.stoW ?_ | refine X.stoB ?_ | refine X.stoR ?_ | refine X.gand ?_ | refine X.gor ?_
        | refine nd ?_
        | ((with_reducible apply drwK.mk); (· kernel_rfl); (· exact aF))
        | fail)
      refine WP.loop (ι := Nat) (fun k => ⟨[(2, .optr 2 0), (3, .optr 3 0), (4, .optr 4 0), (6, .optr 6 0), (7, .fv (.int .i64 e)), (10, .fv (.int .i64 k))], [(2, .box 50 ((encCf c).map .fv)), (3, .box 60 ((encDe a).map .fv)), (4, .box 50 [.nil, .nil, .nil]), (6, .box 50 [.osl 18, .osl 900, .osl 618]), (18, .row 52 3 c.ss.length ((c.ss.flatMap encSw).map .fv)), (618, .row 56 9 c.acs.length ((c.acs.flatMap encAc).map .fv)), (900, .row 54 5 ((c.ps.take k).filterMap (keepP a)).length ((((c.ps.take k).filterMap (keepP a)).flatMap encPo).map .fv))]⟩) (fun k => k ≤ c.ps.length) (fun k => c.ps.length - k) 0 (by omega) ?_ ?_
      · skip
        refine St.to [(900, .nil)] [] rfl rfl ?_ ?_ <;> (repeat' (first | exact tA | refine t1 ?_ | exact tB | refine t2 ?_ ?_ | refine t3 ?_ | refine t4 ?_ ?_ | refine .ofEq ?_ | refine OB.To.cut rfl rfl ?_ ?_ ?_ ?_ | refine OB.To.box rfl rfl ?_ | refine ⟨⟨_, rfl, ?_⟩, ?_⟩ | refine ⟨?_, ?_⟩ | fail))
      rintro k hkl
      try dsimp only
      have hRk := hids k
      by_cases hlt : k < c.ps.length
      case neg =>
        rw [List.take_of_length_le (by omega)]
        rw [List.take_of_length_le (by omega)] at hRk
        by_cases he : e = 0
        · obtain ⟨f1, f2, f3⟩ := hfin he
          subst he
          generalize c.ps.filterMap (keepP a) = L at *
          repeat' (first
            | refine X.loc ?_
            | refine nx ?_
            | refine X.cdT ?_
            | refine X.cdF ?_
            | (refine WP.condBit rfl ?_ ?_)
            | (refine WP.cond rfl ?_ ?_ <;> intro hcond)
            | refine X.gst ?_ | refine X.gld ?_ | refine X.new ?_ | refine X.app ?_ | refine X.appS ?_ | refine X.stoW ?_ | refine X.stoB ?_ | refine X.stoR ?_ | refine X.gand ?_ | refine X.gor ?_
            | refine nd ?_
            | ((with_reducible apply drwK.mk); (· kernel_rfl); (· exact aF))
            | fail)
          refine .le (s' := ⟨[(4, .optr 4 0), (5, .fv (.int .i64 0))], [(4, .box 50 ((encCf R).map .fv))]⟩) ?_ (.fun (.inl rfl) rfl rfl)
          refine St.to [] [18, 900, 618] rfl rfl ?_ ?_ <;> (repeat' (first | exact tA | refine t1 ?_ | exact tB | refine t2 ?_ ?_ | refine t3 ?_ | refine t4 ?_ ?_ | refine .ofEq ?_ | refine OB.To.cut rfl rfl ?_ ?_ ?_ ?_ | refine OB.To.box rfl rfl ?_ | refine ⟨⟨_, rfl, ?_⟩, ?_⟩ | refine ⟨?_, ?_⟩ | fail))
          all_goals first | (rw [f2]; done) | (rw [f3]; done) | (rw [f1]; done) | (simp [f1, f2, f3]; done)
        · skip
          repeat' (first
            | refine X.loc ?_
            | refine nx ?_
            | refine X.cdT ?_
            | refine X.cdF ?_
            | (refine WP.condBit rfl ?_ ?_)
            | (refine WP.cond rfl ?_ ?_ <;> intro hcond)
            | refine X.gst ?_ | refine X.gld ?_ | refine X.new ?_ | refine X.app ?_ | refine X.appS ?_ | refine X.stoW ?_ | refine X.stoB ?_ | refine X.stoR ?_ | refine X.gand ?_ | refine X.gor ?_
            | refine nd ?_
            | ((with_reducible apply drwK.mk); (· kernel_rfl); (· exact aF))
            | fail)
          refine .le (s' := ⟨[(4, .optr 4 0), (5, .fv (.int .i64 e))], [(4, .box 50 ((encCf cf0).map .fv))]⟩) ?_ (.fun (.inl rfl) rfl ?_)
          · skip
            refine St.to [] [] rfl rfl ?_ ?_ <;> (repeat' (first | exact tA | refine t1 ?_ | exact tB | refine t2 ?_ ?_ | refine t3 ?_ | refine t4 ?_ ?_ | refine .ofEq ?_ | refine OB.To.cut rfl rfl ?_ ?_ ?_ ?_ | refine OB.To.box rfl rfl ?_ | refine ⟨⟨_, rfl, ?_⟩, ?_⟩ | refine ⟨?_, ?_⟩ | fail))
          · rw [hbad he]
            rfl
      case pos =>
        obtain ⟨x, hx⟩ : ∃ x, c.ps[k]? = some x := ⟨_, List.getElem?_eq_getElem hlt⟩
        have hsn : (c.ps.take (k + 1)).filterMap (keepP a) = (c.ps.take k).filterMap (keepP a) ++ (keepP a x).toList := by
          rw [List.take_add_one, hx, List.filterMap_append]
          have e1 : (some x).toList.filterMap (keepP a) = (keepP a x).toList := by
            show List.filterMap (keepP a) [x] = _
            rw [List.filterMap_cons]
            cases keepP a x <;> rfl
          rw [e1]
        generalize (c.ps.take k).filterMap (keepP a) = L at *
        by_cases hxn : x.id = a.n
        · have hkp : (keepP a x).toList = [{ x with ch := a.m }] := by
            rw [keepP, if_pos hxn]
            simp [hk]
          rw [hkp] at hsn
          repeat' (first
            | (apply X.loE; (· exact aR); (· first | (exact .eff (.idxS rfl rfl rfl encPo_len hx))))
            | refine X.loc ?_
            | refine nx ?_
            | refine X.cdT ?_
            | refine X.cdF ?_
            | (refine WP.condBit rfl ?_ ?_)
            | (refine WP.cond rfl ?_ ?_ <;> intro hcond)
            | (apply X.gsE; (· exact aR); (· exact aV); (· exact aW); (· intro hc; first | (exact .eff (.idxS rfl rfl rfl encPo_len hx))); (· exact aR))
            | refine X.gst ?_ | refine X.gld ?_ | refine X.new ?_ | refine X.app ?_ | refine X.appS ?_ | refine X.stoW ?_ | refine X.stoB ?_ | refine X.stoR ?_ | refine X.gand ?_ | refine X.gor ?_
            | refine nd ?_
            | ((with_reducible apply drwK.mk); (· kernel_rfl); (· exact aF))
            | fail)
          refine ⟨k + 1, by omega, by omega, ?_⟩
          try dsimp only
          rw [hsn]
          refine St.to [(900, .id 116)] [] rfl rfl ?_ ?_ <;> (repeat' (first | exact tA | refine t1 ?_ | exact tB | refine t2 ?_ ?_ | refine t3 ?_ | refine t4 ?_ ?_ | refine .ofEq ?_ | refine OB.To.cut rfl rfl ?_ ?_ ?_ ?_ | refine OB.To.box rfl rfl ?_ | refine ⟨⟨_, rfl, ?_⟩, ?_⟩ | refine ⟨?_, ?_⟩ | fail))
          all_goals first | (simp; done) | (simp only [List.flatMap_append, List.map_append]; rfl)
        · have hkp : (keepP a x).toList = [x] := by
            rw [keepP, if_neg hxn]
            rfl
          rw [hkp] at hsn
          repeat' (first
            | (apply X.loE; (· exact aR); (· first | (exact .eff (.idxS rfl rfl rfl encPo_len hx))))
            | refine X.loc ?_
            | refine nx ?_
            | refine X.cdT ?_
            | refine X.cdF ?_
            | (refine WP.condBit rfl ?_ ?_)
            | (refine WP.cond rfl ?_ ?_ <;> intro hcond)
            | (apply X.gsE; (· exact aR); (· exact aV); (· exact aW); (· intro hc; first | (exact .eff (.idxS rfl rfl rfl encPo_len hx))); (· exact aR))
            | refine X.gst ?_ | refine X.gld ?_ | refine X.new ?_ | refine X.app ?_ | refine X.appS ?_ | refine X.stoW ?_ | refine X.stoB ?_ | refine X.stoR ?_ | refine X.gand ?_ | refine X.gor ?_
            | refine nd ?_
            | ((with_reducible apply drwK.mk); (· kernel_rfl); (· exact aF))
            | fail)
          refine ⟨k + 1, by omega, by omega, ?_⟩
          try dsimp only
          rw [hsn]
          refine St.to [(900, .id 116)] [] rfl rfl ?_ ?_ <;> (repeat' (first | exact tA | refine t1 ?_ | exact tB | refine t2 ?_ ?_ | refine t3 ?_ | refine t4 ?_ ?_ | refine .ofEq ?_ | refine OB.To.cut rfl rfl ?_ ?_ ?_ ?_ | refine OB.To.box rfl rfl ?_ | refine ⟨⟨_, rfl, ?_⟩, ?_⟩ | refine ⟨?_, ?_⟩ | fail))
          all_goals first | (simp; done) | (simp only [List.flatMap_append, List.map_append]; rfl)
end Go.Proofs.Ytdbbmjdeeenlhaa

/- The document's answer to an act: a rule that goes; all kinds together. -/
namespace Go.Proofs.Ytdbbmjdeeenlhaa
open Go.RowKit
set_option maxRecDepth 100000

set_option maxHeartbeats 4000000 in
theorem applied5_T (c : Cf) (a : De) (hl : c.Fit) (hm : cfMay c = true) (k : a.kind = 5) : Fun Try.prog 23 [.agg ((encCf c).map .fv), .agg ((encDe a).map .fv)] (.tup [.agg ((encCf (applyR c a)).map .fv), .fv (.int .i64 (applyE c a))]) := by
  have hck := confMay_T c hl.small
  refine Fun.body tbl_ok Try.func23 rfl (by kernel_rfl) rfl rfl rfl ?_
  rw [hm] at hck
  have hlen := cfMay_len hm
  have hcp := copyR_T c hl
  have b1 := hlen.ss
  have b2 := hlen.ps
  have b3 := hlen.acs
  have e0 : applyE c a = (if a.n < 0 ∨ (c.acs.length : Int) ≤ a.n then 6 else 0) := by
    rw [applyE, if_neg (by rw [hm]; decide), if_neg (by omega), if_neg (by omega), if_neg (by omega), if_neg (by omega), if_pos k]
  have hfin : applyE c a = 0 → c.acs.eraseIdx a.n.toNat = (applyR c a).acs ∧ (applyR c a).ss = c.ss ∧ (applyR c a).ps = c.ps := fun h0 => by
    rw [applyR_ok h0, applyC, if_neg (by omega), if_neg (by omega), if_neg (by omega), if_neg (by omega), if_neg (by omega)]
    exact ⟨rfl, rfl, rfl⟩
  have hbad : applyE c a ≠ 0 → applyR c a = cf0 := applyR_bad
  have hlen1 : applyE c a = 0 → (c.acs.eraseIdx a.n.toNat).length + 1 = c.acs.length := fun h0 => by
    rw [e0] at h0
    split at h0
    · omega
    rw [List.length_eraseIdx, if_pos (by omega)]
    omega
  have hlen2 : applyE c a ≠ 0 → (if a.n < 0 then c.acs else c.acs.eraseIdx a.n.toNat).length = c.acs.length ∧ applyE c a = 6 := fun h0 => by
    rw [e0] at h0 ⊢
    split at h0
    case isFalse => omega
    rename_i h1
    rw [if_pos h1]
    refine ⟨?_, rfl⟩
    split
    · rfl
    · rw [List.length_eraseIdx, if_neg (by omega)]
  generalize applyE c a = e at *
  generalize applyR c a = R at *
  let F : Nat → List Ac := fun k => if a.n < 0 then c.acs.take k else (c.acs.take k).eraseIdx a.n.toNat
  have hFl : ∀ k, (F k).length ≤ k := fun k => by
    show (if a.n < 0 then c.acs.take k else (c.acs.take k).eraseIdx a.n.toNat).length ≤ k
    have : (c.acs.take k).length ≤ k := by rw [List.length_take]; omega
    split
    · exact this
    · exact Nat.le_trans (List.length_eraseIdx_le _ _) this
  have hF0 : F 0 = [] := by
    show (if a.n < 0 then c.acs.take 0 else (c.acs.take 0).eraseIdx a.n.toNat) = []
    split <;> rfl
  have hFs : ∀ {k x}, c.acs[k]? = some x → F (k + 1) = if a.n = (k : Int) then F k else F k ++ [x] := fun {k x} hx => by
    show (if a.n < 0 then c.acs.take (k + 1) else (c.acs.take (k + 1)).eraseIdx a.n.toNat) = if a.n = (k : Int) then (if a.n < 0 then c.acs.take k else (c.acs.take k).eraseIdx a.n.toNat) else (if a.n < 0 then c.acs.take k else (c.acs.take k).eraseIdx a.n.toNat) ++ [x]
    by_cases h1 : a.n < 0
    · rw [if_pos h1, if_pos h1, if_neg (by omega), List.take_add_one, hx]
      rfl
    · rw [if_neg h1, if_neg h1, out_step hx]
      by_cases h2 : a.n = (k : Int)
      · rw [if_pos h2, if_pos (by omega)]
      · rw [if_neg h2, if_neg (by omega)]
  have hFn : F c.acs.length = if a.n < 0 then c.acs else c.acs.eraseIdx a.n.toNat := by
    show (if a.n < 0 then c.acs.take c.acs.length else (c.acs.take c.acs.length).eraseIdx a.n.toNat) = _
    rw [List.take_length]
  rw [← hFn] at hlen2
  generalize F = F at *
  repeat' (first
    | (apply X.loE; (· exact aR); (· first | exact .callL rfl rfl rfl (hck) rfl | (apply LEff.callBL; (· rfl); (· rfl); (· exact hck); (· exact aB); (· rfl))))
    | refine X.loc ?_
    | refine nx ?_
    | refine X.cdT ?_
    | refine X.cdF ?_
    | (refine WP.condBit rfl ?_ ?_)
    | (refine WP.cond rfl ?_ ?_ <;> intro hcond)
    | (apply X.gsE; (· exact aR); (· exact aV); (· exact aW); (· intro hc; first | exact .callG rfl rfl rfl (hck) rfl | (apply LEff.callBG; (· rfl); (· rfl); (· exact hck); (· exact aB); (· rfl))); (· exact aR))
    | refine X.gst ?_ | refine X.gld ?_ | refine X.new ?_ | refine X.app ?_ | refine X.appS ?_ | refine X.stoW ?_ | refine X.stoB ?_ | refine X.stoR ?_ | refine X.gand ?_ | refine X.gor ?_
    | (apply X.cal false; (· exact aR); (· exact hcp); (· exact aC))
    | refine nd ?_
    | ((with_reducible apply drwK.mk); (· kernel_rfl); (· exact aF))
    | fail)
  refine WP.loop (ι := Nat) (fun k => ⟨[(2, .optr 2 0), (3, .optr 3 0), (4, .optr 4 0), (6, .optr 6 0), (7, .fv (.int .i64 0)), (12, .fv (.int .i64 k))], [(2, .box 50 ((encCf c).map .fv)), (3, .box 60 ((encDe a).map .fv)), (4, .box 50 [.nil, .nil, .nil]), (6, .box 50 [.osl 18, .osl 318, .osl 900]), (18, .row 52 3 c.ss.length ((c.ss.flatMap encSw).map .fv)), (318, .row 54 5 c.ps.length ((c.ps.flatMap encPo).map .fv)), (900, .row 56 9 (F k).length (((F k).flatMap encAc).map .fv))]⟩) (fun k => k ≤ c.acs.length) (fun k => c.acs.length - k) 0 (by omega) ?_ ?_
  · rw [hF0]
    refine St.to [(900, .nil)] [] rfl rfl ?_ ?_ <;> (repeat' (first | exact tA | refine t1 ?_ | exact tB | refine t2 ?_ ?_ | refine t3 ?_ | refine t4 ?_ ?_ | refine .ofEq ?_ | refine OB.To.cut rfl rfl ?_ ?_ ?_ ?_ | refine OB.To.box rfl rfl ?_ | refine ⟨⟨_, rfl, ?_⟩, ?_⟩ | refine ⟨?_, ?_⟩ | fail))
  rintro k hkl
  try dsimp only
  have hRk := hFl k
  by_cases hlt : k < c.acs.length
  case neg =>
    obtain rfl : k = c.acs.length := by omega
    by_cases he : e = 0
    · obtain ⟨f1, f2, f3⟩ := hfin he
      have hl1 := hlen1 he
      have hn : ¬ a.n < 0 := fun h => by rw [e0, if_pos (.inl h)] at he; omega
      rw [if_neg hn] at hFn
      rw [hFn] at hRk ⊢
      generalize c.acs.eraseIdx a.n.toNat = L at *
      subst he
      repeat' (first
        | refine X.loc ?_
        | refine nx ?_
        | refine X.cdT ?_
        | refine X.cdF ?_
        | (refine WP.condBit rfl ?_ ?_)
        | (refine WP.cond rfl ?_ ?_ <;> intro hcond)
        | refine X.gst ?_ | refine X.gld ?_ | refine X.new ?_ | refine X.app ?_ | refine X.appS ?_ | refine X.stoW ?_ | refine X.stoB ?_ | refine X.stoR ?_ | refine X.gand ?_ | refine X.gor ?_
        | refine nd ?_
        | ((with_reducible apply drwK.mk); (· kernel_rfl); (· exact aF))
        | fail)
      refine .le (s' := ⟨[(4, .optr 4 0), (5, .fv (.int .i64 0))], [(4, .box 50 ((encCf R).map .fv))]⟩) ?_ (.fun (.inl rfl) rfl rfl)
      refine St.to [] [18, 318, 900] rfl rfl ?_ ?_ <;> (repeat' (first | exact tA | refine t1 ?_ | exact tB | refine t2 ?_ ?_ | refine t3 ?_ | refine t4 ?_ ?_ | refine .ofEq ?_ | refine OB.To.cut rfl rfl ?_ ?_ ?_ ?_ | refine OB.To.box rfl rfl ?_ | refine ⟨⟨_, rfl, ?_⟩, ?_⟩ | refine ⟨?_, ?_⟩ | fail))
      all_goals first | (rw [f2]; done) | (rw [f3]; done) | (rw [f1]; done) | (simp [f1, f2, f3]; done)
    · obtain ⟨hl2, he6⟩ := hlen2 he
      have hb := hbad he
      subst he6
      generalize F c.acs.length = L at *
      repeat' (first
        | refine X.loc ?_
        | refine nx ?_
        | refine X.cdT ?_
        | refine X.cdF ?_
        | (refine WP.condBit rfl ?_ ?_)
        | (refine WP.cond rfl ?_ ?_ <;> intro hcond)
        | refine X.gst ?_ | refine X.gld ?_ | refine X.new ?_ | refine X.app ?_ | refine X.appS ?_ | refine X.stoW ?_ | refine X.stoB ?_ | refine X.stoR ?_ | refine X.gand ?_ | refine X.gor ?_
        | refine nd ?_
        | ((with_reducible apply drwK.mk); (· kernel_rfl); (· exact aF))
        | fail)
      refine .le (s' := ⟨[(4, .optr 4 0), (5, .fv (.int .i64 6))], [(4, .box 50 ((encCf cf0).map .fv))]⟩) ?_ (.fun (.inl rfl) rfl ?_)
      · skip
        refine St.to [] [] rfl rfl ?_ ?_ <;> (repeat' (first | exact tA | refine t1 ?_ | exact tB | refine t2 ?_ ?_ | refine t3 ?_ | refine t4 ?_ ?_ | refine .ofEq ?_ | refine OB.To.cut rfl rfl ?_ ?_ ?_ ?_ | refine OB.To.box rfl rfl ?_ | refine ⟨⟨_, rfl, ?_⟩, ?_⟩ | refine ⟨?_, ?_⟩ | fail))
      · rw [hb]
        rfl
  case pos =>
    obtain ⟨x, hx⟩ : ∃ x, c.acs[k]? = some x := ⟨_, List.getElem?_eq_getElem hlt⟩
    have hsn := hFs hx
    generalize F k = L at *
    by_cases hxn : a.n = (k : Int)
    · rw [if_pos hxn] at hsn
      repeat' (first
        | refine X.loc ?_
        | refine nx ?_
        | refine X.cdT ?_
        | refine X.cdF ?_
        | (refine WP.condBit rfl ?_ ?_)
        | (refine WP.cond rfl ?_ ?_ <;> intro hcond)
        | refine X.gst ?_ | refine X.gld ?_ | refine X.new ?_ | refine X.app ?_ | refine X.appS ?_ | refine X.stoW ?_ | refine X.stoB ?_ | refine X.stoR ?_ | refine X.gand ?_ | refine X.gor ?_
        | refine nd ?_
        | ((with_reducible apply drwK.mk); (· kernel_rfl); (· exact aF))
        | fail)
      refine ⟨k + 1, by omega, by omega, ?_⟩
      try dsimp only
      rw [hsn]
      refine St.to [] [] rfl rfl ?_ ?_ <;> (repeat' (first | exact tA | refine t1 ?_ | exact tB | refine t2 ?_ ?_ | refine t3 ?_ | refine t4 ?_ ?_ | refine .ofEq ?_ | refine OB.To.cut rfl rfl ?_ ?_ ?_ ?_ | refine OB.To.box rfl rfl ?_ | refine ⟨⟨_, rfl, ?_⟩, ?_⟩ | refine ⟨?_, ?_⟩ | fail))
      all_goals first | (simp; done) | (simp only [List.flatMap_append, List.map_append]; rfl)
    · rw [if_neg hxn] at hsn
      repeat' (first
        | (apply X.loE; (· exact aR); (· first | (exact .eff (.idxS rfl rfl rfl encAc_len hx))))
        | refine X.loc ?_
        | refine nx ?_
        | refine X.cdT ?_
        | refine X.cdF ?_
        | (refine WP.condBit rfl ?_ ?_)
        | (refine WP.cond rfl ?_ ?_ <;> intro hcond)
        | (apply X.gsE; (· exact aR); (· exact aV); (· exact aW); (· intro hc; first | (exact .eff (.idxS rfl rfl rfl encAc_len hx))); (· exact aR))
        | refine X.gst ?_ | refine X.gld ?_ | refine X.new ?_ | refine X.app ?_ | refine X.appS ?_ | refine X.stoW ?_ | refine X.stoB ?_ | refine X.stoR ?_ | refine X.gand ?_ | refine X.gor ?_
        | refine nd ?_
        | ((with_reducible apply drwK.mk); (· kernel_rfl); (· exact aF))
        | fail)
      refine ⟨k + 1, by omega, by omega, ?_⟩
      try dsimp only
      rw [hsn]
      refine St.to [(900, .id 140)] [] rfl rfl ?_ ?_ <;> (repeat' (first | exact tA | refine t1 ?_ | exact tB | refine t2 ?_ ?_ | refine t3 ?_ | refine t4 ?_ ?_ | refine .ofEq ?_ | refine OB.To.cut rfl rfl ?_ ?_ ?_ ?_ | refine OB.To.box rfl rfl ?_ | refine ⟨⟨_, rfl, ?_⟩, ?_⟩ | refine ⟨?_, ?_⟩ | fail))
      all_goals first | (simp; done) | (simp only [List.flatMap_append, List.map_append]; rfl)
theorem applied0_T (c : Cf) (a : De) (hl : c.Fit) (hm : cfMay c = true) (k1 : a.kind ≠ 1) (k2 : a.kind ≠ 2) (k3 : a.kind ≠ 3) (k4 : a.kind ≠ 4) (k5 : a.kind ≠ 5) (k6 : a.kind ≠ 6) : Fun Try.prog 23 [.agg ((encCf c).map .fv), .agg ((encDe a).map .fv)] (.tup [.agg ((encCf (applyR c a)).map .fv), .fv (.int .i64 (applyE c a))]) := by
  have hck := confMay_T c hl.small
  refine Fun.body tbl_ok Try.func23 rfl (by kernel_rfl) rfl rfl rfl ?_
  rw [hm] at hck
  have hlen := cfMay_len hm
  have hcp := copyR_T c hl
  have b1 := hlen.ss
  have b2 := hlen.ps
  have b3 := hlen.acs
  have e0 : applyE c a = 3 := by
    rw [applyE, if_neg (by rw [hm]; decide), if_neg k1, if_neg k2, if_neg k3, if_neg (by omega), if_neg k5]
  have hb := applyR_bad (show applyE c a ≠ 0 by omega)
  generalize applyE c a = e at *
  subst e0
  repeat' (first
    | (apply X.loE; (· exact aR); (· first | exact .callL rfl rfl rfl (hck) rfl | (apply LEff.callBL; (· rfl); (· rfl); (· exact hck); (· exact aB); (· rfl))))
    | refine X.loc ?_
    | refine nx ?_
    | refine X.cdT ?_
    | refine X.cdF ?_
    | (refine WP.condBit rfl ?_ ?_)
    | (refine WP.cond rfl ?_ ?_ <;> intro hcond)
    | (apply X.gsE; (· exact aR); (· exact aV); (· exact aW); (· intro hc; first | exact .callG rfl rfl rfl (hck) rfl | (apply LEff.callBG; (· rfl); (· rfl); (· exact hck); (· exact aB); (· rfl))); (· exact aR))
    | refine X.gst ?_ | refine X.gld ?_ | refine X.new ?_ | refine X.app ?_ | refine X.appS ?_ | refine X.stoW ?_ | refine X.stoB ?_ | refine X.stoR ?_ | refine X.gand ?_ | refine X.gor ?_
    | (apply X.cal false; (· exact aR); (· exact hcp); (· exact aC))
    | refine nd ?_
    | ((with_reducible apply drwK.mk); (· kernel_rfl); (· exact aF))
    | fail)
  refine .le (s' := ⟨[(4, .optr 4 0), (5, .fv (.int .i64 3))], [(4, .box 50 ((encCf cf0).map .fv))]⟩) ?_ (.fun (.inl rfl) rfl ?_)
  · skip
    refine St.to [] [] rfl rfl ?_ ?_ <;> (repeat' (first | exact tA | refine t1 ?_ | exact tB | refine t2 ?_ ?_ | refine t3 ?_ | refine t4 ?_ ?_ | refine .ofEq ?_ | refine OB.To.cut rfl rfl ?_ ?_ ?_ ?_ | refine OB.To.box rfl rfl ?_ | refine ⟨⟨_, rfl, ?_⟩, ?_⟩ | refine ⟨?_, ?_⟩ | fail))
  · rw [hb]
    rfl
theorem appliedOf_T (c : Cf) (a : De) (hl : c.Fit) : Fun Try.prog 23 [.agg ((encCf c).map .fv), .agg ((encDe a).map .fv)] (.tup [.agg ((encCf (applyR c a)).map .fv), .fv (.int .i64 (applyE c a))]) := by
  cases hm : cfMay c with
  | false => exact appliedB_T c a hl hm
  | true =>
    by_cases k1 : a.kind = 1
    · exact applied1_T c a hl hm k1
    by_cases k2 : a.kind = 2
    · exact applied2_T c a hl hm k2
    by_cases k3 : a.kind = 3
    · exact applied3_T c a hl hm k3
    by_cases k4 : a.kind = 4
    · exact applied46_T c a hl hm (.inl k4)
    by_cases k6 : a.kind = 6
    · exact applied46_T c a hl hm (.inr k6)
    by_cases k5 : a.kind = 5
    · exact applied5_T c a hl hm k5
    · exact applied0_T c a hl hm k1 k2 k3 k4 k5 k6
end Go.Proofs.Ytdbbmjdeeenlhaa

/- What is wanted, as it came in, as data by value. -/
namespace Go.Proofs.Ytdbbmjdeeenlhaa
open Go.ChangeShapes Go.WideShapes Go.ChangeAt Go.RowKit Go.Deep
set_option maxRecDepth 100000

section
variable {H : Type} {enc : TypeId × Value → H} {P : Program} {w : World} {base : Nat} {spare : Nat → Bool} {held : Bool} {Cl : TypeId → DataW H → Prop}
theorem sw_rep {cs : List Value} (h : AllOk enc P w base spare held Cl swLeaves cs) : ∃ x : Sw, x.Ok ∧ RepF w (encSw x) cs := by
  obtain ⟨x, rfl, hx⟩ := sw_of_ok h
  exact ⟨x, hx, fun _ => ⟨rfl, rfl, rfl, trivial⟩⟩
theorem po_rep {cs : List Value} (h : AllOk enc P w base spare held Cl poLeaves cs) : ∃ x : Po, x.Ok ∧ RepF w (encPo x) cs := by
  obtain ⟨x, rfl, hx⟩ := po_of_ok h
  exact ⟨x, hx, fun _ => ⟨rfl, rfl, rfl, rfl, rfl, trivial⟩⟩
theorem ac_rep {cs : List Value} (h : AllOk enc P w base spare held Cl acLeaves cs) : ∃ x : Ac, x.Ok ∧ RepF w (encAc x) cs := by
  obtain ⟨x, rfl, hx⟩ := ac_of_ok h
  exact ⟨x, hx, fun _ => ⟨rfl, rfl, rfl, rfl, rfl, rfl, rfl, rfl, rfl, trivial⟩⟩
theorem small_of {c : Cf} (h0 : c.ss.length * 24 ≤ reachBytes) (h1 : c.ps.length * 40 ≤ reachBytes) (h2 : c.acs.length * 72 ≤ reachBytes) : c.Small := by
  have h0 := reach_le h0
  have h1 := reach_le h1
  have h2 := reach_le h2
  exact ⟨by omega, by omega, by omega⟩
theorem open_cf {r : Reach} {b0 : Nat} {v : Value} {d : DataW H} {p : List MemPlace} (hv : Value.okWide Try.prog w r b0 50 v) (h : DataW.Trod enc Try.prog w base spare held 50 v d p) (hs : SizedCl Try.prog 50 d) :
    ∃ c : Cf, c.Ok ∧ c.Small ∧ c.ss.length * 24 ≤ reachBytes ∧ c.ps.length * 40 ≤ reachBytes ∧ c.acs.length * 72 ≤ reachBytes ∧ ∃ cs : List Value, v = .agg cs.toArray ∧ RepF w (encCf c) cs := by
  obtain ⟨cs, rfl, hcs⟩ := open_struct_c closed_sized Try.underlying50 conf_leaves hv h hs
  match cs, hcs with
  | [v0, v1, v2], ⟨l0, l1, l2, _⟩ =>
    obtain ⟨ss, a1, a2, a3⟩ := open_sl Try.underlying46 sw_leaves sw_cellsOf rfl (by omega) sw_bytes (fun _ h => sw_rep h) l0
    obtain ⟨ps, b1, b2, b3⟩ := open_sl Try.underlying47 po_leaves po_cellsOf rfl (by omega) po_bytes (fun _ h => po_rep h) l1
    obtain ⟨acs, c1, c2, c3⟩ := open_sl Try.underlying48 ac_leaves ac_cellsOf rfl (by omega) ac_bytes (fun _ h => ac_rep h) l2
    exact ⟨⟨ss, ps, acs⟩, ⟨a1, b1, c1⟩, small_of a2 b2 c2, a2, b2, c2, _, rfl, repF_cons a3 (repF_cons b3 (repF_cons c3 repF_nil))⟩
theorem rep_agg {σ : Nat → Value} {fs : List FV} {cs : List Value} (h : RepF w fs cs) : (AV.agg (fs.map .fv)).Rep σ (fun b => b < w.heap.size) w (.agg cs.toArray) := ⟨_, rfl, by simpa using h σ⟩
end
end Go.Proofs.Ytdbbmjdeeenlhaa

/- An act, as it came in, as data by value. -/
namespace Go.Proofs.Ytdbbmjdeeenlhaa
open Go.ChangeShapes Go.WideShapes Go.ChangeAt Go.RowKit Go.Deep
set_option maxRecDepth 100000

def actLeaves : List Leaf := [.int] ++ (swLeaves ++ (poLeaves ++ (acLeaves ++ ([.int, .int] ++ frameLeaves))))
theorem act_leaves : leaves Try.prog 3 60 = some actLeaves := by kernel_rfl
section
variable {H : Type} {enc : TypeId × Value → H} {P : Program} {w : World} {base : Nat} {spare : Nat → Bool} {held : Bool} {Cl : TypeId → DataW H → Prop}
theorem AllOk.split {ls ms : List Leaf} : ∀ {vs : List Value}, AllOk enc P w base spare held Cl (ls ++ ms) vs → ∃ us bs, vs = us ++ bs ∧ AllOk enc P w base spare held Cl ls us ∧ AllOk enc P w base spare held Cl ms bs := by
  induction ls with
  | nil => exact fun h => ⟨[], _, rfl, trivial, h⟩
  | cons l ls ih =>
    intro vs h
    cases vs with
    | nil => exact h.elim
    | cons v vs =>
      obtain ⟨us, bs, rfl, h1, h2⟩ := ih h.2
      exact ⟨v :: us, bs, rfl, ⟨h.1, h1⟩, h2⟩
theorem de_of_ok {cs : List Value} (h : AllOk enc P w base spare held Cl actLeaves cs) : ∃ a : De, RepF w (encDe a) cs := by
  obtain ⟨c0, r0, rfl, h0, h⟩ := AllOk.split h
  obtain ⟨c1, r1, rfl, h1, h⟩ := AllOk.split h
  obtain ⟨c2, r2, rfl, h2, h⟩ := AllOk.split h
  obtain ⟨c3, r3, rfl, h3, h⟩ := AllOk.split h
  obtain ⟨c4, c5, rfl, h4, h5⟩ := AllOk.split h
  obtain ⟨sw, _, r1⟩ := sw_rep h1
  obtain ⟨po, _, r2⟩ := po_rep h2
  obtain ⟨ac, _, r3⟩ := ac_rep h3
  obtain ⟨fr, rfl, hf⟩ := fr_of_ok h5
  match c0, h0.length with
  | [k], _ =>
    obtain ⟨⟨k0, rfl, _⟩, _⟩ := h0
    match c4, h4.length with
    | [n, m], _ =>
      obtain ⟨⟨n0, rfl, _⟩, ⟨m0, rfl, _⟩, _⟩ := h4
      refine ⟨⟨k0, sw, po, ac, n0, m0, fr⟩, ?_⟩
      have e : encDe ⟨k0, sw, po, ac, n0, m0, fr⟩ = [.int .i64 k0] ++ (encSw sw ++ (encPo po ++ (encAc ac ++ ([.int .i64 n0, .int .i64 m0] ++ encFr fr)))) := by simp [encDe]
      rw [e]
      exact RepF.append repF_int (r1.append (r2.append (r3.append (RepF.append (repF_cons rfl (repF_cons rfl repF_nil)) (fr_repF hf)))))
theorem open_de {r : Reach} {b0 : Nat} {v : Value} {d : DataW H} {p : List MemPlace} (hv : Value.okWide Try.prog w r b0 60 v) (h : DataW.Trod enc Try.prog w base spare held 60 v d p) :
    ∃ a : De, ∃ cs : List Value, v = .agg cs.toArray ∧ RepF w (encDe a) cs := by
  obtain ⟨cs, rfl, hcs⟩ := open_struct Try.underlying60 act_leaves hv h
  obtain ⟨a, ha⟩ := de_of_ok hcs
  exact ⟨a, cs, rfl, ha⟩
end
end Go.Proofs.Ytdbbmjdeeenlhaa

/- The walk of the law ConfApplies. -/
namespace Go.Proofs.Ytdbbmjdeeenlhaa
open Go.ChangeShapes Go.WideShapes Go.ChangeAt Go.RowKit
set_option maxRecDepth 100000

theorem copyF_T (c : Cf) (hl : c.Fit) : Fun Try.prog 21 [.agg ((encCf c).map .fv)] (.agg ((encCf c).map .fv)) :=
  (copyR_T c hl).froz [7, 8, 9] (.agg (.cons (.frz rfl rfl rfl) (.cons (.frz rfl rfl rfl) (.cons (.frz rfl rfl rfl) .nil))))
theorem applyR_small (c : Cf) (a : De) : (applyR c a).Small := by
  by_cases h : applyE c a = 0
  · cases hm : cfMay c with
    | false => rw [applyE_bad hm] at h; omega
    | true =>
      have hlen := cfMay_len hm
      have b1 := hlen.ss
      have b2 := hlen.ps
      have b3 := hlen.acs
      have b4 := List.length_eraseIdx_le c.ps (idxB (fun p => p.id == a.n) c.ps).toNat
      have b5 := List.length_eraseIdx_le c.acs a.n.toNat
      rw [applyR_ok h]
      unfold applyC
      refine ⟨?_, ?_, ?_⟩ <;> repeat' split
      all_goals (simp only [List.length_append, List.length_singleton, List.length_modify]; omega)
  · rw [applyR_bad h]
    refine ⟨?_, ?_, ?_⟩ <;> simp [cf0]
theorem sameConf_T (c : Cf) (hl : c.Small) : Fun Try.prog 24 [.agg ((encCf c).map .fv), .agg ((encCf c).map .fv)] (.fv (.bool true)) := by
  have hl1 := hl.1
  have hl2 := hl.2.1
  have hl3 := hl.2.2
  refine Fun.body tbl_ok Try.func24 rfl (by kernel_rfl) rfl rfl rfl ?_
  repeat' (first
    | refine X.loc ?_
    | refine nx ?_
    | refine X.cdT ?_
    | refine X.cdF ?_
    | (refine WP.condBit rfl ?_ ?_)
    | (refine WP.cond rfl ?_ ?_ <;> intro hcond)
    | refine X.gst ?_ | refine X.gld ?_ | refine X.new ?_ | refine X.app ?_ | refine X.appS ?_ | refine X.stoW ?_ | refine X.stoB ?_ | refine X.stoR ?_ | refine X.gand ?_ | refine X.gor ?_
    | refine nd ?_
    | ((with_reducible apply drwK.mk); (· kernel_rfl); (· exact aF))
    | fail)
  · exfalso
    simp at hcond
  clear hcond
  refine WP.loop (ι := Nat) (fun k => ⟨[(2, .optr 2 0), (3, .optr 3 0), (4, .fv (.bool false)), (5, .fv (.int .i64 k))], [(2, .box 50 ((encCf c).map .fv)), (3, .box 50 ((encCf c).map .fv))]⟩) (fun k => k ≤ c.ss.length) (fun k => c.ss.length - k) 0 (by omega) ?_ ?_
  · skip
    refine St.to [] [] rfl rfl ?_ ?_ <;> (repeat' (first | exact tA | refine t1 ?_ | exact tB | refine t2 ?_ ?_ | refine t3 ?_ | refine t4 ?_ ?_ | refine .ofEq ?_ | refine OB.To.cut rfl rfl ?_ ?_ ?_ ?_ | refine OB.To.box rfl rfl ?_ | refine ⟨⟨_, rfl, ?_⟩, ?_⟩ | refine ⟨?_, ?_⟩ | fail))
  rintro k hk
  try dsimp only
  by_cases hlt : k < c.ss.length
  case pos =>
    obtain ⟨x, hx⟩ : ∃ x, c.ss[k]? = some x := ⟨_, List.getElem?_eq_getElem hlt⟩
    repeat' (first
      | (apply X.loE; (· exact aR); (· first | (exact .eff (.idxS rfl rfl rfl encSw_len hx))))
      | refine X.loc ?_
      | refine nx ?_
      | refine X.cdT ?_
      | refine X.cdF ?_
      | (refine WP.condBit rfl ?_ ?_)
      | (refine WP.cond rfl ?_ ?_ <;> intro hcond)
      | (apply X.gsE; (· exact aR); (· exact aV); (· exact aW); (· intro hc; first | (exact .eff (.idxS rfl rfl rfl encSw_len hx))); (· exact aR))
      | refine X.gst ?_ | refine X.gld ?_ | refine X.new ?_ | refine X.app ?_ | refine X.appS ?_ | refine X.stoW ?_ | refine X.stoB ?_ | refine X.stoR ?_ | refine X.gand ?_ | refine X.gor ?_
      | refine nd ?_
      | ((with_reducible apply drwK.mk); (· kernel_rfl); (· exact aF))
      | fail)
    · exfalso
      simp [beqL, beqV] at hcond
    · refine ⟨k + 1, by omega, by omega, ?_⟩
      refine St.to [] [] rfl rfl ?_ ?_ <;> (repeat' (first | exact tA | refine t1 ?_ | exact tB | refine t2 ?_ ?_ | refine t3 ?_ | refine t4 ?_ ?_ | refine .ofEq ?_ | refine OB.To.cut rfl rfl ?_ ?_ ?_ ?_ | refine OB.To.box rfl rfl ?_ | refine ⟨⟨_, rfl, ?_⟩, ?_⟩ | refine ⟨?_, ?_⟩ | fail))
  repeat' (first
    | refine X.loc ?_
    | refine nx ?_
    | refine X.cdT ?_
    | refine X.cdF ?_
    | (refine WP.condBit rfl ?_ ?_)
    | (refine WP.cond rfl ?_ ?_ <;> intro hcond)
    | refine X.gst ?_ | refine X.gld ?_ | refine X.new ?_ | refine X.app ?_ | refine X.appS ?_ | refine X.stoW ?_ | refine X.stoB ?_ | refine X.stoR ?_ | refine X.gand ?_ | refine X.gor ?_
    | refine nd ?_
    | ((with_reducible apply drwK.mk); (· kernel_rfl); (· exact aF))
    | fail)
  refine WP.loop (ι := Nat) (fun k => ⟨[(2, .optr 2 0), (3, .optr 3 0), (4, .fv (.bool false)), (6, .fv (.int .i64 k))], [(2, .box 50 ((encCf c).map .fv)), (3, .box 50 ((encCf c).map .fv))]⟩) (fun k => k ≤ c.ps.length) (fun k => c.ps.length - k) 0 (by omega) ?_ ?_
  · skip
    refine St.to [] [] rfl rfl ?_ ?_ <;> (repeat' (first | exact tA | refine t1 ?_ | exact tB | refine t2 ?_ ?_ | refine t3 ?_ | refine t4 ?_ ?_ | refine .ofEq ?_ | refine OB.To.cut rfl rfl ?_ ?_ ?_ ?_ | refine OB.To.box rfl rfl ?_ | refine ⟨⟨_, rfl, ?_⟩, ?_⟩ | refine ⟨?_, ?_⟩ | fail))
  rintro k hk
  try dsimp only
  by_cases hlt : k < c.ps.length
  case pos =>
    obtain ⟨x, hx⟩ : ∃ x, c.ps[k]? = some x := ⟨_, List.getElem?_eq_getElem hlt⟩
    repeat' (first
      | (apply X.loE; (· exact aR); (· first | (exact .eff (.idxS rfl rfl rfl encPo_len hx))))
      | refine X.loc ?_
      | refine nx ?_
      | refine X.cdT ?_
      | refine X.cdF ?_
      | (refine WP.condBit rfl ?_ ?_)
      | (refine WP.cond rfl ?_ ?_ <;> intro hcond)
      | (apply X.gsE; (· exact aR); (· exact aV); (· exact aW); (· intro hc; first | (exact .eff (.idxS rfl rfl rfl encPo_len hx))); (· exact aR))
      | refine X.gst ?_ | refine X.gld ?_ | refine X.new ?_ | refine X.app ?_ | refine X.appS ?_ | refine X.stoW ?_ | refine X.stoB ?_ | refine X.stoR ?_ | refine X.gand ?_ | refine X.gor ?_
      | refine nd ?_
      | ((with_reducible apply drwK.mk); (· kernel_rfl); (· exact aF))
      | fail)
    · exfalso
      simp [beqL, beqV] at hcond
    · refine ⟨k + 1, by omega, by omega, ?_⟩
      refine St.to [] [] rfl rfl ?_ ?_ <;> (repeat' (first | exact tA | refine t1 ?_ | exact tB | refine t2 ?_ ?_ | refine t3 ?_ | refine t4 ?_ ?_ | refine .ofEq ?_ | refine OB.To.cut rfl rfl ?_ ?_ ?_ ?_ | refine OB.To.box rfl rfl ?_ | refine ⟨⟨_, rfl, ?_⟩, ?_⟩ | refine ⟨?_, ?_⟩ | fail))
  repeat' (first
    | refine X.loc ?_
    | refine nx ?_
    | refine X.cdT ?_
    | refine X.cdF ?_
    | (refine WP.condBit rfl ?_ ?_)
    | (refine WP.cond rfl ?_ ?_ <;> intro hcond)
    | refine X.gst ?_ | refine X.gld ?_ | refine X.new ?_ | refine X.app ?_ | refine X.appS ?_ | refine X.stoW ?_ | refine X.stoB ?_ | refine X.stoR ?_ | refine X.gand ?_ | refine X.gor ?_
    | refine nd ?_
    | ((with_reducible apply drwK.mk); (· kernel_rfl); (· exact aF))
    | fail)
  refine WP.loop (ι := Nat) (fun k => ⟨[(2, .optr 2 0), (3, .optr 3 0), (4, .fv (.bool false)), (7, .fv (.int .i64 k))], [(2, .box 50 ((encCf c).map .fv)), (3, .box 50 ((encCf c).map .fv))]⟩) (fun k => k ≤ c.acs.length) (fun k => c.acs.length - k) 0 (by omega) ?_ ?_
  · skip
    refine St.to [] [] rfl rfl ?_ ?_ <;> (repeat' (first | exact tA | refine t1 ?_ | exact tB | refine t2 ?_ ?_ | refine t3 ?_ | refine t4 ?_ ?_ | refine .ofEq ?_ | refine OB.To.cut rfl rfl ?_ ?_ ?_ ?_ | refine OB.To.box rfl rfl ?_ | refine ⟨⟨_, rfl, ?_⟩, ?_⟩ | refine ⟨?_, ?_⟩ | fail))
  rintro k hk
  try dsimp only
  by_cases hlt : k < c.acs.length
  case pos =>
    obtain ⟨x, hx⟩ : ∃ x, c.acs[k]? = some x := ⟨_, List.getElem?_eq_getElem hlt⟩
    repeat' (first
      | (apply X.loE; (· exact aR); (· first | (exact .eff (.idxS rfl rfl rfl encAc_len hx))))
      | refine X.loc ?_
      | refine nx ?_
      | refine X.cdT ?_
      | refine X.cdF ?_
      | (refine WP.condBit rfl ?_ ?_)
      | (refine WP.cond rfl ?_ ?_ <;> intro hcond)
      | (apply X.gsE; (· exact aR); (· exact aV); (· exact aW); (· intro hc; first | (exact .eff (.idxS rfl rfl rfl encAc_len hx))); (· exact aR))
      | refine X.gst ?_ | refine X.gld ?_ | refine X.new ?_ | refine X.app ?_ | refine X.appS ?_ | refine X.stoW ?_ | refine X.stoB ?_ | refine X.stoR ?_ | refine X.gand ?_ | refine X.gor ?_
      | refine nd ?_
      | ((with_reducible apply drwK.mk); (· kernel_rfl); (· exact aF))
      | fail)
    · exfalso
      simp [beqL, beqV] at hcond
    · refine ⟨k + 1, by omega, by omega, ?_⟩
      refine St.to [] [] rfl rfl ?_ ?_ <;> (repeat' (first | exact tA | refine t1 ?_ | exact tB | refine t2 ?_ ?_ | refine t3 ?_ | refine t4 ?_ ?_ | refine .ofEq ?_ | refine OB.To.cut rfl rfl ?_ ?_ ?_ ?_ | refine OB.To.box rfl rfl ?_ | refine ⟨⟨_, rfl, ?_⟩, ?_⟩ | refine ⟨?_, ?_⟩ | fail))
  repeat' (first
    | refine X.loc ?_
    | refine nx ?_
    | refine X.cdT ?_
    | refine X.cdF ?_
    | (refine WP.condBit rfl ?_ ?_)
    | (refine WP.cond rfl ?_ ?_ <;> intro hcond)
    | refine X.gst ?_ | refine X.gld ?_ | refine X.new ?_ | refine X.app ?_ | refine X.appS ?_ | refine X.stoW ?_ | refine X.stoB ?_ | refine X.stoR ?_ | refine X.gand ?_ | refine X.gor ?_
    | refine nd ?_
    | ((with_reducible apply drwK.mk); (· kernel_rfl); (· exact aF))
    | fail)
  exact .f1 (.inl rfl) rfl rfl
theorem confApplies_T (c : Cf) (a : De) (hl : c.Fit) : Fun Try.prog 5 [.agg ((encCf c).map .fv), .agg ((encDe a).map .fv)] (.fv (.bool true)) := by
  have h0 := copyF_T c hl
  have h1 := apply_T c a hl
  have h2 := appliedOf_T c a hl
  have h4 := sameConf_T c hl.small
  have h3 : Fun Try.prog 24 [.agg ((encCf (applyR c a)).map .fv), .agg ((encCf (applyR c a)).map .fv)] (.fv (.bool true)) := sameConf_T (applyR c a) (applyR_small c a)
  generalize applyR c a = R at *
  generalize applyE c a = e at *
  refine Fun.body tbl_ok Try.func5 rfl (by kernel_rfl) rfl rfl rfl ?_
  repeat' (first
    | (apply X.loE; (· exact aR); (· first | exact .callL rfl rfl rfl (by first | exact h0 | exact h1 | exact h2 | exact h3 | exact h4) rfl | (apply LEff.callBL; (· rfl); (· rfl); (· exact h0); (· exact aB); (· rfl)) | (apply LEff.callBL; (· rfl); (· rfl); (· exact h1); (· exact aB); (· rfl)) | (apply LEff.callBL; (· rfl); (· rfl); (· exact h2); (· exact aB); (· rfl)) | (apply LEff.callBL; (· rfl); (· rfl); (· exact h3); (· exact aB); (· rfl)) | (apply LEff.callBL; (· rfl); (· rfl); (· exact h4); (· exact aB); (· rfl))))
    | refine X.loc ?_
    | refine nx ?_
    | (refine WP.condBit rfl ?_ ?_)
    | (refine WP.cond rfl ?_ ?_ <;> intro hcond)
    | (apply X.gsE; (· exact aR); (· exact aV); (· exact aW); (· intro hc; first | exact .callG rfl rfl rfl (by first | exact h0 | exact h1 | exact h2 | exact h3 | exact h4) rfl | (apply LEff.callBG; (· rfl); (· rfl); (· exact h0); (· exact aB); (· rfl)) | (apply LEff.callBG; (· rfl); (· rfl); (· exact h1); (· exact aB); (· rfl)) | (apply LEff.callBG; (· rfl); (· rfl); (· exact h2); (· exact aB); (· rfl)) | (apply LEff.callBG; (· rfl); (· rfl); (· exact h3); (· exact aB); (· rfl)) | (apply LEff.callBG; (· rfl); (· rfl); (· exact h4); (· exact aB); (· rfl))); (· exact aR))
    | refine X.gst ?_ | refine X.gld ?_ | refine X.new ?_ | refine X.app ?_ | refine X.appS ?_ | refine X.stoW ?_ | refine X.stoB ?_ | refine X.stoR ?_ | refine X.gand ?_ | refine X.gor ?_
    | refine nd ?_
    | ((with_reducible apply drwK.mk); (· kernel_rfl); (· exact aF))
    | fail)
  refine .f1 (.inl rfl) rfl ?_
  simp
theorem confApplies_open {H : Type} {enc : TypeId × Value → H} (W : World) (base : Nat) {v0 v1 : Value} {d0 d1 : DataW H} {p0 p1 : List MemPlace} (hv0 : Value.okWide Try.prog W .any base 50 v0)
    (h0 : DataW.Trod enc Try.prog W 0 (fun _ => true) true 50 v0 d0 p0) (hs0 : SizedCl Try.prog 50 d0) (hv1 : Value.okWide Try.prog W .any base 60 v1)
    (h1 : DataW.Trod enc Try.prog W 0 (fun _ => true) true 60 v1 d1 p1) (_hs1 : SizedCl Try.prog 60 d1) : Calls Try.prog 5 #[v0, v1] W fun e W' => e = .returned (.bool true) ∧ Below W.heap.size W W' := by
  obtain ⟨c, _, _, l1, l2, l3, cs, rfl, hr⟩ := open_cf hv0 h0 hs0
  obtain ⟨a, us, rfl, ha⟩ := open_de hv1 h1
  have l1 := reach_le l1
  have l2 := reach_le l2
  have l3 := reach_le l3
  exact (confApplies_T c a ⟨by omega, by omega, by omega⟩).yes ⟨rep_agg hr, rep_agg ha, trivial⟩
end Go.Proofs.Ytdbbmjdeeenlhaa
