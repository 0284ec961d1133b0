/- The document's answer to an act: a port that goes, or moves. -/
import Derived.Test.YtdbbmjdeeenlhaaPack12
namespace Go.Proofs.Ytdbbmjdeeenlhaa
open Go.RowKit
set_option maxRecDepth 100000

set_option maxHeartbeats 4000000 in
theorem applied46_T (c : Cf) (a : De) (hl : c.Fit) (hm : cfMay c = true) (k46 : a.kind = 4 ∨ a.kind = 6) : Fun Try.prog 23 [.agg ((encCf c).map .fv), .agg ((encDe a).map .fv)] (.tup [.agg ((encCf (applyR c a)).map .fv), .fv (.int .i64 (applyE c a))]) := by
  have hck := confMay_T c hl.small
  refine Fun.body tbl_ok Try.func23 rfl (by kernel_rfl) rfl rfl rfl ?_
  rw [hm] at hck
  have hlen := cfMay_len hm
  have hcp := copyR_T c hl
  have b1 := hlen.ss
  have b2 := hlen.ps
  have b3 := hlen.acs
  have hids : ∀ k, ((c.ps.take k).filterMap (keepP a)).length ≤ k := fun k => Nat.le_trans (List.length_filterMap_le _ _) (by rw [List.length_take]; omega)
  have c1 := portOf_T c a.n hl.small
  have c2 := in_T a.m (-1) 5
  have hany := idxB_any (fun p : Po => p.id == a.n) c.ps
  have hfin : applyE c a = 0 → c.ps.filterMap (keepP a) = (applyR c a).ps ∧ (applyR c a).ss = c.ss ∧ (applyR c a).acs = c.acs := fun h0 => by
    rw [applyR_ok h0, ← applyD_eq hm h0, applyD, if_neg (by omega), if_neg (by omega), if_neg (by omega), if_pos k46]
    exact ⟨rfl, rfl, rfl⟩
  have e0 : applyE c a = (if (c.ps.any fun p => p.id == a.n) = false then 6 else if a.kind = 6 ∧ inR a.m (-1) 5 = false then 2 else 0) := by
    rw [applyE, if_neg (by rw [hm]; decide), if_neg (by omega), if_neg (by omega), if_neg (by omega), if_pos k46]
    by_cases ha : (c.ps.any fun p => p.id == a.n) = false
    · rw [if_pos (hany.2 ha), if_pos ha]
    · rw [if_neg fun h => ha (hany.1 h), if_neg ha]
  have hbad : applyE c a ≠ 0 → applyR c a = cf0 := applyR_bad
  generalize hF : (c.ps.find? fun p => p.id == a.n).getD po0 = pf at c1
  clear hF
  generalize (c.ps.any fun p => p.id == a.n) = an at c1 e0
  generalize inR a.m (-1) 5 = ir at c2 e0
  generalize applyE c a = e at *
  generalize hR : applyR c a = R at *
  clear hR
  rcases k46 with hk | hk
  · skip
    repeat' (first
      | with_reducible refine WP.hold 71 ?_
      | (apply Ops.loc; (· rfl); (· rfl); (· rfl); (· first | exact .eff (.mv rfl) | exact .eff (.asg rfl) | exact .eff (.loadO rfl rfl rfl) | exact .eff (.fldO rfl rfl rfl) | exact .eff (.not rfl) | exact .eff (.extract rfl rfl) | exact .eff (.bin rfl rfl rfl) | exact .callL rfl rfl rfl (by first | exact hck | exact c1) rfl))
      | with_reducible refine WP.seq ?_
      | with_reducible apply WP.reg tbl_ok rfl
      | with_reducible refine Ops.nil ?_
      | with_reducible refine thenQ.nor ?_
      | with_reducible refine WP.block ?_
      | with_reducible refine WP.skip ?_
      | refine WP.condF rfl ?_
      | (refine WP.condT (c := _) (condD rfl (by first | exact decide_eq_true (by omega) | exact bne_iff_ne.2 (by omega) | exact beq_iff_eq.2 (by omega) | (simp only [Bool.or_eq_true, Bool.and_eq_true, Bool.or_eq_false_iff, Bool.and_eq_false_iff, decide_eq_true_eq, decide_eq_false_iff_not, bne_iff_ne, beq_iff_eq, bne_eq_false_iff_eq, beq_eq_false_iff_ne, Bool.not_eq_true', Bool.not_eq_false', ne_eq]; omega))) ?_)
      | (refine WP.condF (c := _) (condD rfl (by first | exact decide_eq_false (by omega) | exact bne_eq_false_iff_eq.2 (by omega) | exact beq_eq_false_iff_ne.2 (by omega) | (simp only [Bool.or_eq_true, Bool.and_eq_true, Bool.or_eq_false_iff, Bool.and_eq_false_iff, decide_eq_true_eq, decide_eq_false_iff_not, bne_iff_ne, beq_iff_eq, bne_eq_false_iff_eq, beq_eq_false_iff_ne, Bool.not_eq_true', Bool.not_eq_false', ne_eq]; omega))) ?_)
      | (apply Ops.new; (· rfl); (· rfl); (· rfl); (· first | exact .eff (.box rfl) | exact .eff (.alloc rfl) | exact .eff (.bsliceS rfl rfl rfl rfl rfl) | exact .eff (.mkS rfl rfl rfl rfl (by omega) (by omega)) | exact .eff (.zeroS rfl rfl (by intro l hl; first | cases hl | exact ⟨_, by injection hl with hl; subst hl; rfl⟩) rfl rfl rfl)); (· first | rfl | (simp only [freshB, noRefH, OB.cells, refsL_fv, refsL_app]; rfl)))
      | (apply Ops.stoW; (· rfl); (· rfl); (· rfl); (· rfl); (· rfl); (· rfl); (· first | rfl | exact onesB_map _); (· rfl); (· exact rfl); (· exact (by repeat' (first | exact .here | apply Repl.there rfl))))
      | (apply Ops.callA false; (· rfl); (· rfl); (· rfl); (· rfl); (· rfl); (· rfl); (· exact hcp); (· skip; (repeat' (first | exact trivial | exact AV.ToL.nil | exact .ptr rfl | exact .sl rfl | exact AV.To.nil rfl | exact .le (.refl _) rfl | exact .frz rfl rfl rfl | exact .frp rfl rfl rfl | exact .le AV.Le.nil rfl | refine AV.To.agg ?_ | refine AV.To.fn ?_ | refine AV.ToL.cons ?_ ?_ | exact OB.To.nil rfl | refine OB.To.row rfl rfl rfl ?_ | refine OB.To.box rfl rfl ?_ | exact .ofEq rfl | refine ⟨?_, ?_⟩ | fail))); (· skip; (repeat' (first | exact trivial | exact AV.ToL.nil | exact .ptr rfl | exact .sl rfl | exact AV.To.nil rfl | exact .le (.refl _) rfl | exact .frz rfl rfl rfl | exact .frp rfl rfl rfl | exact .le AV.Le.nil rfl | refine AV.To.agg ?_ | refine AV.To.fn ?_ | refine AV.ToL.cons ?_ ?_ | exact OB.To.nil rfl | refine OB.To.row rfl rfl rfl ?_ | refine OB.To.box rfl rfl ?_ | exact .ofEq rfl | refine ⟨?_, ?_⟩ | fail))); (· rfl); (· rfl); (· skip; (repeat' (first | exact OwnRn.nil | apply OwnRn.cons rfl | apply OB.Rn.row | apply OB.Rn.box | exact AV.RnL.maps _ | exact AV.RnL.nil | exact AV.Rn.nil | exact AV.Rn.le rfl | exact AV.Rn.ptr rfl | exact AV.Rn.sl rfl | apply AV.RnL.cons | apply AV.Rn.agg | apply AV.Rn.tup | apply AV.Rn.fn | apply AV.RnL.app | apply AV.RnL.mapsS | fail))); (· skip; (repeat' (first | exact OwnRn.nil | apply OwnRn.cons rfl | apply OB.Rn.row | apply OB.Rn.box | exact AV.RnL.maps _ | exact AV.RnL.nil | exact AV.Rn.nil | exact AV.Rn.le rfl | exact AV.Rn.ptr rfl | exact AV.Rn.sl rfl | apply AV.RnL.cons | apply AV.Rn.agg | apply AV.Rn.tup | apply AV.Rn.fn | apply AV.RnL.app | apply AV.RnL.mapsS | fail))); (· rfl); (· rfl); (· exact (by first | exact (rfl : _ = []) | exact (rfl : _ = [_]) | exact (rfl : _ = [_, _]) | exact (rfl : _ = [_, _, _]) | exact (rfl : _ = [_, _, _, _]) | exact (rfl : _ = [_, _, _, _, _]) | exact (rfl : _ = [_, _, _, _, _, _]) | exact (rfl : _ = [_, _, _, _, _, _, _]) | exact (rfl : _ = [_, _, _, _, _, _, _, _]) | exact (rfl : _ = [_, _, _, _, _, _, _, _, _]) | exact (rfl : _ = [_, _, _, _, _, _, _, _, _, _]) | exact (rfl : _ = [_, _, _, _, _, _, _, _, _, _, _]) | exact (rfl : _ = [_, _, _, _, _, _, _, _, _, _, _, _]))); (· first | rfl | (simp only [freeNs, noRefH, OB.cells, refsL_fv, refsL_app]; rfl)); (· exact (by first | exact (rfl : _ = []) | exact (rfl : _ = [_]) | exact (rfl : _ = [_, _]) | exact (rfl : _ = [_, _, _]) | exact (rfl : _ = [_, _, _, _]) | exact (rfl : _ = [_, _, _, _, _]) | exact (rfl : _ = [_, _, _, _, _, _]) | exact (rfl : _ = [_, _, _, _, _, _, _]) | exact (rfl : _ = [_, _, _, _, _, _, _, _]) | exact (rfl : _ = [_, _, _, _, _, _, _, _, _]) | exact (rfl : _ = [_, _, _, _, _, _, _, _, _, _]) | exact (rfl : _ = [_, _, _, _, _, _, _, _, _, _, _]) | exact (rfl : _ = [_, _, _, _, _, _, _, _, _, _, _, _]))))
      | fail)
    all_goals (try exact ([] : List Fp))
    all_goals (try apply Held.mk)
    refine WP.join (ι := Unit) (fun _ => ⟨[(2, .optr 2 0), (3, .optr 3 0), (4, .optr 4 0), (6, .optr 6 0), (7, .fv (.int .i64 e))], [(2, .box 50 ((encCf c).map .fv)), (3, .box 60 ((encDe a).map .fv)), (4, .box 50 [.nil, .nil, .nil]), (6, .box 50 [.osl 18, .osl 318, .osl 618]), (18, .row 52 3 c.ss.length ((c.ss.flatMap encSw).map .fv)), (618, .row 56 9 c.acs.length ((c.acs.flatMap encAc).map .fv))]⟩) (fun _ => True) ?_ ?_
    · cases an with
      | false =>
        rw [if_pos rfl] at e0
        subst e0
        repeat' (first
          | (apply Ops.loc; (· rfl); (· rfl); (· rfl); (· first | exact .eff (.asg rfl)))
          | with_reducible apply WP.reg tbl_ok rfl
          | with_reducible refine Ops.nil ?_
          | with_reducible refine thenQ.nor ?_
          | refine WP.condT rfl ?_
          | fail)
        all_goals (try exact ([] : List Fp))
        refine ⟨(), trivial, ?_⟩
        refine St.to [] [] rfl rfl ?_ ?_ <;> (repeat' (first | exact trivial | with_reducible rfl | exact .any | exact .ptr rfl | exact .sl rfl | exact .ptr0 rfl | exact .sl0 rfl | exact AV.To.nil rfl | exact .frz rfl rfl rfl | exact .frb rfl rfl (by omega) rfl | exact .frp rfl rfl rfl | refine AV.To.agg ?_ | refine AV.To.tup ?_ | exact .le (.refl _) rfl | exact .le AV.Le.nil rfl | refine AV.To.frzE rfl ?_ ?_ rfl | refine AV.To.frbE rfl ?_ ?_ (by omega) rfl | refine .le (.of_eq ?_) rfl | exact AV.ToL.nil | refine AV.ToL.cons ?_ ?_ | refine .ofEq ?_ | exact OB.To.nil rfl | refine OB.To.row rfl rfl ?_ ?_ | refine OB.To.cut rfl rfl ?_ ?_ ?_ ?_ | refine OB.To.box rfl rfl ?_ | refine ⟨⟨_, rfl, ?_⟩, ?_⟩ | refine ⟨?_, ?_⟩ | fail))
      | true =>
        rw [if_neg (by simp)] at e0
        cases ir with
        | false =>
          simp [hk] at e0
          subst e0
          repeat' (first
            | (apply Ops.loc; (· rfl); (· rfl); (· rfl); (· first | exact .eff (.mv rfl) | exact .eff (.loadO rfl rfl rfl) | exact .eff (.fldO rfl rfl rfl) | exact .eff (.and rfl rfl rfl) | exact .eff (.not rfl) | exact .eff (.bin rfl rfl rfl)))
            | with_reducible refine WP.seq ?_
            | with_reducible apply WP.reg tbl_ok rfl
            | with_reducible refine Ops.nil ?_
            | with_reducible refine thenQ.nor ?_
            | with_reducible refine WP.skip ?_
            | refine WP.condF rfl ?_
            | (refine WP.condF (c := _) (condD rfl (by first | exact decide_eq_false (by omega) | exact bne_eq_false_iff_eq.2 (by omega) | exact beq_eq_false_iff_ne.2 (by omega) | (simp only [Bool.or_eq_true, Bool.and_eq_true, Bool.or_eq_false_iff, Bool.and_eq_false_iff, decide_eq_true_eq, decide_eq_false_iff_not, bne_iff_ne, beq_iff_eq, bne_eq_false_iff_eq, beq_eq_false_iff_ne, Bool.not_eq_true', Bool.not_eq_false', ne_eq]; omega))) ?_)
            | (apply Ops.gst; (· rfl); (· rfl); (· rfl); (· rfl); (· rfl); (· rfl); (· rfl); (· first | exact .b | exact .w); (· intro hc; repeat' (first | exact trivial | exact fun _ => hc | exact fun _ => hc.1 | exact fun _ => ⟨hc.1.1, hc.1.2⟩ | refine And.intro ?_ ?_)); (· intro hc; first | exact .eff (.loadO rfl rfl rfl) | exact .eff (.fldO rfl rfl rfl) | exact .eff (.and rfl rfl rfl) | exact .eff (.not rfl) | exact .eff (.bin rfl rfl rfl) | exact .callG rfl rfl rfl (by first | exact c2) rfl); (· rfl); (· rfl))
            | fail)
          all_goals (try exact ([] : List Fp))
          all_goals (try (exfalso; simp [hk] at hcond; done))
          refine ⟨(), trivial, ?_⟩
          refine St.to [] [] rfl rfl ?_ ?_ <;> (repeat' (first | exact trivial | with_reducible rfl | exact .any | exact .ptr rfl | exact .sl rfl | exact .ptr0 rfl | exact .sl0 rfl | exact AV.To.nil rfl | exact .frz rfl rfl rfl | exact .frb rfl rfl (by omega) rfl | exact .frp rfl rfl rfl | refine AV.To.agg ?_ | refine AV.To.tup ?_ | exact .le (.refl _) rfl | exact .le AV.Le.nil rfl | refine AV.To.frzE rfl ?_ ?_ rfl | refine AV.To.frbE rfl ?_ ?_ (by omega) rfl | refine .le (.of_eq ?_) rfl | exact AV.ToL.nil | refine AV.ToL.cons ?_ ?_ | refine .ofEq ?_ | exact OB.To.nil rfl | refine OB.To.row rfl rfl ?_ ?_ | refine OB.To.cut rfl rfl ?_ ?_ ?_ ?_ | refine OB.To.box rfl rfl ?_ | refine ⟨⟨_, rfl, ?_⟩, ?_⟩ | refine ⟨?_, ?_⟩ | fail))
        | true =>
          rw [if_neg (by simp)] at e0
          subst e0
          repeat' (first
            | (apply Ops.loc; (· rfl); (· rfl); (· rfl); (· first | exact .eff (.mv rfl) | exact .eff (.loadO rfl rfl rfl) | exact .eff (.fldO rfl rfl rfl) | exact .eff (.and rfl rfl rfl) | exact .eff (.not rfl) | exact .eff (.bin rfl rfl rfl)))
            | with_reducible refine WP.seq ?_
            | with_reducible apply WP.reg tbl_ok rfl
            | with_reducible refine Ops.nil ?_
            | with_reducible refine thenQ.nor ?_
            | with_reducible refine WP.skip ?_
            | refine WP.condF rfl ?_
            | (refine WP.condF (c := _) (condD rfl (by first | exact decide_eq_false (by omega) | exact bne_eq_false_iff_eq.2 (by omega) | exact beq_eq_false_iff_ne.2 (by omega) | (simp only [Bool.or_eq_true, Bool.and_eq_true, Bool.or_eq_false_iff, Bool.and_eq_false_iff, decide_eq_true_eq, decide_eq_false_iff_not, bne_iff_ne, beq_iff_eq, bne_eq_false_iff_eq, beq_eq_false_iff_ne, Bool.not_eq_true', Bool.not_eq_false', ne_eq]; omega))) ?_)
            | (apply Ops.gst; (· rfl); (· rfl); (· rfl); (· rfl); (· rfl); (· rfl); (· rfl); (· first | exact .b | exact .w); (· intro hc; repeat' (first | exact trivial | exact fun _ => hc | exact fun _ => hc.1 | exact fun _ => ⟨hc.1.1, hc.1.2⟩ | refine And.intro ?_ ?_)); (· intro hc; first | exact .eff (.loadO rfl rfl rfl) | exact .eff (.fldO rfl rfl rfl) | exact .eff (.and rfl rfl rfl) | exact .eff (.not rfl) | exact .eff (.bin rfl rfl rfl) | exact .callG rfl rfl rfl (by first | exact c2) rfl); (· rfl); (· rfl))
            | fail)
          all_goals (try exact ([] : List Fp))
          all_goals (try (exfalso; simp [hk] at hcond; done))
          refine ⟨(), trivial, ?_⟩
          refine St.to [] [] rfl rfl ?_ ?_ <;> (repeat' (first | exact trivial | with_reducible rfl | exact .any | exact .ptr rfl | exact .sl rfl | exact .ptr0 rfl | exact .sl0 rfl | exact AV.To.nil rfl | exact .frz rfl rfl rfl | exact .frb rfl rfl (by omega) rfl | exact .frp rfl rfl rfl | refine AV.To.agg ?_ | refine AV.To.tup ?_ | exact .le (.refl _) rfl | exact .le AV.Le.nil rfl | refine AV.To.frzE rfl ?_ ?_ rfl | refine AV.To.frbE rfl ?_ ?_ (by omega) rfl | refine .le (.of_eq ?_) rfl | exact AV.ToL.nil | refine AV.ToL.cons ?_ ?_ | refine .ofEq ?_ | exact OB.To.nil rfl | refine OB.To.row rfl rfl ?_ ?_ | refine OB.To.cut rfl rfl ?_ ?_ ?_ ?_ | refine OB.To.box rfl rfl ?_ | refine ⟨⟨_, rfl, ?_⟩, ?_⟩ | refine ⟨?_, ?_⟩ | fail))
    · rintro _ _
      try dsimp only
      repeat' (first
        | (apply Ops.loc; (· rfl); (· rfl); (· rfl); (· first | exact .eff (.asg rfl) | exact .eff (.fldO rfl rfl rfl)))
        | with_reducible refine WP.seq ?_
        | with_reducible apply WP.reg tbl_ok rfl
        | with_reducible refine Ops.nil ?_
        | with_reducible refine thenQ.nor ?_
        | with_reducible refine WP.block ?_
        | (apply Ops.stoB; (· rfl); (· rfl); (· rfl); (· rfl); (· rfl); (· rfl); (· first | rfl | exact onesB_map _); (· rfl); (· exact rfl); (· exact (by repeat' (first | exact .here | apply Repl.there rfl))))
        | fail)
      all_goals (try exact ([] : List Fp))
      refine WP.loop (ι := Nat) (fun k => ⟨[(2, .optr 2 0), (3, .optr 3 0), (4, .optr 4 0), (6, .optr 6 0), (7, .fv (.int .i64 e)), (10, .fv (.int .i64 k))], [(2, .box 50 ((encCf c).map .fv)), (3, .box 60 ((encDe a).map .fv)), (4, .box 50 [.nil, .nil, .nil]), (6, .box 50 [.osl 18, .osl 900, .osl 618]), (18, .row 52 3 c.ss.length ((c.ss.flatMap encSw).map .fv)), (618, .row 56 9 c.acs.length ((c.acs.flatMap encAc).map .fv)), (900, .row 54 5 ((c.ps.take k).filterMap (keepP a)).length ((((c.ps.take k).filterMap (keepP a)).flatMap encPo).map .fv))]⟩) (fun k => k ≤ c.ps.length) (fun k => c.ps.length - k) 0 (by omega) ?_ ?_
      · skip
        refine St.to [(900, .nil)] [] rfl rfl ?_ ?_ <;> (repeat' (first | exact trivial | with_reducible rfl | exact .any | exact .ptr rfl | exact .sl rfl | exact .ptr0 rfl | exact .sl0 rfl | exact AV.To.nil rfl | exact .frz rfl rfl rfl | exact .frb rfl rfl (by omega) rfl | exact .frp rfl rfl rfl | refine AV.To.agg ?_ | refine AV.To.tup ?_ | exact .le (.refl _) rfl | exact .le AV.Le.nil rfl | refine AV.To.frzE rfl ?_ ?_ rfl | refine AV.To.frbE rfl ?_ ?_ (by omega) rfl | refine .le (.of_eq ?_) rfl | exact AV.ToL.nil | refine AV.ToL.cons ?_ ?_ | refine .ofEq ?_ | exact OB.To.nil rfl | refine OB.To.row rfl rfl ?_ ?_ | refine OB.To.cut rfl rfl ?_ ?_ ?_ ?_ | refine OB.To.box rfl rfl ?_ | refine ⟨⟨_, rfl, ?_⟩, ?_⟩ | refine ⟨?_, ?_⟩ | fail))
      rintro k hkl
      try dsimp only
      have hRk := hids k
      by_cases hlt : k < c.ps.length
      case neg =>
        rw [List.take_of_length_le (by omega)]
        rw [List.take_of_length_le (by omega)] at hRk
        by_cases he : e = 0
        · obtain ⟨f1, f2, f3⟩ := hfin he
          subst he
          generalize c.ps.filterMap (keepP a) = L at *
          repeat' (first
            | (apply Ops.loc; (· rfl); (· rfl); (· rfl); (· first | exact .eff (.mv rfl) | exact .eff (.asg rfl) | exact .eff (.loadO rfl rfl rfl) | exact .eff (.fldO rfl rfl rfl) | exact .eff (.lenF rfl rfl) | exact .eff (.bin rfl rfl rfl)))
            | with_reducible refine WP.seq ?_
            | with_reducible apply WP.reg tbl_ok rfl
            | with_reducible refine Ops.nil ?_
            | with_reducible refine thenQ.nor ?_
            | with_reducible refine thenQ.ex ?_
            | with_reducible refine blockQ.nor ?_
            | with_reducible refine blockQ.hit rfl ?_
            | with_reducible refine WP.skip ?_
            | with_reducible refine WP.exit ?_
            | with_reducible refine WP.ret ?_
            | refine WP.condF rfl ?_
            | (refine WP.condF (c := _) (condD rfl (by first | exact decide_eq_false (by omega) | exact bne_eq_false_iff_eq.2 (by omega) | exact beq_eq_false_iff_ne.2 (by omega) | (simp only [Bool.or_eq_true, Bool.and_eq_true, Bool.or_eq_false_iff, Bool.and_eq_false_iff, decide_eq_true_eq, decide_eq_false_iff_not, bne_iff_ne, beq_iff_eq, bne_eq_false_iff_eq, beq_eq_false_iff_ne, Bool.not_eq_true', Bool.not_eq_false', ne_eq]; omega))) ?_)
            | (apply Ops.stoW; (· rfl); (· rfl); (· rfl); (· rfl); (· rfl); (· rfl); (· first | rfl | exact onesB_map _); (· rfl); (· exact rfl); (· exact (by repeat' (first | exact .here | apply Repl.there rfl))))
            | fail)
          all_goals (try exact ([] : List Fp))
          refine .le (s' := ⟨[(4, .optr 4 0), (5, .fv (.int .i64 0))], [(4, .box 50 ((encCf R).map .fv))]⟩) ?_ (.fun (.inl rfl) rfl rfl)
          refine St.to [] [18, 900, 618] rfl rfl ?_ ?_ <;> (repeat' (first | exact trivial | with_reducible rfl | exact .any | exact .ptr rfl | exact .sl rfl | exact .ptr0 rfl | exact .sl0 rfl | exact AV.To.nil rfl | exact .frz rfl rfl rfl | exact .frb rfl rfl (by omega) rfl | exact .frp rfl rfl rfl | refine AV.To.agg ?_ | refine AV.To.tup ?_ | exact .le (.refl _) rfl | exact .le AV.Le.nil rfl | refine AV.To.frzE rfl ?_ ?_ rfl | refine AV.To.frbE rfl ?_ ?_ (by omega) rfl | refine .le (.of_eq ?_) rfl | exact AV.ToL.nil | refine AV.ToL.cons ?_ ?_ | refine .ofEq ?_ | exact OB.To.nil rfl | refine OB.To.row rfl rfl ?_ ?_ | refine OB.To.cut rfl rfl ?_ ?_ ?_ ?_ | refine OB.To.box rfl rfl ?_ | refine ⟨⟨_, rfl, ?_⟩, ?_⟩ | refine ⟨?_, ?_⟩ | fail))
          all_goals first | (rw [f2]; done) | (rw [f3]; done) | (rw [f1]; done) | (simp [f1, f2, f3]; done)
        · skip
          repeat' (first
            | (apply Ops.loc; (· rfl); (· rfl); (· rfl); (· first | exact .eff (.mv rfl) | exact .eff (.asg rfl) | exact .eff (.loadO rfl rfl rfl) | exact .eff (.fldO rfl rfl rfl) | exact .eff (.lenF rfl rfl) | exact .eff (.bin rfl rfl rfl) | exact .eff (.buildS rfl rfl rfl rfl)))
            | with_reducible refine WP.seq ?_
            | with_reducible apply WP.reg tbl_ok rfl
            | with_reducible refine Ops.nil ?_
            | with_reducible refine thenQ.nor ?_
            | with_reducible refine thenQ.ex ?_
            | with_reducible refine thenQ.ret ?_
            | with_reducible refine blockQ.nor ?_
            | with_reducible refine blockQ.hit rfl ?_
            | with_reducible refine WP.exit ?_
            | with_reducible refine WP.ret ?_
            | (refine WP.condT (c := _) (condD rfl (by first | exact decide_eq_true (by omega) | exact bne_iff_ne.2 (by omega) | exact beq_iff_eq.2 (by omega) | (simp only [Bool.or_eq_true, Bool.and_eq_true, Bool.or_eq_false_iff, Bool.and_eq_false_iff, decide_eq_true_eq, decide_eq_false_iff_not, bne_iff_ne, beq_iff_eq, bne_eq_false_iff_eq, beq_eq_false_iff_ne, Bool.not_eq_true', Bool.not_eq_false', ne_eq]; omega))) ?_)
            | (refine WP.condF (c := _) (condD rfl (by first | exact decide_eq_false (by omega) | exact bne_eq_false_iff_eq.2 (by omega) | exact beq_eq_false_iff_ne.2 (by omega) | (simp only [Bool.or_eq_true, Bool.and_eq_true, Bool.or_eq_false_iff, Bool.and_eq_false_iff, decide_eq_true_eq, decide_eq_false_iff_not, bne_iff_ne, beq_iff_eq, bne_eq_false_iff_eq, beq_eq_false_iff_ne, Bool.not_eq_true', Bool.not_eq_false', ne_eq]; omega))) ?_)
            | (apply Ops.stoW; (· rfl); (· rfl); (· rfl); (· rfl); (· rfl); (· rfl); (· first | rfl | exact onesB_map _); (· rfl); (· exact rfl); (· exact (by repeat' (first | exact .here | apply Repl.there rfl))))
            | fail)
          all_goals (try exact ([] : List Fp))
          refine .le (s' := ⟨[(4, .optr 4 0), (5, .fv (.int .i64 e))], [(4, .box 50 ((encCf cf0).map .fv))]⟩) ?_ (.fun (.inl rfl) rfl ?_)
          · skip
            refine St.to [] [] rfl rfl ?_ ?_ <;> (repeat' (first | exact trivial | with_reducible rfl | exact .any | exact .ptr rfl | exact .sl rfl | exact .ptr0 rfl | exact .sl0 rfl | exact AV.To.nil rfl | exact .frz rfl rfl rfl | exact .frb rfl rfl (by omega) rfl | exact .frp rfl rfl rfl | refine AV.To.agg ?_ | refine AV.To.tup ?_ | exact .le (.refl _) rfl | exact .le AV.Le.nil rfl | refine AV.To.frzE rfl ?_ ?_ rfl | refine AV.To.frbE rfl ?_ ?_ (by omega) rfl | refine .le (.of_eq ?_) rfl | exact AV.ToL.nil | refine AV.ToL.cons ?_ ?_ | refine .ofEq ?_ | exact OB.To.nil rfl | refine OB.To.row rfl rfl ?_ ?_ | refine OB.To.cut rfl rfl ?_ ?_ ?_ ?_ | refine OB.To.box rfl rfl ?_ | refine ⟨⟨_, rfl, ?_⟩, ?_⟩ | refine ⟨?_, ?_⟩ | fail))
          · rw [hbad he]
            rfl
      case pos =>
        obtain ⟨x, hx⟩ : ∃ x, c.ps[k]? = some x := ⟨_, List.getElem?_eq_getElem hlt⟩
        have hsn : (c.ps.take (k + 1)).filterMap (keepP a) = (c.ps.take k).filterMap (keepP a) ++ (keepP a x).toList := by
          rw [List.take_add_one, hx, List.filterMap_append]
          have e1 : (some x).toList.filterMap (keepP a) = (keepP a x).toList := by
            show List.filterMap (keepP a) [x] = _
            rw [List.filterMap_cons]
            cases keepP a x <;> rfl
          rw [e1]
        generalize (c.ps.take k).filterMap (keepP a) = L at *
        by_cases hxn : x.id = a.n
        · have hkp : (keepP a x).toList = [] := by
            rw [keepP, if_pos hxn]
            simp [hk]
          rw [hkp] at hsn
          repeat' (first
            | (apply Ops.loc; (· rfl); (· rfl); (· rfl); (· first | (exact .eff (.idxS rfl rfl rfl encPo_len hx)) | exact .eff (.mv rfl) | exact .eff (.asg rfl) | exact .eff (.loadO rfl rfl rfl) | exact .eff (.loadF rfl rfl) | exact .eff (.fldO rfl rfl rfl) | (refine .eff (.add64 rfl rfl ?_ ?_) <;> omega) | exact .eff (.lenF rfl rfl) | exact .eff (.and rfl rfl rfl) | exact .eff (.bin rfl rfl rfl)))
            | with_reducible refine WP.seq ?_
            | with_reducible apply WP.reg tbl_ok rfl
            | with_reducible refine Ops.nil ?_
            | with_reducible refine thenQ.nor ?_
            | with_reducible refine thenQ.ex ?_
            | with_reducible refine blockQ.hit rfl ?_
            | with_reducible refine WP.block ?_
            | with_reducible refine WP.skip ?_
            | with_reducible refine WP.exit ?_
            | (refine WP.condT (c := _) (condD rfl (by first | exact decide_eq_true (by omega) | exact bne_iff_ne.2 (by omega) | exact beq_iff_eq.2 (by omega) | (simp only [Bool.or_eq_true, Bool.and_eq_true, Bool.or_eq_false_iff, Bool.and_eq_false_iff, decide_eq_true_eq, decide_eq_false_iff_not, bne_iff_ne, beq_iff_eq, bne_eq_false_iff_eq, beq_eq_false_iff_ne, Bool.not_eq_true', Bool.not_eq_false', ne_eq]; omega))) ?_)
            | (apply Ops.gst; (· rfl); (· rfl); (· rfl); (· rfl); (· rfl); (· rfl); (· rfl); (· first | exact .b | exact .w); (· intro hc; repeat' (first | exact trivial | exact fun _ => hc | exact fun _ => hc.1 | exact fun _ => ⟨hc.1.1, hc.1.2⟩ | refine And.intro ?_ ?_)); (· intro hc; first | (exact .eff (.idxS rfl rfl rfl encPo_len hx)) | exact .eff (.asg rfl) | exact .eff (.loadO rfl rfl rfl) | exact .eff (.loadF rfl rfl) | exact .eff (.fldO rfl rfl rfl) | (refine .eff (.add64 rfl rfl ?_ ?_) <;> omega) | exact .eff (.lenF rfl rfl) | exact .eff (.and rfl rfl rfl) | exact .eff (.bin rfl rfl rfl)); (· rfl); (· rfl))
            | (apply Ops.new; (· rfl); (· rfl); (· rfl); (· first | exact .eff (.box rfl) | exact .eff (.alloc rfl) | exact .eff (.bsliceS rfl rfl rfl rfl rfl) | exact .eff (.mkS rfl rfl rfl rfl (by omega) (by omega)) | exact .eff (.zeroS rfl rfl (by intro l hl; first | cases hl | exact ⟨_, by injection hl with hl; subst hl; rfl⟩) rfl rfl rfl)); (· first | rfl | (simp only [freshB, noRefH, OB.cells, refsL_fv, refsL_app]; rfl)))
            | (apply Ops.stoW; (· rfl); (· rfl); (· rfl); (· rfl); (· rfl); (· rfl); (· first | rfl | exact onesB_map _); (· rfl); (· exact rfl); (· exact (by repeat' (first | exact .here | apply Repl.there rfl))))
            | fail)
          all_goals (try exact ([] : List Fp))
          refine ⟨k + 1, by omega, by omega, ?_⟩
          try dsimp only
          rw [hsn]
          refine St.to [(900, .id 900)] [] rfl rfl ?_ ?_ <;> (repeat' (first | exact trivial | with_reducible rfl | exact .any | exact .ptr rfl | exact .sl rfl | exact .ptr0 rfl | exact .sl0 rfl | exact AV.To.nil rfl | exact .frz rfl rfl rfl | exact .frb rfl rfl (by omega) rfl | exact .frp rfl rfl rfl | refine AV.To.agg ?_ | refine AV.To.tup ?_ | exact .le (.refl _) rfl | exact .le AV.Le.nil rfl | refine AV.To.frzE rfl ?_ ?_ rfl | refine AV.To.frbE rfl ?_ ?_ (by omega) rfl | refine .le (.of_eq ?_) rfl | exact AV.ToL.nil | refine AV.ToL.cons ?_ ?_ | refine .ofEq ?_ | exact OB.To.nil rfl | refine OB.To.row rfl rfl ?_ ?_ | refine OB.To.cut rfl rfl ?_ ?_ ?_ ?_ | refine OB.To.box rfl rfl ?_ | refine ⟨⟨_, rfl, ?_⟩, ?_⟩ | refine ⟨?_, ?_⟩ | fail))
          all_goals first | (simp; done) | (simp only [List.flatMap_append, List.map_append]; rfl)
        · have hkp : (keepP a x).toList = [x] := by
            rw [keepP, if_neg hxn]
            rfl
          rw [hkp] at hsn
          repeat' (first
            | (apply Ops.loc; (· rfl); (· rfl); (· rfl); (· first | (exact .eff (.idxS rfl rfl rfl encPo_len hx)) | exact .eff (.mv rfl) | exact .eff (.asg rfl) | exact .eff (.loadO rfl rfl rfl) | exact .eff (.loadF rfl rfl) | exact .eff (.fldO rfl rfl rfl) | (refine .eff (.add64 rfl rfl ?_ ?_) <;> omega) | exact .eff (.lenF rfl rfl) | exact .eff (.and rfl rfl rfl) | exact .eff (.bin rfl rfl rfl)))
            | with_reducible refine WP.seq ?_
            | with_reducible apply WP.reg tbl_ok rfl
            | with_reducible refine Ops.nil ?_
            | with_reducible refine thenQ.nor ?_
            | with_reducible refine blockQ.nor ?_
            | with_reducible refine WP.block ?_
            | with_reducible refine WP.skip ?_
            | (refine WP.condT (c := _) (condD rfl (by first | exact decide_eq_true (by omega) | exact bne_iff_ne.2 (by omega) | exact beq_iff_eq.2 (by omega) | (simp only [Bool.or_eq_true, Bool.and_eq_true, Bool.or_eq_false_iff, Bool.and_eq_false_iff, decide_eq_true_eq, decide_eq_false_iff_not, bne_iff_ne, beq_iff_eq, bne_eq_false_iff_eq, beq_eq_false_iff_ne, Bool.not_eq_true', Bool.not_eq_false', ne_eq]; omega))) ?_)
            | (refine WP.condF (c := _) (condD rfl (by first | exact decide_eq_false (by omega) | exact bne_eq_false_iff_eq.2 (by omega) | exact beq_eq_false_iff_ne.2 (by omega) | (simp only [Bool.or_eq_true, Bool.and_eq_true, Bool.or_eq_false_iff, Bool.and_eq_false_iff, decide_eq_true_eq, decide_eq_false_iff_not, bne_iff_ne, beq_iff_eq, bne_eq_false_iff_eq, beq_eq_false_iff_ne, Bool.not_eq_true', Bool.not_eq_false', ne_eq]; omega))) ?_)
            | (apply Ops.gst; (· rfl); (· rfl); (· rfl); (· rfl); (· rfl); (· rfl); (· rfl); (· first | exact .b | exact .w); (· intro hc; repeat' (first | exact trivial | exact fun _ => hc | exact fun _ => hc.1 | exact fun _ => ⟨hc.1.1, hc.1.2⟩ | refine And.intro ?_ ?_)); (· intro hc; first | (exact .eff (.idxS rfl rfl rfl encPo_len hx)) | exact .eff (.asg rfl) | exact .eff (.loadO rfl rfl rfl) | exact .eff (.loadF rfl rfl) | exact .eff (.fldO rfl rfl rfl) | (refine .eff (.add64 rfl rfl ?_ ?_) <;> omega) | exact .eff (.lenF rfl rfl) | exact .eff (.and rfl rfl rfl) | exact .eff (.bin rfl rfl rfl)); (· rfl); (· rfl))
            | (apply Ops.new; (· rfl); (· rfl); (· rfl); (· first | exact .eff (.box rfl) | exact .eff (.alloc rfl) | exact .eff (.bsliceS rfl rfl rfl rfl rfl) | exact .eff (.mkS rfl rfl rfl rfl (by omega) (by omega)) | exact .eff (.zeroS rfl rfl (by intro l hl; first | cases hl | exact ⟨_, by injection hl with hl; subst hl; rfl⟩) rfl rfl rfl)); (· first | rfl | (simp only [freshB, noRefH, OB.cells, refsL_fv, refsL_app]; rfl)))
            | (apply Ops.app; (· rfl); (· rfl); (· rfl); (· rfl); (· rfl); (· rfl); (· rfl); (· exact (by first | exact .nil | exact .own rfl (rmv_q (by first | exact (rfl : _ = []) | exact (rfl : _ = [_]) | exact (rfl : _ = [_, _]) | exact (rfl : _ = [_, _, _]) | exact (rfl : _ = [_, _, _, _]) | exact (rfl : _ = [_, _, _, _, _]) | exact (rfl : _ = [_, _, _, _, _, _]) | exact (rfl : _ = [_, _, _, _, _, _, _]) | exact (rfl : _ = [_, _, _, _, _, _, _, _]) | exact (rfl : _ = [_, _, _, _, _, _, _, _, _]) | exact (rfl : _ = [_, _, _, _, _, _, _, _, _, _]) | exact (rfl : _ = [_, _, _, _, _, _, _, _, _, _, _]) | exact (rfl : _ = [_, _, _, _, _, _, _, _, _, _, _, _]))))); (· exact (by first | exact .nil | exact .own rfl (by first | rfl | exact onesB_map _) | exact .fz (by first | rfl | (simp; done) | exact (flatMap_len (s := 1) (fun _ => rfl) _).trans (by omega)))); (· rfl); (· show (_ : Nat) ≤ 140737488355328; omega); (· first | rfl | (simp only [freshB, noRefH, OB.cells, refsL_fv, refsL_app]; rfl)))
            | (apply Ops.stoW; (· rfl); (· rfl); (· rfl); (· rfl); (· rfl); (· rfl); (· first | rfl | exact onesB_map _); (· rfl); (· exact rfl); (· exact (by repeat' (first | exact .here | apply Repl.there rfl))))
            | (apply Ops.stoB; (· rfl); (· rfl); (· rfl); (· rfl); (· rfl); (· rfl); (· first | rfl | exact onesB_map _); (· rfl); (· exact rfl); (· exact (by repeat' (first | exact .here | apply Repl.there rfl))))
            | fail)
          all_goals (try exact ([] : List Fp))
          refine ⟨k + 1, by omega, by omega, ?_⟩
          try dsimp only
          rw [hsn]
          refine St.to [(900, .id 116)] [] rfl rfl ?_ ?_ <;> (repeat' (first | exact trivial | with_reducible rfl | exact .any | exact .ptr rfl | exact .sl rfl | exact .ptr0 rfl | exact .sl0 rfl | exact AV.To.nil rfl | exact .frz rfl rfl rfl | exact .frb rfl rfl (by omega) rfl | exact .frp rfl rfl rfl | refine AV.To.agg ?_ | refine AV.To.tup ?_ | exact .le (.refl _) rfl | exact .le AV.Le.nil rfl | refine AV.To.frzE rfl ?_ ?_ rfl | refine AV.To.frbE rfl ?_ ?_ (by omega) rfl | refine .le (.of_eq ?_) rfl | exact AV.ToL.nil | refine AV.ToL.cons ?_ ?_ | refine .ofEq ?_ | exact OB.To.nil rfl | refine OB.To.row rfl rfl ?_ ?_ | refine OB.To.cut rfl rfl ?_ ?_ ?_ ?_ | refine OB.To.box rfl rfl ?_ | refine ⟨⟨_, rfl, ?_⟩, ?_⟩ | refine ⟨?_, ?_⟩ | fail))
          all_goals first | (simp; done) | (simp only [List.flatMap_append, List.map_append]; rfl)
  · skip
    repeat' (first
      | with_reducible refine WP.hold 71 ?_
      | (apply Ops.loc; (· rfl); (· rfl); (· rfl); (· first | exact .eff (.mv rfl) | exact .eff (.asg rfl) | exact .eff (.loadO rfl rfl rfl) | exact .eff (.fldO rfl rfl rfl) | exact .eff (.not rfl) | exact .eff (.extract rfl rfl) | exact .eff (.bin rfl rfl rfl) | exact .callL rfl rfl rfl (by first | exact hck | exact c1) rfl))
      | with_reducible refine WP.seq ?_
      | with_reducible apply WP.reg tbl_ok rfl
      | with_reducible refine Ops.nil ?_
      | with_reducible refine thenQ.nor ?_
      | with_reducible refine WP.block ?_
      | with_reducible refine WP.skip ?_
      | refine WP.condF rfl ?_
      | (refine WP.condT (c := _) (condD rfl (by first | exact decide_eq_true (by omega) | exact bne_iff_ne.2 (by omega) | exact beq_iff_eq.2 (by omega) | (simp only [Bool.or_eq_true, Bool.and_eq_true, Bool.or_eq_false_iff, Bool.and_eq_false_iff, decide_eq_true_eq, decide_eq_false_iff_not, bne_iff_ne, beq_iff_eq, bne_eq_false_iff_eq, beq_eq_false_iff_ne, Bool.not_eq_true', Bool.not_eq_false', ne_eq]; omega))) ?_)
      | (refine WP.condF (c := _) (condD rfl (by first | exact decide_eq_false (by omega) | exact bne_eq_false_iff_eq.2 (by omega) | exact beq_eq_false_iff_ne.2 (by omega) | (simp only [Bool.or_eq_true, Bool.and_eq_true, Bool.or_eq_false_iff, Bool.and_eq_false_iff, decide_eq_true_eq, decide_eq_false_iff_not, bne_iff_ne, beq_iff_eq, bne_eq_false_iff_eq, beq_eq_false_iff_ne, Bool.not_eq_true', Bool.not_eq_false', ne_eq]; omega))) ?_)
      | (apply Ops.new; (· rfl); (· rfl); (· rfl); (· first | exact .eff (.box rfl) | exact .eff (.alloc rfl) | exact .eff (.bsliceS rfl rfl rfl rfl rfl) | exact .eff (.mkS rfl rfl rfl rfl (by omega) (by omega)) | exact .eff (.zeroS rfl rfl (by intro l hl; first | cases hl | exact ⟨_, by injection hl with hl; subst hl; rfl⟩) rfl rfl rfl)); (· first | rfl | (simp only [freshB, noRefH, OB.cells, refsL_fv, refsL_app]; rfl)))
      | (apply Ops.stoW; (· rfl); (· rfl); (· rfl); (· rfl); (· rfl); (· rfl); (· first | rfl | exact onesB_map _); (· rfl); (· exact rfl); (· exact (by repeat' (first | exact .here | apply Repl.there rfl))))
      | (apply Ops.callA false; (· rfl); (· rfl); (· rfl); (· rfl); (· rfl); (· rfl); (· exact hcp); (· skip; (repeat' (first | exact trivial | exact AV.ToL.nil | exact .ptr rfl | exact .sl rfl | exact AV.To.nil rfl | exact .le (.refl _) rfl | exact .frz rfl rfl rfl | exact .frp rfl rfl rfl | exact .le AV.Le.nil rfl | refine AV.To.agg ?_ | refine AV.To.fn ?_ | refine AV.ToL.cons ?_ ?_ | exact OB.To.nil rfl | refine OB.To.row rfl rfl rfl ?_ | refine OB.To.box rfl rfl ?_ | exact .ofEq rfl | refine ⟨?_, ?_⟩ | fail))); (· skip; (repeat' (first | exact trivial | exact AV.ToL.nil | exact .ptr rfl | exact .sl rfl | exact AV.To.nil rfl | exact .le (.refl _) rfl | exact .frz rfl rfl rfl | exact .frp rfl rfl rfl | exact .le AV.Le.nil rfl | refine AV.To.agg ?_ | refine AV.To.fn ?_ | refine AV.ToL.cons ?_ ?_ | exact OB.To.nil rfl | refine OB.To.row rfl rfl rfl ?_ | refine OB.To.box rfl rfl ?_ | exact .ofEq rfl | refine ⟨?_, ?_⟩ | fail))); (· rfl); (· rfl); (· skip; (repeat' (first | exact OwnRn.nil | apply OwnRn.cons rfl | apply OB.Rn.row | apply OB.Rn.box | exact AV.RnL.maps _ | exact AV.RnL.nil | exact AV.Rn.nil | exact AV.Rn.le rfl | exact AV.Rn.ptr rfl | exact AV.Rn.sl rfl | apply AV.RnL.cons | apply AV.Rn.agg | apply AV.Rn.tup | apply AV.Rn.fn | apply AV.RnL.app | apply AV.RnL.mapsS | fail))); (· skip; (repeat' (first | exact OwnRn.nil | apply OwnRn.cons rfl | apply OB.Rn.row | apply OB.Rn.box | exact AV.RnL.maps _ | exact AV.RnL.nil | exact AV.Rn.nil | exact AV.Rn.le rfl | exact AV.Rn.ptr rfl | exact AV.Rn.sl rfl | apply AV.RnL.cons | apply AV.Rn.agg | apply AV.Rn.tup | apply AV.Rn.fn | apply AV.RnL.app | apply AV.RnL.mapsS | fail))); (· rfl); (· rfl); (· exact (by first | exact (rfl : _ = []) | exact (rfl : _ = [_]) | exact (rfl : _ = [_, _]) | exact (rfl : _ = [_, _, _]) | exact (rfl : _ = [_, _, _, _]) | exact (rfl : _ = [_, _, _, _, _]) | exact (rfl : _ = [_, _, _, _, _, _]) | exact (rfl : _ = [_, _, _, _, _, _, _]) | exact (rfl : _ = [_, _, _, _, _, _, _, _]) | exact (rfl : _ = [_, _, _, _, _, _, _, _, _]) | exact (rfl : _ = [_, _, _, _, _, _, _, _, _, _]) | exact (rfl : _ = [_, _, _, _, _, _, _, _, _, _, _]) | exact (rfl : _ = [_, _, _, _, _, _, _, _, _, _, _, _]))); (· first | rfl | (simp only [freeNs, noRefH, OB.cells, refsL_fv, refsL_app]; rfl)); (· exact (by first | exact (rfl : _ = []) | exact (rfl : _ = [_]) | exact (rfl : _ = [_, _]) | exact (rfl : _ = [_, _, _]) | exact (rfl : _ = [_, _, _, _]) | exact (rfl : _ = [_, _, _, _, _]) | exact (rfl : _ = [_, _, _, _, _, _]) | exact (rfl : _ = [_, _, _, _, _, _, _]) | exact (rfl : _ = [_, _, _, _, _, _, _, _]) | exact (rfl : _ = [_, _, _, _, _, _, _, _, _]) | exact (rfl : _ = [_, _, _, _, _, _, _, _, _, _]) | exact (rfl : _ = [_, _, _, _, _, _, _, _, _, _, _]) | exact (rfl : _ = [_, _, _, _, _, _, _, _, _, _, _, _]))))
      | fail)
    all_goals (try exact ([] : List Fp))
    all_goals (try apply Held.mk)
    refine WP.join (ι := Unit) (fun _ => ⟨[(2, .optr 2 0), (3, .optr 3 0), (4, .optr 4 0), (6, .optr 6 0), (7, .fv (.int .i64 e))], [(2, .box 50 ((encCf c).map .fv)), (3, .box 60 ((encDe a).map .fv)), (4, .box 50 [.nil, .nil, .nil]), (6, .box 50 [.osl 18, .osl 318, .osl 618]), (18, .row 52 3 c.ss.length ((c.ss.flatMap encSw).map .fv)), (618, .row 56 9 c.acs.length ((c.acs.flatMap encAc).map .fv))]⟩) (fun _ => True) ?_ ?_
    · cases an with
      | false =>
        rw [if_pos rfl] at e0
        subst e0
        repeat' (first
          | (apply Ops.loc; (· rfl); (· rfl); (· rfl); (· first | exact .eff (.asg rfl)))
          | with_reducible apply WP.reg tbl_ok rfl
          | with_reducible refine Ops.nil ?_
          | with_reducible refine thenQ.nor ?_
          | refine WP.condT rfl ?_
          | fail)
        all_goals (try exact ([] : List Fp))
        refine ⟨(), trivial, ?_⟩
        refine St.to [] [] rfl rfl ?_ ?_ <;> (repeat' (first | exact trivial | with_reducible rfl | exact .any | exact .ptr rfl | exact .sl rfl | exact .ptr0 rfl | exact .sl0 rfl | exact AV.To.nil rfl | exact .frz rfl rfl rfl | exact .frb rfl rfl (by omega) rfl | exact .frp rfl rfl rfl | refine AV.To.agg ?_ | refine AV.To.tup ?_ | exact .le (.refl _) rfl | exact .le AV.Le.nil rfl | refine AV.To.frzE rfl ?_ ?_ rfl | refine AV.To.frbE rfl ?_ ?_ (by omega) rfl | refine .le (.of_eq ?_) rfl | exact AV.ToL.nil | refine AV.ToL.cons ?_ ?_ | refine .ofEq ?_ | exact OB.To.nil rfl | refine OB.To.row rfl rfl ?_ ?_ | refine OB.To.cut rfl rfl ?_ ?_ ?_ ?_ | refine OB.To.box rfl rfl ?_ | refine ⟨⟨_, rfl, ?_⟩, ?_⟩ | refine ⟨?_, ?_⟩ | fail))
      | true =>
        rw [if_neg (by simp)] at e0
        cases ir with
        | false =>
          simp [hk] at e0
          subst e0
          repeat' (first
            | (apply Ops.loc; (· rfl); (· rfl); (· rfl); (· first | exact .eff (.mv rfl) | exact .eff (.asg rfl) | exact .eff (.loadO rfl rfl rfl) | exact .eff (.fldO rfl rfl rfl) | exact .eff (.and rfl rfl rfl) | exact .eff (.not rfl) | exact .eff (.bin rfl rfl rfl)))
            | with_reducible refine WP.seq ?_
            | with_reducible apply WP.reg tbl_ok rfl
            | with_reducible refine Ops.nil ?_
            | with_reducible refine thenQ.nor ?_
            | with_reducible refine WP.skip ?_
            | refine WP.condF rfl ?_
            | (refine WP.cond rfl ?_ ?_ <;> intro hcond)
            | (apply Ops.gst; (· rfl); (· rfl); (· rfl); (· rfl); (· rfl); (· rfl); (· rfl); (· first | exact .b | exact .w); (· intro hc; repeat' (first | exact trivial | exact fun _ => hc | exact fun _ => hc.1 | exact fun _ => ⟨hc.1.1, hc.1.2⟩ | refine And.intro ?_ ?_)); (· intro hc; first | exact .eff (.asg rfl) | exact .eff (.loadO rfl rfl rfl) | exact .eff (.fldO rfl rfl rfl) | exact .eff (.and rfl rfl rfl) | exact .eff (.not rfl) | exact .eff (.bin rfl rfl rfl) | exact .callG rfl rfl rfl (by first | exact c2) rfl); (· rfl); (· rfl))
            | fail)
          all_goals (try exact ([] : List Fp))
          all_goals (try (exfalso; simp [hk] at hcond; done))
          refine ⟨(), trivial, ?_⟩
          refine St.to [] [] rfl rfl ?_ ?_ <;> (repeat' (first | exact trivial | with_reducible rfl | exact .any | exact .ptr rfl | exact .sl rfl | exact .ptr0 rfl | exact .sl0 rfl | exact AV.To.nil rfl | exact .frz rfl rfl rfl | exact .frb rfl rfl (by omega) rfl | exact .frp rfl rfl rfl | refine AV.To.agg ?_ | refine AV.To.tup ?_ | exact .le (.refl _) rfl | exact .le AV.Le.nil rfl | refine AV.To.frzE rfl ?_ ?_ rfl | refine AV.To.frbE rfl ?_ ?_ (by omega) rfl | refine .le (.of_eq ?_) rfl | exact AV.ToL.nil | refine AV.ToL.cons ?_ ?_ | refine .ofEq ?_ | exact OB.To.nil rfl | refine OB.To.row rfl rfl ?_ ?_ | refine OB.To.cut rfl rfl ?_ ?_ ?_ ?_ | refine OB.To.box rfl rfl ?_ | refine ⟨⟨_, rfl, ?_⟩, ?_⟩ | refine ⟨?_, ?_⟩ | fail))
        | true =>
          rw [if_neg (by simp)] at e0
          subst e0
          repeat' (first
            | (apply Ops.loc; (· rfl); (· rfl); (· rfl); (· first | exact .eff (.mv rfl) | exact .eff (.asg rfl) | exact .eff (.loadO rfl rfl rfl) | exact .eff (.fldO rfl rfl rfl) | exact .eff (.and rfl rfl rfl) | exact .eff (.not rfl) | exact .eff (.bin rfl rfl rfl)))
            | with_reducible refine WP.seq ?_
            | with_reducible apply WP.reg tbl_ok rfl
            | with_reducible refine Ops.nil ?_
            | with_reducible refine thenQ.nor ?_
            | with_reducible refine WP.skip ?_
            | refine WP.condF rfl ?_
            | (refine WP.cond rfl ?_ ?_ <;> intro hcond)
            | (apply Ops.gst; (· rfl); (· rfl); (· rfl); (· rfl); (· rfl); (· rfl); (· rfl); (· first | exact .b | exact .w); (· intro hc; repeat' (first | exact trivial | exact fun _ => hc | exact fun _ => hc.1 | exact fun _ => ⟨hc.1.1, hc.1.2⟩ | refine And.intro ?_ ?_)); (· intro hc; first | exact .eff (.asg rfl) | exact .eff (.loadO rfl rfl rfl) | exact .eff (.fldO rfl rfl rfl) | exact .eff (.and rfl rfl rfl) | exact .eff (.not rfl) | exact .eff (.bin rfl rfl rfl) | exact .callG rfl rfl rfl (by first | exact c2) rfl); (· rfl); (· rfl))
            | fail)
          all_goals (try exact ([] : List Fp))
          all_goals (try (exfalso; simp [hk] at hcond; done))
          refine ⟨(), trivial, ?_⟩
          refine St.to [] [] rfl rfl ?_ ?_ <;> (repeat' (first | exact trivial | with_reducible rfl | exact .any | exact .ptr rfl | exact .sl rfl | exact .ptr0 rfl | exact .sl0 rfl | exact AV.To.nil rfl | exact .frz rfl rfl rfl | exact .frb rfl rfl (by omega) rfl | exact .frp rfl rfl rfl | refine AV.To.agg ?_ | refine AV.To.tup ?_ | exact .le (.refl _) rfl | exact .le AV.Le.nil rfl | refine AV.To.frzE rfl ?_ ?_ rfl | refine AV.To.frbE rfl ?_ ?_ (by omega) rfl | refine .le (.of_eq ?_) rfl | exact AV.ToL.nil | refine AV.ToL.cons ?_ ?_ | refine .ofEq ?_ | exact OB.To.nil rfl | refine OB.To.row rfl rfl ?_ ?_ | refine OB.To.cut rfl rfl ?_ ?_ ?_ ?_ | refine OB.To.box rfl rfl ?_ | refine ⟨⟨_, rfl, ?_⟩, ?_⟩ | refine ⟨?_, ?_⟩ | fail))
    · rintro _ _
      try dsimp only
      repeat' (first
        | (apply Ops.loc; (· rfl); (· rfl); (· rfl); (· first | exact .eff (.asg rfl) | exact .eff (.fldO rfl rfl rfl)))
        | with_reducible refine WP.seq ?_
        | with_reducible apply WP.reg tbl_ok rfl
        | with_reducible refine Ops.nil ?_
        | with_reducible refine thenQ.nor ?_
        | with_reducible refine WP.block ?_
        | (apply Ops.stoB; (· rfl); (· rfl); (· rfl); (· rfl); (· rfl); (· rfl); (· first | rfl | exact onesB_map _); (· rfl); (· exact rfl); (· exact (by repeat' (first | exact .here | apply Repl.there rfl))))
        | fail)
      all_goals (try exact ([] : List Fp))
      refine WP.loop (ι := Nat) (fun k => ⟨[(2, .optr 2 0), (3, .optr 3 0), (4, .optr 4 0), (6, .optr 6 0), (7, .fv (.int .i64 e)), (10, .fv (.int .i64 k))], [(2, .box 50 ((encCf c).map .fv)), (3, .box 60 ((encDe a).map .fv)), (4, .box 50 [.nil, .nil, .nil]), (6, .box 50 [.osl 18, .osl 900, .osl 618]), (18, .row 52 3 c.ss.length ((c.ss.flatMap encSw).map .fv)), (618, .row 56 9 c.acs.length ((c.acs.flatMap encAc).map .fv)), (900, .row 54 5 ((c.ps.take k).filterMap (keepP a)).length ((((c.ps.take k).filterMap (keepP a)).flatMap encPo).map .fv))]⟩) (fun k => k ≤ c.ps.length) (fun k => c.ps.length - k) 0 (by omega) ?_ ?_
      · skip
        refine St.to [(900, .nil)] [] rfl rfl ?_ ?_ <;> (repeat' (first | exact trivial | with_reducible rfl | exact .any | exact .ptr rfl | exact .sl rfl | exact .ptr0 rfl | exact .sl0 rfl | exact AV.To.nil rfl | exact .frz rfl rfl rfl | exact .frb rfl rfl (by omega) rfl | exact .frp rfl rfl rfl | refine AV.To.agg ?_ | refine AV.To.tup ?_ | exact .le (.refl _) rfl | exact .le AV.Le.nil rfl | refine AV.To.frzE rfl ?_ ?_ rfl | refine AV.To.frbE rfl ?_ ?_ (by omega) rfl | refine .le (.of_eq ?_) rfl | exact AV.ToL.nil | refine AV.ToL.cons ?_ ?_ | refine .ofEq ?_ | exact OB.To.nil rfl | refine OB.To.row rfl rfl ?_ ?_ | refine OB.To.cut rfl rfl ?_ ?_ ?_ ?_ | refine OB.To.box rfl rfl ?_ | refine ⟨⟨_, rfl, ?_⟩, ?_⟩ | refine ⟨?_, ?_⟩ | fail))
      rintro k hkl
      try dsimp only
      have hRk := hids k
      by_cases hlt : k < c.ps.length
      case neg =>
        rw [List.take_of_length_le (by omega)]
        rw [List.take_of_length_le (by omega)] at hRk
        by_cases he : e = 0
        · obtain ⟨f1, f2, f3⟩ := hfin he
          subst he
          generalize c.ps.filterMap (keepP a) = L at *
          repeat' (first
            | (apply Ops.loc; (· rfl); (· rfl); (· rfl); (· first | exact .eff (.mv rfl) | exact .eff (.asg rfl) | exact .eff (.loadO rfl rfl rfl) | exact .eff (.fldO rfl rfl rfl) | exact .eff (.lenF rfl rfl) | exact .eff (.bin rfl rfl rfl)))
            | with_reducible refine WP.seq ?_
            | with_reducible apply WP.reg tbl_ok rfl
            | with_reducible refine Ops.nil ?_
            | with_reducible refine thenQ.nor ?_
            | with_reducible refine thenQ.ex ?_
            | with_reducible refine blockQ.nor ?_
            | with_reducible refine blockQ.hit rfl ?_
            | with_reducible refine WP.skip ?_
            | with_reducible refine WP.exit ?_
            | with_reducible refine WP.ret ?_
            | refine WP.condF rfl ?_
            | (refine WP.condF (c := _) (condD rfl (by first | exact decide_eq_false (by omega) | exact bne_eq_false_iff_eq.2 (by omega) | exact beq_eq_false_iff_ne.2 (by omega) | (simp only [Bool.or_eq_true, Bool.and_eq_true, Bool.or_eq_false_iff, Bool.and_eq_false_iff, decide_eq_true_eq, decide_eq_false_iff_not, bne_iff_ne, beq_iff_eq, bne_eq_false_iff_eq, beq_eq_false_iff_ne, Bool.not_eq_true', Bool.not_eq_false', ne_eq]; omega))) ?_)
            | (apply Ops.stoW; (· rfl); (· rfl); (· rfl); (· rfl); (· rfl); (· rfl); (· first | rfl | exact onesB_map _); (· rfl); (· exact rfl); (· exact (by repeat' (first | exact .here | apply Repl.there rfl))))
            | fail)
          all_goals (try exact ([] : List Fp))
          refine .le (s' := ⟨[(4, .optr 4 0), (5, .fv (.int .i64 0))], [(4, .box 50 ((encCf R).map .fv))]⟩) ?_ (.fun (.inl rfl) rfl rfl)
          refine St.to [] [18, 900, 618] rfl rfl ?_ ?_ <;> (repeat' (first | exact trivial | with_reducible rfl | exact .any | exact .ptr rfl | exact .sl rfl | exact .ptr0 rfl | exact .sl0 rfl | exact AV.To.nil rfl | exact .frz rfl rfl rfl | exact .frb rfl rfl (by omega) rfl | exact .frp rfl rfl rfl | refine AV.To.agg ?_ | refine AV.To.tup ?_ | exact .le (.refl _) rfl | exact .le AV.Le.nil rfl | refine AV.To.frzE rfl ?_ ?_ rfl | refine AV.To.frbE rfl ?_ ?_ (by omega) rfl | refine .le (.of_eq ?_) rfl | exact AV.ToL.nil | refine AV.ToL.cons ?_ ?_ | refine .ofEq ?_ | exact OB.To.nil rfl | refine OB.To.row rfl rfl ?_ ?_ | refine OB.To.cut rfl rfl ?_ ?_ ?_ ?_ | refine OB.To.box rfl rfl ?_ | refine ⟨⟨_, rfl, ?_⟩, ?_⟩ | refine ⟨?_, ?_⟩ | fail))
          all_goals first | (rw [f2]; done) | (rw [f3]; done) | (rw [f1]; done) | (simp [f1, f2, f3]; done)
        · skip
          repeat' (first
            | (apply Ops.loc; (· rfl); (· rfl); (· rfl); (· first | exact .eff (.mv rfl) | exact .eff (.asg rfl) | exact .eff (.loadO rfl rfl rfl) | exact .eff (.fldO rfl rfl rfl) | exact .eff (.lenF rfl rfl) | exact .eff (.bin rfl rfl rfl) | exact .eff (.buildS rfl rfl rfl rfl)))
            | with_reducible refine WP.seq ?_
            | with_reducible apply WP.reg tbl_ok rfl
            | with_reducible refine Ops.nil ?_
            | with_reducible refine thenQ.nor ?_
            | with_reducible refine thenQ.ex ?_
            | with_reducible refine thenQ.ret ?_
            | with_reducible refine blockQ.nor ?_
            | with_reducible refine blockQ.hit rfl ?_
            | with_reducible refine WP.exit ?_
            | with_reducible refine WP.ret ?_
            | (refine WP.condT (c := _) (condD rfl (by first | exact decide_eq_true (by omega) | exact bne_iff_ne.2 (by omega) | exact beq_iff_eq.2 (by omega) | (simp only [Bool.or_eq_true, Bool.and_eq_true, Bool.or_eq_false_iff, Bool.and_eq_false_iff, decide_eq_true_eq, decide_eq_false_iff_not, bne_iff_ne, beq_iff_eq, bne_eq_false_iff_eq, beq_eq_false_iff_ne, Bool.not_eq_true', Bool.not_eq_false', ne_eq]; omega))) ?_)
            | (refine WP.condF (c := _) (condD rfl (by first | exact decide_eq_false (by omega) | exact bne_eq_false_iff_eq.2 (by omega) | exact beq_eq_false_iff_ne.2 (by omega) | (simp only [Bool.or_eq_true, Bool.and_eq_true, Bool.or_eq_false_iff, Bool.and_eq_false_iff, decide_eq_true_eq, decide_eq_false_iff_not, bne_iff_ne, beq_iff_eq, bne_eq_false_iff_eq, beq_eq_false_iff_ne, Bool.not_eq_true', Bool.not_eq_false', ne_eq]; omega))) ?_)
            | (apply Ops.stoW; (· rfl); (· rfl); (· rfl); (· rfl); (· rfl); (· rfl); (· first | rfl | exact onesB_map _); (· rfl); (· exact rfl); (· exact (by repeat' (first | exact .here | apply Repl.there rfl))))
            | fail)
          all_goals (try exact ([] : List Fp))
          refine .le (s' := ⟨[(4, .optr 4 0), (5, .fv (.int .i64 e))], [(4, .box 50 ((encCf cf0).map .fv))]⟩) ?_ (.fun (.inl rfl) rfl ?_)
          · skip
            refine St.to [] [] rfl rfl ?_ ?_ <;> (repeat' (first | exact trivial | with_reducible rfl | exact .any | exact .ptr rfl | exact .sl rfl | exact .ptr0 rfl | exact .sl0 rfl | exact AV.To.nil rfl | exact .frz rfl rfl rfl | exact .frb rfl rfl (by omega) rfl | exact .frp rfl rfl rfl | refine AV.To.agg ?_ | refine AV.To.tup ?_ | exact .le (.refl _) rfl | exact .le AV.Le.nil rfl | refine AV.To.frzE rfl ?_ ?_ rfl | refine AV.To.frbE rfl ?_ ?_ (by omega) rfl | refine .le (.of_eq ?_) rfl | exact AV.ToL.nil | refine AV.ToL.cons ?_ ?_ | refine .ofEq ?_ | exact OB.To.nil rfl | refine OB.To.row rfl rfl ?_ ?_ | refine OB.To.cut rfl rfl ?_ ?_ ?_ ?_ | refine OB.To.box rfl rfl ?_ | refine ⟨⟨_, rfl, ?_⟩, ?_⟩ | refine ⟨?_, ?_⟩ | fail))
          · rw [hbad he]
            rfl
      case pos =>
        obtain ⟨x, hx⟩ : ∃ x, c.ps[k]? = some x := ⟨_, List.getElem?_eq_getElem hlt⟩
        have hsn : (c.ps.take (k + 1)).filterMap (keepP a) = (c.ps.take k).filterMap (keepP a) ++ (keepP a x).toList := by
          rw [List.take_add_one, hx, List.filterMap_append]
          have e1 : (some x).toList.filterMap (keepP a) = (keepP a x).toList := by
            show List.filterMap (keepP a) [x] = _
            rw [List.filterMap_cons]
            cases keepP a x <;> rfl
          rw [e1]
        generalize (c.ps.take k).filterMap (keepP a) = L at *
        by_cases hxn : x.id = a.n
        · have hkp : (keepP a x).toList = [{ x with ch := a.m }] := by
            rw [keepP, if_pos hxn]
            simp [hk]
          rw [hkp] at hsn
          repeat' (first
            | (apply Ops.loc; (· rfl); (· rfl); (· rfl); (· first | (exact .eff (.idxS rfl rfl rfl encPo_len hx)) | exact .eff (.mv rfl) | exact .eff (.asg rfl) | exact .eff (.loadO rfl rfl rfl) | exact .eff (.loadF rfl rfl) | exact .eff (.fldO rfl rfl rfl) | (refine .eff (.add64 rfl rfl ?_ ?_) <;> omega) | exact .eff (.lenF rfl rfl) | exact .eff (.and rfl rfl rfl) | exact .eff (.bin rfl rfl rfl)))
            | with_reducible refine WP.seq ?_
            | with_reducible apply WP.reg tbl_ok rfl
            | with_reducible refine Ops.nil ?_
            | with_reducible refine thenQ.nor ?_
            | with_reducible refine blockQ.nor ?_
            | with_reducible refine WP.block ?_
            | with_reducible refine WP.skip ?_
            | (refine WP.condT (c := _) (condD rfl (by first | exact decide_eq_true (by omega) | exact bne_iff_ne.2 (by omega) | exact beq_iff_eq.2 (by omega) | (simp only [Bool.or_eq_true, Bool.and_eq_true, Bool.or_eq_false_iff, Bool.and_eq_false_iff, decide_eq_true_eq, decide_eq_false_iff_not, bne_iff_ne, beq_iff_eq, bne_eq_false_iff_eq, beq_eq_false_iff_ne, Bool.not_eq_true', Bool.not_eq_false', ne_eq]; omega))) ?_)
            | (refine WP.condF (c := _) (condD rfl (by first | exact decide_eq_false (by omega) | exact bne_eq_false_iff_eq.2 (by omega) | exact beq_eq_false_iff_ne.2 (by omega) | (simp only [Bool.or_eq_true, Bool.and_eq_true, Bool.or_eq_false_iff, Bool.and_eq_false_iff, decide_eq_true_eq, decide_eq_false_iff_not, bne_iff_ne, beq_iff_eq, bne_eq_false_iff_eq, beq_eq_false_iff_ne, Bool.not_eq_true', Bool.not_eq_false', ne_eq]; omega))) ?_)
            | (apply Ops.gst; (· rfl); (· rfl); (· rfl); (· rfl); (· rfl); (· rfl); (· rfl); (· first | exact .b | exact .w); (· intro hc; repeat' (first | exact trivial | exact fun _ => hc | exact fun _ => hc.1 | exact fun _ => ⟨hc.1.1, hc.1.2⟩ | refine And.intro ?_ ?_)); (· intro hc; first | (exact .eff (.idxS rfl rfl rfl encPo_len hx)) | exact .eff (.asg rfl) | exact .eff (.loadO rfl rfl rfl) | exact .eff (.loadF rfl rfl) | exact .eff (.fldO rfl rfl rfl) | (refine .eff (.add64 rfl rfl ?_ ?_) <;> omega) | exact .eff (.lenF rfl rfl) | exact .eff (.and rfl rfl rfl) | exact .eff (.bin rfl rfl rfl)); (· rfl); (· rfl))
            | (apply Ops.new; (· rfl); (· rfl); (· rfl); (· first | exact .eff (.box rfl) | exact .eff (.alloc rfl) | exact .eff (.bsliceS rfl rfl rfl rfl rfl) | exact .eff (.mkS rfl rfl rfl rfl (by omega) (by omega)) | exact .eff (.zeroS rfl rfl (by intro l hl; first | cases hl | exact ⟨_, by injection hl with hl; subst hl; rfl⟩) rfl rfl rfl)); (· first | rfl | (simp only [freshB, noRefH, OB.cells, refsL_fv, refsL_app]; rfl)))
            | (apply Ops.app; (· rfl); (· rfl); (· rfl); (· rfl); (· rfl); (· rfl); (· rfl); (· exact (by first | exact .nil | exact .own rfl (rmv_q (by first | exact (rfl : _ = []) | exact (rfl : _ = [_]) | exact (rfl : _ = [_, _]) | exact (rfl : _ = [_, _, _]) | exact (rfl : _ = [_, _, _, _]) | exact (rfl : _ = [_, _, _, _, _]) | exact (rfl : _ = [_, _, _, _, _, _]) | exact (rfl : _ = [_, _, _, _, _, _, _]) | exact (rfl : _ = [_, _, _, _, _, _, _, _]) | exact (rfl : _ = [_, _, _, _, _, _, _, _, _]) | exact (rfl : _ = [_, _, _, _, _, _, _, _, _, _]) | exact (rfl : _ = [_, _, _, _, _, _, _, _, _, _, _]) | exact (rfl : _ = [_, _, _, _, _, _, _, _, _, _, _, _]))))); (· exact (by first | exact .nil | exact .own rfl (by first | rfl | exact onesB_map _) | exact .fz (by first | rfl | (simp; done) | exact (flatMap_len (s := 1) (fun _ => rfl) _).trans (by omega)))); (· rfl); (· show (_ : Nat) ≤ 140737488355328; omega); (· first | rfl | (simp only [freshB, noRefH, OB.cells, refsL_fv, refsL_app]; rfl)))
            | (apply Ops.stoW; (· rfl); (· rfl); (· rfl); (· rfl); (· rfl); (· rfl); (· first | rfl | exact onesB_map _); (· rfl); (· exact rfl); (· exact (by repeat' (first | exact .here | apply Repl.there rfl))))
            | (apply Ops.stoB; (· rfl); (· rfl); (· rfl); (· rfl); (· rfl); (· rfl); (· first | rfl | exact onesB_map _); (· rfl); (· exact rfl); (· exact (by repeat' (first | exact .here | apply Repl.there rfl))))
            | fail)
          all_goals (try exact ([] : List Fp))
          refine ⟨k + 1, by omega, by omega, ?_⟩
          try dsimp only
          rw [hsn]
          refine St.to [(900, .id 116)] [] rfl rfl ?_ ?_ <;> (repeat' (first | exact trivial | with_reducible rfl | exact .any | exact .ptr rfl | exact .sl rfl | exact .ptr0 rfl | exact .sl0 rfl | exact AV.To.nil rfl | exact .frz rfl rfl rfl | exact .frb rfl rfl (by omega) rfl | exact .frp rfl rfl rfl | refine AV.To.agg ?_ | refine AV.To.tup ?_ | exact .le (.refl _) rfl | exact .le AV.Le.nil rfl | refine AV.To.frzE rfl ?_ ?_ rfl | refine AV.To.frbE rfl ?_ ?_ (by omega) rfl | refine .le (.of_eq ?_) rfl | exact AV.ToL.nil | refine AV.ToL.cons ?_ ?_ | refine .ofEq ?_ | exact OB.To.nil rfl | refine OB.To.row rfl rfl ?_ ?_ | refine OB.To.cut rfl rfl ?_ ?_ ?_ ?_ | refine OB.To.box rfl rfl ?_ | refine ⟨⟨_, rfl, ?_⟩, ?_⟩ | refine ⟨?_, ?_⟩ | fail))
          all_goals first | (simp; done) | (simp only [List.flatMap_append, List.map_append]; rfl)
        · have hkp : (keepP a x).toList = [x] := by
            rw [keepP, if_neg hxn]
            rfl
          rw [hkp] at hsn
          repeat' (first
            | (apply Ops.loc; (· rfl); (· rfl); (· rfl); (· first | (exact .eff (.idxS rfl rfl rfl encPo_len hx)) | exact .eff (.mv rfl) | exact .eff (.asg rfl) | exact .eff (.loadO rfl rfl rfl) | exact .eff (.loadF rfl rfl) | exact .eff (.fldO rfl rfl rfl) | (refine .eff (.add64 rfl rfl ?_ ?_) <;> omega) | exact .eff (.lenF rfl rfl) | exact .eff (.and rfl rfl rfl) | exact .eff (.bin rfl rfl rfl)))
            | with_reducible refine WP.seq ?_
            | with_reducible apply WP.reg tbl_ok rfl
            | with_reducible refine Ops.nil ?_
            | with_reducible refine thenQ.nor ?_
            | with_reducible refine blockQ.nor ?_
            | with_reducible refine WP.block ?_
            | with_reducible refine WP.skip ?_
            | (refine WP.condT (c := _) (condD rfl (by first | exact decide_eq_true (by omega) | exact bne_iff_ne.2 (by omega) | exact beq_iff_eq.2 (by omega) | (simp only [Bool.or_eq_true, Bool.and_eq_true, Bool.or_eq_false_iff, Bool.and_eq_false_iff, decide_eq_true_eq, decide_eq_false_iff_not, bne_iff_ne, beq_iff_eq, bne_eq_false_iff_eq, beq_eq_false_iff_ne, Bool.not_eq_true', Bool.not_eq_false', ne_eq]; omega))) ?_)
            | (refine WP.condF (c := _) (condD rfl (by first | exact decide_eq_false (by omega) | exact bne_eq_false_iff_eq.2 (by omega) | exact beq_eq_false_iff_ne.2 (by omega) | (simp only [Bool.or_eq_true, Bool.and_eq_true, Bool.or_eq_false_iff, Bool.and_eq_false_iff, decide_eq_true_eq, decide_eq_false_iff_not, bne_iff_ne, beq_iff_eq, bne_eq_false_iff_eq, beq_eq_false_iff_ne, Bool.not_eq_true', Bool.not_eq_false', ne_eq]; omega))) ?_)
            | (apply Ops.gst; (· rfl); (· rfl); (· rfl); (· rfl); (· rfl); (· rfl); (· rfl); (· first | exact .b | exact .w); (· intro hc; repeat' (first | exact trivial | exact fun _ => hc | exact fun _ => hc.1 | exact fun _ => ⟨hc.1.1, hc.1.2⟩ | refine And.intro ?_ ?_)); (· intro hc; first | (exact .eff (.idxS rfl rfl rfl encPo_len hx)) | exact .eff (.asg rfl) | exact .eff (.loadO rfl rfl rfl) | exact .eff (.loadF rfl rfl) | exact .eff (.fldO rfl rfl rfl) | (refine .eff (.add64 rfl rfl ?_ ?_) <;> omega) | exact .eff (.lenF rfl rfl) | exact .eff (.and rfl rfl rfl) | exact .eff (.bin rfl rfl rfl)); (· rfl); (· rfl))
            | (apply Ops.new; (· rfl); (· rfl); (· rfl); (· first | exact .eff (.box rfl) | exact .eff (.alloc rfl) | exact .eff (.bsliceS rfl rfl rfl rfl rfl) | exact .eff (.mkS rfl rfl rfl rfl (by omega) (by omega)) | exact .eff (.zeroS rfl rfl (by intro l hl; first | cases hl | exact ⟨_, by injection hl with hl; subst hl; rfl⟩) rfl rfl rfl)); (· first | rfl | (simp only [freshB, noRefH, OB.cells, refsL_fv, refsL_app]; rfl)))
            | (apply Ops.app; (· rfl); (· rfl); (· rfl); (· rfl); (· rfl); (· rfl); (· rfl); (· exact (by first | exact .nil | exact .own rfl (rmv_q (by first | exact (rfl : _ = []) | exact (rfl : _ = [_]) | exact (rfl : _ = [_, _]) | exact (rfl : _ = [_, _, _]) | exact (rfl : _ = [_, _, _, _]) | exact (rfl : _ = [_, _, _, _, _]) | exact (rfl : _ = [_, _, _, _, _, _]) | exact (rfl : _ = [_, _, _, _, _, _, _]) | exact (rfl : _ = [_, _, _, _, _, _, _, _]) | exact (rfl : _ = [_, _, _, _, _, _, _, _, _]) | exact (rfl : _ = [_, _, _, _, _, _, _, _, _, _]) | exact (rfl : _ = [_, _, _, _, _, _, _, _, _, _, _]) | exact (rfl : _ = [_, _, _, _, _, _, _, _, _, _, _, _]))))); (· exact (by first | exact .nil | exact .own rfl (by first | rfl | exact onesB_map _) | exact .fz (by first | rfl | (simp; done) | exact (flatMap_len (s := 1) (fun _ => rfl) _).trans (by omega)))); (· rfl); (· show (_ : Nat) ≤ 140737488355328; omega); (· first | rfl | (simp only [freshB, noRefH, OB.cells, refsL_fv, refsL_app]; rfl)))
            | (apply Ops.stoW; (· rfl); (· rfl); (· rfl); (· rfl); (· rfl); (· rfl); (· first | rfl | exact onesB_map _); (· rfl); (· exact rfl); (· exact (by repeat' (first | exact .here | apply Repl.there rfl))))
            | (apply Ops.stoB; (· rfl); (· rfl); (· rfl); (· rfl); (· rfl); (· rfl); (· first | rfl | exact onesB_map _); (· rfl); (· exact rfl); (· exact (by repeat' (first | exact .here | apply Repl.there rfl))))
            | fail)
          all_goals (try exact ([] : List Fp))
          refine ⟨k + 1, by omega, by omega, ?_⟩
          try dsimp only
          rw [hsn]
          refine St.to [(900, .id 116)] [] rfl rfl ?_ ?_ <;> (repeat' (first | exact trivial | with_reducible rfl | exact .any | exact .ptr rfl | exact .sl rfl | exact .ptr0 rfl | exact .sl0 rfl | exact AV.To.nil rfl | exact .frz rfl rfl rfl | exact .frb rfl rfl (by omega) rfl | exact .frp rfl rfl rfl | refine AV.To.agg ?_ | refine AV.To.tup ?_ | exact .le (.refl _) rfl | exact .le AV.Le.nil rfl | refine AV.To.frzE rfl ?_ ?_ rfl | refine AV.To.frbE rfl ?_ ?_ (by omega) rfl | refine .le (.of_eq ?_) rfl | exact AV.ToL.nil | refine AV.ToL.cons ?_ ?_ | refine .ofEq ?_ | exact OB.To.nil rfl | refine OB.To.row rfl rfl ?_ ?_ | refine OB.To.cut rfl rfl ?_ ?_ ?_ ?_ | refine OB.To.box rfl rfl ?_ | refine ⟨⟨_, rfl, ?_⟩, ?_⟩ | refine ⟨?_, ?_⟩ | fail))
          all_goals first | (simp; done) | (simp only [List.flatMap_append, List.map_append]; rfl)
end Go.Proofs.Ytdbbmjdeeenlhaa
