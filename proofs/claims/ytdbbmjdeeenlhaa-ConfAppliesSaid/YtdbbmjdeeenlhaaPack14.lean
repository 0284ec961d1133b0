/- The document's answer to an act: a rule that goes; all kinds together. -/
import Derived.Test.YtdbbmjdeeenlhaaPack12
import Derived.Test.YtdbbmjdeeenlhaaPack13
import Derived.Test.YtdbbmjdeeenlhaaPack05
import Derived.Test.YtdbbmjdeeenlhaaPack08
import Derived.Test.YtdbbmjdeeenlhaaPack06
import Derived.Test.YtdbbmjdeeenlhaaPack07
import Derived.Test.YtdbbmjdeeenlhaaRows
import Derived.JoinedOf
import Derived.KernelRfl
import Derived.WalkKit
import Derived.ProofKit
import Derived.OpenShut
import Derived.JoinedCond
namespace Go.Proofs.Ytdbbmjdeeenlhaa
open Go.RowKit
set_option maxRecDepth 100000

set_option maxHeartbeats 4000000 in
theorem applied5_T (c : Cf) (a : De) (hl : c.Fit) (hm : cfMay c = true) (k : a.kind = 5) : Fun Try.prog 23 [.agg ((encCf c).map .fv), .agg ((encDe a).map .fv)] (.tup [.agg ((encCf (applyR c a)).map .fv), .fv (.int .i64 (applyE c a))]) := by
  have hck := confMay_T c hl.small
  refine Fun.body tbl_ok Try.func23 rfl (by kernel_rfl) rfl rfl rfl ?_
  rw [hm] at hck
  have hlen := cfMay_len hm
  have hcp := copyR_T c hl
  have b1 := hlen.ss
  have b2 := hlen.ps
  have b3 := hlen.acs
  have e0 : applyE c a = (if a.n < 0 ∨ (c.acs.length : Int) ≤ a.n then 6 else 0) := by
    rw [applyE, if_neg (by rw [hm]; decide), if_neg (by omega), if_neg (by omega), if_neg (by omega), if_neg (by omega), if_pos k]
  have hfin : applyE c a = 0 → c.acs.eraseIdx a.n.toNat = (applyR c a).acs ∧ (applyR c a).ss = c.ss ∧ (applyR c a).ps = c.ps := fun h0 => by
    rw [applyR_ok h0, applyC, if_neg (by omega), if_neg (by omega), if_neg (by omega), if_neg (by omega), if_neg (by omega)]
    exact ⟨rfl, rfl, rfl⟩
  have hbad : applyE c a ≠ 0 → applyR c a = cf0 := applyR_bad
  have hlen1 : applyE c a = 0 → (c.acs.eraseIdx a.n.toNat).length + 1 = c.acs.length := fun h0 => by
    rw [e0] at h0
    split at h0
    · omega
    rw [List.length_eraseIdx, if_pos (by omega)]
    omega
  have hlen2 : applyE c a ≠ 0 → (if a.n < 0 then c.acs else c.acs.eraseIdx a.n.toNat).length = c.acs.length ∧ applyE c a = 6 := fun h0 => by
    rw [e0] at h0 ⊢
    split at h0
    case isFalse => omega
    rename_i h1
    rw [if_pos h1]
    refine ⟨?_, rfl⟩
    split
    · rfl
    · rw [List.length_eraseIdx, if_neg (by omega)]
  generalize applyE c a = e at *
  generalize applyR c a = R at *
  let F : Nat → List Ac := fun k => if a.n < 0 then c.acs.take k else (c.acs.take k).eraseIdx a.n.toNat
  have hFl : ∀ k, (F k).length ≤ k := fun k => by
    show (if a.n < 0 then c.acs.take k else (c.acs.take k).eraseIdx a.n.toNat).length ≤ k
    have : (c.acs.take k).length ≤ k := by rw [List.length_take]; omega
    split
    · exact this
    · exact Nat.le_trans (List.length_eraseIdx_le _ _) this
  have hF0 : F 0 = [] := by
    show (if a.n < 0 then c.acs.take 0 else (c.acs.take 0).eraseIdx a.n.toNat) = []
    split <;> rfl
  have hFs : ∀ {k x}, c.acs[k]? = some x → F (k + 1) = if a.n = (k : Int) then F k else F k ++ [x] := fun {k x} hx => by
    show (if a.n < 0 then c.acs.take (k + 1) else (c.acs.take (k + 1)).eraseIdx a.n.toNat) = if a.n = (k : Int) then (if a.n < 0 then c.acs.take k else (c.acs.take k).eraseIdx a.n.toNat) else (if a.n < 0 then c.acs.take k else (c.acs.take k).eraseIdx a.n.toNat) ++ [x]
    by_cases h1 : a.n < 0
    · rw [if_pos h1, if_pos h1, if_neg (by omega), List.take_add_one, hx]
      rfl
    · rw [if_neg h1, if_neg h1, out_step hx]
      by_cases h2 : a.n = (k : Int)
      · rw [if_pos h2, if_pos (by omega)]
      · rw [if_neg h2, if_neg (by omega)]
  have hFn : F c.acs.length = if a.n < 0 then c.acs else c.acs.eraseIdx a.n.toNat := by
    show (if a.n < 0 then c.acs.take c.acs.length else (c.acs.take c.acs.length).eraseIdx a.n.toNat) = _
    rw [List.take_length]
  rw [← hFn] at hlen2
  generalize F = F at *
  repeat' (first
    | (apply Ops.loc; (· rfl); (· rfl); (· rfl); (· first | exact .eff (.asg rfl) | exact .eff (.loadO rfl rfl rfl) | exact .eff (.fldO rfl rfl rfl) | exact .eff (.not rfl) | exact .eff (.bin rfl rfl rfl) | exact .callL rfl rfl rfl (by first | exact hck) rfl))
    | with_reducible refine WP.seq ?_
    | with_reducible apply WP.reg tbl_ok rfl
    | with_reducible refine Ops.nil ?_
    | with_reducible refine thenQ.nor ?_
    | with_reducible refine WP.block ?_
    | with_reducible refine WP.skip ?_
    | refine WP.condF rfl ?_
    | (refine WP.condT (c := _) (condD rfl (by first | exact decide_eq_true (by omega) | exact bne_iff_ne.2 (by omega) | exact beq_iff_eq.2 (by omega) | (simp only [Bool.or_eq_true, Bool.and_eq_true, Bool.or_eq_false_iff, Bool.and_eq_false_iff, decide_eq_true_eq, decide_eq_false_iff_not, bne_iff_ne, beq_iff_eq, bne_eq_false_iff_eq, beq_eq_false_iff_ne, Bool.not_eq_true', Bool.not_eq_false', ne_eq]; omega))) ?_)
    | (refine WP.condF (c := _) (condD rfl (by first | exact decide_eq_false (by omega) | exact bne_eq_false_iff_eq.2 (by omega) | exact beq_eq_false_iff_ne.2 (by omega) | (simp only [Bool.or_eq_true, Bool.and_eq_true, Bool.or_eq_false_iff, Bool.and_eq_false_iff, decide_eq_true_eq, decide_eq_false_iff_not, bne_iff_ne, beq_iff_eq, bne_eq_false_iff_eq, beq_eq_false_iff_ne, Bool.not_eq_true', Bool.not_eq_false', ne_eq]; omega))) ?_)
    | (apply Ops.new; (· rfl); (· rfl); (· rfl); (· first | exact .eff (.box rfl) | exact .eff (.alloc rfl) | exact .eff (.bsliceS rfl rfl rfl rfl rfl) | exact .eff (.mkS rfl rfl rfl rfl (by omega) (by omega)) | exact .eff (.zeroS rfl rfl (by intro l hl; first | cases hl | exact ⟨_, by injection hl with hl; subst hl; rfl⟩) rfl rfl rfl)); (· first | rfl | (simp only [freshB, noRefH, OB.cells, refsL_fv, refsL_app]; rfl)))
    | (apply Ops.stoW; (· rfl); (· rfl); (· rfl); (· rfl); (· rfl); (· rfl); (· first | rfl | exact onesB_map _); (· rfl); (· exact rfl); (· exact (by repeat' (first | exact .here | apply Repl.there rfl))))
    | (apply Ops.stoB; (· rfl); (· rfl); (· rfl); (· rfl); (· rfl); (· rfl); (· first | rfl | exact onesB_map _); (· rfl); (· exact rfl); (· exact (by repeat' (first | exact .here | apply Repl.there rfl))))
    | (apply Ops.callA false; (· rfl); (· rfl); (· rfl); (· rfl); (· rfl); (· rfl); (· exact hcp); (· skip; (repeat' (first | exact trivial | exact AV.ToL.nil | exact .ptr rfl | exact .sl rfl | exact AV.To.nil rfl | exact .le (.refl _) rfl | exact .frz rfl rfl rfl | exact .frp rfl rfl rfl | exact .le AV.Le.nil rfl | refine AV.To.agg ?_ | refine AV.To.fn ?_ | refine AV.ToL.cons ?_ ?_ | exact OB.To.nil rfl | refine OB.To.row rfl rfl rfl ?_ | refine OB.To.box rfl rfl ?_ | exact .ofEq rfl | refine ⟨?_, ?_⟩ | fail))); (· skip; (repeat' (first | exact trivial | exact AV.ToL.nil | exact .ptr rfl | exact .sl rfl | exact AV.To.nil rfl | exact .le (.refl _) rfl | exact .frz rfl rfl rfl | exact .frp rfl rfl rfl | exact .le AV.Le.nil rfl | refine AV.To.agg ?_ | refine AV.To.fn ?_ | refine AV.ToL.cons ?_ ?_ | exact OB.To.nil rfl | refine OB.To.row rfl rfl rfl ?_ | refine OB.To.box rfl rfl ?_ | exact .ofEq rfl | refine ⟨?_, ?_⟩ | fail))); (· rfl); (· rfl); (· skip; (repeat' (first | exact OwnRn.nil | apply OwnRn.cons rfl | apply OB.Rn.row | apply OB.Rn.box | exact AV.RnL.maps _ | exact AV.RnL.nil | exact AV.Rn.nil | exact AV.Rn.le rfl | exact AV.Rn.ptr rfl | exact AV.Rn.sl rfl | apply AV.RnL.cons | apply AV.Rn.agg | apply AV.Rn.tup | apply AV.Rn.fn | apply AV.RnL.app | apply AV.RnL.mapsS | fail))); (· skip; (repeat' (first | exact OwnRn.nil | apply OwnRn.cons rfl | apply OB.Rn.row | apply OB.Rn.box | exact AV.RnL.maps _ | exact AV.RnL.nil | exact AV.Rn.nil | exact AV.Rn.le rfl | exact AV.Rn.ptr rfl | exact AV.Rn.sl rfl | apply AV.RnL.cons | apply AV.Rn.agg | apply AV.Rn.tup | apply AV.Rn.fn | apply AV.RnL.app | apply AV.RnL.mapsS | fail))); (· rfl); (· rfl); (· exact (by first | exact (rfl : _ = []) | exact (rfl : _ = [_]) | exact (rfl : _ = [_, _]) | exact (rfl : _ = [_, _, _]) | exact (rfl : _ = [_, _, _, _]) | exact (rfl : _ = [_, _, _, _, _]) | exact (rfl : _ = [_, _, _, _, _, _]) | exact (rfl : _ = [_, _, _, _, _, _, _]) | exact (rfl : _ = [_, _, _, _, _, _, _, _]) | exact (rfl : _ = [_, _, _, _, _, _, _, _, _]) | exact (rfl : _ = [_, _, _, _, _, _, _, _, _, _]) | exact (rfl : _ = [_, _, _, _, _, _, _, _, _, _, _]) | exact (rfl : _ = [_, _, _, _, _, _, _, _, _, _, _, _]))); (· first | rfl | (simp only [freeNs, noRefH, OB.cells, refsL_fv, refsL_app]; rfl)); (· exact (by first | exact (rfl : _ = []) | exact (rfl : _ = [_]) | exact (rfl : _ = [_, _]) | exact (rfl : _ = [_, _, _]) | exact (rfl : _ = [_, _, _, _]) | exact (rfl : _ = [_, _, _, _, _]) | exact (rfl : _ = [_, _, _, _, _, _]) | exact (rfl : _ = [_, _, _, _, _, _, _]) | exact (rfl : _ = [_, _, _, _, _, _, _, _]) | exact (rfl : _ = [_, _, _, _, _, _, _, _, _]) | exact (rfl : _ = [_, _, _, _, _, _, _, _, _, _]) | exact (rfl : _ = [_, _, _, _, _, _, _, _, _, _, _]) | exact (rfl : _ = [_, _, _, _, _, _, _, _, _, _, _, _]))))
    | fail)
  all_goals (try exact ([] : List Fp))
  refine WP.loop (ι := Nat) (fun k => ⟨[(2, .optr 2 0), (3, .optr 3 0), (4, .optr 4 0), (6, .optr 6 0), (7, .fv (.int .i64 0)), (12, .fv (.int .i64 k))], [(2, .box 50 ((encCf c).map .fv)), (3, .box 60 ((encDe a).map .fv)), (4, .box 50 [.nil, .nil, .nil]), (6, .box 50 [.osl 18, .osl 318, .osl 900]), (18, .row 52 3 c.ss.length ((c.ss.flatMap encSw).map .fv)), (318, .row 54 5 c.ps.length ((c.ps.flatMap encPo).map .fv)), (900, .row 56 9 (F k).length (((F k).flatMap encAc).map .fv))]⟩) (fun k => k ≤ c.acs.length) (fun k => c.acs.length - k) 0 (by omega) ?_ ?_
  · rw [hF0]
    refine St.to [(900, .nil)] [] rfl rfl ?_ ?_ <;> (repeat' (first | exact trivial | with_reducible rfl | exact .any | exact .ptr rfl | exact .sl rfl | exact .ptr0 rfl | exact .sl0 rfl | exact AV.To.nil rfl | exact .frz rfl rfl rfl | exact .frb rfl rfl (by omega) rfl | exact .frp rfl rfl rfl | refine AV.To.agg ?_ | refine AV.To.tup ?_ | exact .le (.refl _) rfl | exact .le AV.Le.nil rfl | refine AV.To.frzE rfl ?_ ?_ rfl | refine AV.To.frbE rfl ?_ ?_ (by omega) rfl | refine .le (.of_eq ?_) rfl | exact AV.ToL.nil | refine AV.ToL.cons ?_ ?_ | refine .ofEq ?_ | exact OB.To.nil rfl | refine OB.To.row rfl rfl ?_ ?_ | refine OB.To.cut rfl rfl ?_ ?_ ?_ ?_ | refine OB.To.box rfl rfl ?_ | refine ⟨⟨_, rfl, ?_⟩, ?_⟩ | refine ⟨?_, ?_⟩ | fail))
  rintro k hkl
  try dsimp only
  have hRk := hFl k
  by_cases hlt : k < c.acs.length
  case neg =>
    obtain rfl : k = c.acs.length := by omega
    by_cases he : e = 0
    · obtain ⟨f1, f2, f3⟩ := hfin he
      have hl1 := hlen1 he
      have hn : ¬ a.n < 0 := fun h => by rw [e0, if_pos (.inl h)] at he; omega
      rw [if_neg hn] at hFn
      rw [hFn] at hRk ⊢
      generalize c.acs.eraseIdx a.n.toNat = L at *
      subst he
      repeat' (first
        | (apply Ops.loc; (· rfl); (· rfl); (· rfl); (· first | exact .eff (.mv rfl) | exact .eff (.asg rfl) | exact .eff (.loadO rfl rfl rfl) | exact .eff (.fldO rfl rfl rfl) | exact .eff (.lenF rfl rfl) | exact .eff (.lenO rfl rfl rfl) | exact .eff (.bin rfl rfl rfl)))
        | with_reducible refine WP.seq ?_
        | with_reducible apply WP.reg tbl_ok rfl
        | with_reducible refine Ops.nil ?_
        | with_reducible refine thenQ.nor ?_
        | with_reducible refine thenQ.ex ?_
        | with_reducible refine blockQ.nor ?_
        | with_reducible refine blockQ.hit rfl ?_
        | with_reducible refine WP.skip ?_
        | with_reducible refine WP.exit ?_
        | with_reducible refine WP.ret ?_
        | refine WP.condF rfl ?_
        | (refine WP.condF (c := _) (condD rfl (by first | exact decide_eq_false (by omega) | exact bne_eq_false_iff_eq.2 (by omega) | exact beq_eq_false_iff_ne.2 (by omega) | (simp only [Bool.or_eq_true, Bool.and_eq_true, Bool.or_eq_false_iff, Bool.and_eq_false_iff, decide_eq_true_eq, decide_eq_false_iff_not, bne_iff_ne, beq_iff_eq, bne_eq_false_iff_eq, beq_eq_false_iff_ne, Bool.not_eq_true', Bool.not_eq_false', ne_eq]; omega))) ?_)
        | (apply Ops.stoW; (· rfl); (· rfl); (· rfl); (· rfl); (· rfl); (· rfl); (· first | rfl | exact onesB_map _); (· rfl); (· exact rfl); (· exact (by repeat' (first | exact .here | apply Repl.there rfl))))
        | fail)
      all_goals (try exact ([] : List Fp))
      refine .le (s' := ⟨[(4, .optr 4 0), (5, .fv (.int .i64 0))], [(4, .box 50 ((encCf R).map .fv))]⟩) ?_ (.fun (.inl rfl) rfl rfl)
      refine St.to [] [18, 318, 900] rfl rfl ?_ ?_ <;> (repeat' (first | exact trivial | with_reducible rfl | exact .any | exact .ptr rfl | exact .sl rfl | exact .ptr0 rfl | exact .sl0 rfl | exact AV.To.nil rfl | exact .frz rfl rfl rfl | exact .frb rfl rfl (by omega) rfl | exact .frp rfl rfl rfl | refine AV.To.agg ?_ | refine AV.To.tup ?_ | exact .le (.refl _) rfl | exact .le AV.Le.nil rfl | refine AV.To.frzE rfl ?_ ?_ rfl | refine AV.To.frbE rfl ?_ ?_ (by omega) rfl | refine .le (.of_eq ?_) rfl | exact AV.ToL.nil | refine AV.ToL.cons ?_ ?_ | refine .ofEq ?_ | exact OB.To.nil rfl | refine OB.To.row rfl rfl ?_ ?_ | refine OB.To.cut rfl rfl ?_ ?_ ?_ ?_ | refine OB.To.box rfl rfl ?_ | refine ⟨⟨_, rfl, ?_⟩, ?_⟩ | refine ⟨?_, ?_⟩ | fail))
      all_goals first | (rw [f2]; done) | (rw [f3]; done) | (rw [f1]; done) | (simp [f1, f2, f3]; done)
    · obtain ⟨hl2, he6⟩ := hlen2 he
      have hb := hbad he
      subst he6
      generalize F c.acs.length = L at *
      repeat' (first
        | (apply Ops.loc; (· rfl); (· rfl); (· rfl); (· first | exact .eff (.mv rfl) | exact .eff (.asg rfl) | exact .eff (.loadO rfl rfl rfl) | exact .eff (.fldO rfl rfl rfl) | exact .eff (.lenF rfl rfl) | exact .eff (.lenO rfl rfl rfl) | exact .eff (.bin rfl rfl rfl) | exact .eff (.buildS rfl rfl rfl rfl)))
        | with_reducible refine WP.seq ?_
        | with_reducible apply WP.reg tbl_ok rfl
        | with_reducible refine Ops.nil ?_
        | with_reducible refine thenQ.nor ?_
        | with_reducible refine thenQ.ex ?_
        | with_reducible refine thenQ.ret ?_
        | with_reducible refine blockQ.nor ?_
        | with_reducible refine blockQ.hit rfl ?_
        | with_reducible refine WP.exit ?_
        | with_reducible refine WP.ret ?_
        | refine WP.condT rfl ?_
        | (refine WP.condT (c := _) (condD rfl (by first | exact decide_eq_true (by omega) | exact bne_iff_ne.2 (by omega) | exact beq_iff_eq.2 (by omega) | (simp only [Bool.or_eq_true, Bool.and_eq_true, Bool.or_eq_false_iff, Bool.and_eq_false_iff, decide_eq_true_eq, decide_eq_false_iff_not, bne_iff_ne, beq_iff_eq, bne_eq_false_iff_eq, beq_eq_false_iff_ne, Bool.not_eq_true', Bool.not_eq_false', ne_eq]; omega))) ?_)
        | (refine WP.condF (c := _) (condD rfl (by first | exact decide_eq_false (by omega) | exact bne_eq_false_iff_eq.2 (by omega) | exact beq_eq_false_iff_ne.2 (by omega) | (simp only [Bool.or_eq_true, Bool.and_eq_true, Bool.or_eq_false_iff, Bool.and_eq_false_iff, decide_eq_true_eq, decide_eq_false_iff_not, bne_iff_ne, beq_iff_eq, bne_eq_false_iff_eq, beq_eq_false_iff_ne, Bool.not_eq_true', Bool.not_eq_false', ne_eq]; omega))) ?_)
        | (apply Ops.stoW; (· rfl); (· rfl); (· rfl); (· rfl); (· rfl); (· rfl); (· first | rfl | exact onesB_map _); (· rfl); (· exact rfl); (· exact (by repeat' (first | exact .here | apply Repl.there rfl))))
        | fail)
      all_goals (try exact ([] : List Fp))
      refine .le (s' := ⟨[(4, .optr 4 0), (5, .fv (.int .i64 6))], [(4, .box 50 ((encCf cf0).map .fv))]⟩) ?_ (.fun (.inl rfl) rfl ?_)
      · skip
        refine St.to [] [] rfl rfl ?_ ?_ <;> (repeat' (first | exact trivial | with_reducible rfl | exact .any | exact .ptr rfl | exact .sl rfl | exact .ptr0 rfl | exact .sl0 rfl | exact AV.To.nil rfl | exact .frz rfl rfl rfl | exact .frb rfl rfl (by omega) rfl | exact .frp rfl rfl rfl | refine AV.To.agg ?_ | refine AV.To.tup ?_ | exact .le (.refl _) rfl | exact .le AV.Le.nil rfl | refine AV.To.frzE rfl ?_ ?_ rfl | refine AV.To.frbE rfl ?_ ?_ (by omega) rfl | refine .le (.of_eq ?_) rfl | exact AV.ToL.nil | refine AV.ToL.cons ?_ ?_ | refine .ofEq ?_ | exact OB.To.nil rfl | refine OB.To.row rfl rfl ?_ ?_ | refine OB.To.cut rfl rfl ?_ ?_ ?_ ?_ | refine OB.To.box rfl rfl ?_ | refine ⟨⟨_, rfl, ?_⟩, ?_⟩ | refine ⟨?_, ?_⟩ | fail))
      · rw [hb]
        rfl
  case pos =>
    obtain ⟨x, hx⟩ : ∃ x, c.acs[k]? = some x := ⟨_, List.getElem?_eq_getElem hlt⟩
    have hsn := hFs hx
    generalize F k = L at *
    by_cases hxn : a.n = (k : Int)
    · rw [if_pos hxn] at hsn
      repeat' (first
        | (apply Ops.loc; (· rfl); (· rfl); (· rfl); (· first | exact .eff (.mv rfl) | exact .eff (.asg rfl) | exact .eff (.loadO rfl rfl rfl) | exact .eff (.fldO rfl rfl rfl) | (refine .eff (.add64 rfl rfl ?_ ?_) <;> omega) | exact .eff (.lenF rfl rfl) | exact .eff (.bin rfl rfl rfl)))
        | with_reducible refine WP.seq ?_
        | with_reducible apply WP.reg tbl_ok rfl
        | with_reducible refine Ops.nil ?_
        | with_reducible refine thenQ.nor ?_
        | with_reducible refine blockQ.nor ?_
        | with_reducible refine WP.block ?_
        | with_reducible refine WP.skip ?_
        | (refine WP.condT (c := _) (condD rfl (by first | exact decide_eq_true (by omega) | exact bne_iff_ne.2 (by omega) | exact beq_iff_eq.2 (by omega) | (simp only [Bool.or_eq_true, Bool.and_eq_true, Bool.or_eq_false_iff, Bool.and_eq_false_iff, decide_eq_true_eq, decide_eq_false_iff_not, bne_iff_ne, beq_iff_eq, bne_eq_false_iff_eq, beq_eq_false_iff_ne, Bool.not_eq_true', Bool.not_eq_false', ne_eq]; omega))) ?_)
        | (refine WP.condF (c := _) (condD rfl (by first | exact decide_eq_false (by omega) | exact bne_eq_false_iff_eq.2 (by omega) | exact beq_eq_false_iff_ne.2 (by omega) | (simp only [Bool.or_eq_true, Bool.and_eq_true, Bool.or_eq_false_iff, Bool.and_eq_false_iff, decide_eq_true_eq, decide_eq_false_iff_not, bne_iff_ne, beq_iff_eq, bne_eq_false_iff_eq, beq_eq_false_iff_ne, Bool.not_eq_true', Bool.not_eq_false', ne_eq]; omega))) ?_)
        | fail)
      all_goals (try exact ([] : List Fp))
      refine ⟨k + 1, by omega, by omega, ?_⟩
      try dsimp only
      rw [hsn]
      refine St.to [] [] rfl rfl ?_ ?_ <;> (repeat' (first | exact trivial | with_reducible rfl | exact .any | exact .ptr rfl | exact .sl rfl | exact .ptr0 rfl | exact .sl0 rfl | exact AV.To.nil rfl | exact .frz rfl rfl rfl | exact .frb rfl rfl (by omega) rfl | exact .frp rfl rfl rfl | refine AV.To.agg ?_ | refine AV.To.tup ?_ | exact .le (.refl _) rfl | exact .le AV.Le.nil rfl | refine AV.To.frzE rfl ?_ ?_ rfl | refine AV.To.frbE rfl ?_ ?_ (by omega) rfl | refine .le (.of_eq ?_) rfl | exact AV.ToL.nil | refine AV.ToL.cons ?_ ?_ | refine .ofEq ?_ | exact OB.To.nil rfl | refine OB.To.row rfl rfl ?_ ?_ | refine OB.To.cut rfl rfl ?_ ?_ ?_ ?_ | refine OB.To.box rfl rfl ?_ | refine ⟨⟨_, rfl, ?_⟩, ?_⟩ | refine ⟨?_, ?_⟩ | fail))
      all_goals first | (simp; done) | (simp only [List.flatMap_append, List.map_append]; rfl)
    · rw [if_neg hxn] at hsn
      repeat' (first
        | (apply Ops.loc; (· rfl); (· rfl); (· rfl); (· first | (exact .eff (.idxS rfl rfl rfl encAc_len hx)) | exact .eff (.mv rfl) | exact .eff (.asg rfl) | exact .eff (.loadO rfl rfl rfl) | exact .eff (.loadF rfl rfl) | exact .eff (.fldO rfl rfl rfl) | (refine .eff (.add64 rfl rfl ?_ ?_) <;> omega) | exact .eff (.lenF rfl rfl) | exact .eff (.bin rfl rfl rfl)))
        | with_reducible refine WP.seq ?_
        | with_reducible apply WP.reg tbl_ok rfl
        | with_reducible refine Ops.nil ?_
        | with_reducible refine thenQ.nor ?_
        | with_reducible refine blockQ.nor ?_
        | with_reducible refine WP.block ?_
        | with_reducible refine WP.skip ?_
        | (refine WP.condT (c := _) (condD rfl (by first | exact decide_eq_true (by omega) | exact bne_iff_ne.2 (by omega) | exact beq_iff_eq.2 (by omega) | (simp only [Bool.or_eq_true, Bool.and_eq_true, Bool.or_eq_false_iff, Bool.and_eq_false_iff, decide_eq_true_eq, decide_eq_false_iff_not, bne_iff_ne, beq_iff_eq, bne_eq_false_iff_eq, beq_eq_false_iff_ne, Bool.not_eq_true', Bool.not_eq_false', ne_eq]; omega))) ?_)
        | (apply Ops.new; (· rfl); (· rfl); (· rfl); (· first | exact .eff (.box rfl) | exact .eff (.alloc rfl) | exact .eff (.bsliceS rfl rfl rfl rfl rfl) | exact .eff (.mkS rfl rfl rfl rfl (by omega) (by omega)) | exact .eff (.zeroS rfl rfl (by intro l hl; first | cases hl | exact ⟨_, by injection hl with hl; subst hl; rfl⟩) rfl rfl rfl)); (· first | rfl | (simp only [freshB, noRefH, OB.cells, refsL_fv, refsL_app]; rfl)))
        | (apply Ops.app; (· rfl); (· rfl); (· rfl); (· rfl); (· rfl); (· rfl); (· rfl); (· exact (by first | exact .nil | exact .own rfl (rmv_q (by first | exact (rfl : _ = []) | exact (rfl : _ = [_]) | exact (rfl : _ = [_, _]) | exact (rfl : _ = [_, _, _]) | exact (rfl : _ = [_, _, _, _]) | exact (rfl : _ = [_, _, _, _, _]) | exact (rfl : _ = [_, _, _, _, _, _]) | exact (rfl : _ = [_, _, _, _, _, _, _]) | exact (rfl : _ = [_, _, _, _, _, _, _, _]) | exact (rfl : _ = [_, _, _, _, _, _, _, _, _]) | exact (rfl : _ = [_, _, _, _, _, _, _, _, _, _]) | exact (rfl : _ = [_, _, _, _, _, _, _, _, _, _, _]) | exact (rfl : _ = [_, _, _, _, _, _, _, _, _, _, _, _]))))); (· exact (by first | exact .nil | exact .own rfl (by first | rfl | exact onesB_map _) | exact .fz (by first | rfl | (simp; done) | exact (flatMap_len (s := 1) (fun _ => rfl) _).trans (by omega)))); (· rfl); (· show (_ : Nat) ≤ 140737488355328; omega); (· first | rfl | (simp only [freshB, noRefH, OB.cells, refsL_fv, refsL_app]; rfl)))
        | (apply Ops.stoB; (· rfl); (· rfl); (· rfl); (· rfl); (· rfl); (· rfl); (· first | rfl | exact onesB_map _); (· rfl); (· exact rfl); (· exact (by repeat' (first | exact .here | apply Repl.there rfl))))
        | apply WP.drwL tbl_ok mixed_no rfl
        | ((with_reducible apply drwK.mk); (· kernel_rfl); (· first | rfl | (simp only [freeF, List.all_cons, List.all_nil, noRefH, OB.cells, refsL_fv, refsL_app]; rfl)))
        | fail)
      all_goals (try exact ([] : List Fp))
      refine ⟨k + 1, by omega, by omega, ?_⟩
      try dsimp only
      rw [hsn]
      refine St.to [(900, .id 140)] [] rfl rfl ?_ ?_ <;> (repeat' (first | exact trivial | with_reducible rfl | exact .any | exact .ptr rfl | exact .sl rfl | exact .ptr0 rfl | exact .sl0 rfl | exact AV.To.nil rfl | exact .frz rfl rfl rfl | exact .frb rfl rfl (by omega) rfl | exact .frp rfl rfl rfl | refine AV.To.agg ?_ | refine AV.To.tup ?_ | exact .le (.refl _) rfl | exact .le AV.Le.nil rfl | refine AV.To.frzE rfl ?_ ?_ rfl | refine AV.To.frbE rfl ?_ ?_ (by omega) rfl | refine .le (.of_eq ?_) rfl | exact AV.ToL.nil | refine AV.ToL.cons ?_ ?_ | refine .ofEq ?_ | exact OB.To.nil rfl | refine OB.To.row rfl rfl ?_ ?_ | refine OB.To.cut rfl rfl ?_ ?_ ?_ ?_ | refine OB.To.box rfl rfl ?_ | refine ⟨⟨_, rfl, ?_⟩, ?_⟩ | refine ⟨?_, ?_⟩ | fail))
      all_goals first | (simp; done) | (simp only [List.flatMap_append, List.map_append]; rfl)
theorem applied0_T (c : Cf) (a : De) (hl : c.Fit) (hm : cfMay c = true) (k1 : a.kind ≠ 1) (k2 : a.kind ≠ 2) (k3 : a.kind ≠ 3) (k4 : a.kind ≠ 4) (k5 : a.kind ≠ 5) (k6 : a.kind ≠ 6) : Fun Try.prog 23 [.agg ((encCf c).map .fv), .agg ((encDe a).map .fv)] (.tup [.agg ((encCf (applyR c a)).map .fv), .fv (.int .i64 (applyE c a))]) := by
  have hck := confMay_T c hl.small
  refine Fun.body tbl_ok Try.func23 rfl (by kernel_rfl) rfl rfl rfl ?_
  rw [hm] at hck
  have hlen := cfMay_len hm
  have hcp := copyR_T c hl
  have b1 := hlen.ss
  have b2 := hlen.ps
  have b3 := hlen.acs
  have e0 : applyE c a = 3 := by
    rw [applyE, if_neg (by rw [hm]; decide), if_neg k1, if_neg k2, if_neg k3, if_neg (by omega), if_neg k5]
  have hb := applyR_bad (show applyE c a ≠ 0 by omega)
  generalize applyE c a = e at *
  subst e0
  repeat' (first
    | (apply Ops.loc; (· rfl); (· rfl); (· rfl); (· first | exact .eff (.mv rfl) | exact .eff (.asg rfl) | exact .eff (.loadO rfl rfl rfl) | exact .eff (.fldO rfl rfl rfl) | exact .eff (.not rfl) | exact .eff (.bin rfl rfl rfl) | exact .eff (.buildS rfl rfl rfl rfl) | exact .callL rfl rfl rfl (by first | exact hck) rfl))
    | with_reducible refine WP.seq ?_
    | with_reducible apply WP.reg tbl_ok rfl
    | with_reducible refine Ops.nil ?_
    | with_reducible refine thenQ.nor ?_
    | with_reducible refine thenQ.ret ?_
    | with_reducible refine blockQ.nor ?_
    | with_reducible refine WP.block ?_
    | with_reducible refine WP.skip ?_
    | with_reducible refine WP.ret ?_
    | refine WP.condT rfl ?_
    | refine WP.condF rfl ?_
    | (refine WP.condF (c := _) (condD rfl (by first | exact decide_eq_false (by omega) | exact bne_eq_false_iff_eq.2 (by omega) | exact beq_eq_false_iff_ne.2 (by omega) | (simp only [Bool.or_eq_true, Bool.and_eq_true, Bool.or_eq_false_iff, Bool.and_eq_false_iff, decide_eq_true_eq, decide_eq_false_iff_not, bne_iff_ne, beq_iff_eq, bne_eq_false_iff_eq, beq_eq_false_iff_ne, Bool.not_eq_true', Bool.not_eq_false', ne_eq]; omega))) ?_)
    | (apply Ops.new; (· rfl); (· rfl); (· rfl); (· first | exact .eff (.box rfl) | exact .eff (.alloc rfl) | exact .eff (.bsliceS rfl rfl rfl rfl rfl) | exact .eff (.mkS rfl rfl rfl rfl (by omega) (by omega)) | exact .eff (.zeroS rfl rfl (by intro l hl; first | cases hl | exact ⟨_, by injection hl with hl; subst hl; rfl⟩) rfl rfl rfl)); (· first | rfl | (simp only [freshB, noRefH, OB.cells, refsL_fv, refsL_app]; rfl)))
    | (apply Ops.stoW; (· rfl); (· rfl); (· rfl); (· rfl); (· rfl); (· rfl); (· first | rfl | exact onesB_map _); (· rfl); (· exact rfl); (· exact (by repeat' (first | exact .here | apply Repl.there rfl))))
    | (apply Ops.callA false; (· rfl); (· rfl); (· rfl); (· rfl); (· rfl); (· rfl); (· exact hcp); (· skip; (repeat' (first | exact trivial | exact AV.ToL.nil | exact .ptr rfl | exact .sl rfl | exact AV.To.nil rfl | exact .le (.refl _) rfl | exact .frz rfl rfl rfl | exact .frp rfl rfl rfl | exact .le AV.Le.nil rfl | refine AV.To.agg ?_ | refine AV.To.fn ?_ | refine AV.ToL.cons ?_ ?_ | exact OB.To.nil rfl | refine OB.To.row rfl rfl rfl ?_ | refine OB.To.box rfl rfl ?_ | exact .ofEq rfl | refine ⟨?_, ?_⟩ | fail))); (· skip; (repeat' (first | exact trivial | exact AV.ToL.nil | exact .ptr rfl | exact .sl rfl | exact AV.To.nil rfl | exact .le (.refl _) rfl | exact .frz rfl rfl rfl | exact .frp rfl rfl rfl | exact .le AV.Le.nil rfl | refine AV.To.agg ?_ | refine AV.To.fn ?_ | refine AV.ToL.cons ?_ ?_ | exact OB.To.nil rfl | refine OB.To.row rfl rfl rfl ?_ | refine OB.To.box rfl rfl ?_ | exact .ofEq rfl | refine ⟨?_, ?_⟩ | fail))); (· rfl); (· rfl); (· skip; (repeat' (first | exact OwnRn.nil | apply OwnRn.cons rfl | apply OB.Rn.row | apply OB.Rn.box | exact AV.RnL.maps _ | exact AV.RnL.nil | exact AV.Rn.nil | exact AV.Rn.le rfl | exact AV.Rn.ptr rfl | exact AV.Rn.sl rfl | apply AV.RnL.cons | apply AV.Rn.agg | apply AV.Rn.tup | apply AV.Rn.fn | apply AV.RnL.app | apply AV.RnL.mapsS | fail))); (· skip; (repeat' (first | exact OwnRn.nil | apply OwnRn.cons rfl | apply OB.Rn.row | apply OB.Rn.box | exact AV.RnL.maps _ | exact AV.RnL.nil | exact AV.Rn.nil | exact AV.Rn.le rfl | exact AV.Rn.ptr rfl | exact AV.Rn.sl rfl | apply AV.RnL.cons | apply AV.Rn.agg | apply AV.Rn.tup | apply AV.Rn.fn | apply AV.RnL.app | apply AV.RnL.mapsS | fail))); (· rfl); (· rfl); (· exact (by first | exact (rfl : _ = []) | exact (rfl : _ = [_]) | exact (rfl : _ = [_, _]) | exact (rfl : _ = [_, _, _]) | exact (rfl : _ = [_, _, _, _]) | exact (rfl : _ = [_, _, _, _, _]) | exact (rfl : _ = [_, _, _, _, _, _]) | exact (rfl : _ = [_, _, _, _, _, _, _]) | exact (rfl : _ = [_, _, _, _, _, _, _, _]) | exact (rfl : _ = [_, _, _, _, _, _, _, _, _]) | exact (rfl : _ = [_, _, _, _, _, _, _, _, _, _]) | exact (rfl : _ = [_, _, _, _, _, _, _, _, _, _, _]) | exact (rfl : _ = [_, _, _, _, _, _, _, _, _, _, _, _]))); (· first | rfl | (simp only [freeNs, noRefH, OB.cells, refsL_fv, refsL_app]; rfl)); (· exact (by first | exact (rfl : _ = []) | exact (rfl : _ = [_]) | exact (rfl : _ = [_, _]) | exact (rfl : _ = [_, _, _]) | exact (rfl : _ = [_, _, _, _]) | exact (rfl : _ = [_, _, _, _, _]) | exact (rfl : _ = [_, _, _, _, _, _]) | exact (rfl : _ = [_, _, _, _, _, _, _]) | exact (rfl : _ = [_, _, _, _, _, _, _, _]) | exact (rfl : _ = [_, _, _, _, _, _, _, _, _]) | exact (rfl : _ = [_, _, _, _, _, _, _, _, _, _]) | exact (rfl : _ = [_, _, _, _, _, _, _, _, _, _, _]) | exact (rfl : _ = [_, _, _, _, _, _, _, _, _, _, _, _]))))
    | fail)
  all_goals (try exact ([] : List Fp))
  refine .le (s' := ⟨[(4, .optr 4 0), (5, .fv (.int .i64 3))], [(4, .box 50 ((encCf cf0).map .fv))]⟩) ?_ (.fun (.inl rfl) rfl ?_)
  · skip
    refine St.to [] [] rfl rfl ?_ ?_ <;> (repeat' (first | exact trivial | with_reducible rfl | exact .any | exact .ptr rfl | exact .sl rfl | exact .ptr0 rfl | exact .sl0 rfl | exact AV.To.nil rfl | exact .frz rfl rfl rfl | exact .frb rfl rfl (by omega) rfl | exact .frp rfl rfl rfl | refine AV.To.agg ?_ | refine AV.To.tup ?_ | exact .le (.refl _) rfl | exact .le AV.Le.nil rfl | refine AV.To.frzE rfl ?_ ?_ rfl | refine AV.To.frbE rfl ?_ ?_ (by omega) rfl | refine .le (.of_eq ?_) rfl | exact AV.ToL.nil | refine AV.ToL.cons ?_ ?_ | refine .ofEq ?_ | exact OB.To.nil rfl | refine OB.To.row rfl rfl ?_ ?_ | refine OB.To.cut rfl rfl ?_ ?_ ?_ ?_ | refine OB.To.box rfl rfl ?_ | refine ⟨⟨_, rfl, ?_⟩, ?_⟩ | refine ⟨?_, ?_⟩ | fail))
  · rw [hb]
    rfl
theorem appliedOf_T (c : Cf) (a : De) (hl : c.Fit) : Fun Try.prog 23 [.agg ((encCf c).map .fv), .agg ((encDe a).map .fv)] (.tup [.agg ((encCf (applyR c a)).map .fv), .fv (.int .i64 (applyE c a))]) := by
  cases hm : cfMay c with
  | false => exact appliedB_T c a hl hm
  | true =>
    by_cases k1 : a.kind = 1
    · exact applied1_T c a hl hm k1
    by_cases k2 : a.kind = 2
    · exact applied2_T c a hl hm k2
    by_cases k3 : a.kind = 3
    · exact applied3_T c a hl hm k3
    by_cases k4 : a.kind = 4
    · exact applied46_T c a hl hm (.inl k4)
    by_cases k6 : a.kind = 6
    · exact applied46_T c a hl hm (.inr k6)
    by_cases k5 : a.kind = 5
    · exact applied5_T c a hl hm k5
    · exact applied0_T c a hl hm k1 k2 k3 k4 k5 k6
end Go.Proofs.Ytdbbmjdeeenlhaa

/- Arguments of a law, as data by value; a law's answer, in the form's own words. -/
namespace Go.Proofs.Ytdbbmjdeeenlhaa
open Go.ChangeShapes Go.WideShapes Go.ChangeAt Go.RowKit Go.Deep

/-- Cells hold data, in memory that is there. -/
def RepF (w : World) (fs : List FV) (us : List Value) : Prop := ∀ σ, AV.RepL σ (fun b => b < w.heap.size) w (fs.map .fv) us
theorem RepF.append {w : World} {fs gs : List FV} {us vs : List Value} (h : RepF w fs us) (h' : RepF w gs vs) : RepF w (fs ++ gs) (us ++ vs) := fun σ => by
  rw [List.map_append]
  exact (h σ).append (h' σ)
theorem RepF.length {w : World} {fs : List FV} {us : List Value} (h : RepF w fs us) : us.length = fs.length := by simpa using (h (fun _ => undef)).length
theorem decode_repF {α : Type} {enc : α → List FV} {Ok : α → Prop} {w : World} {Q : List Value → Prop} (hd : ∀ cs, Q cs → ∃ x, Ok x ∧ RepF w (enc x) cs) : ∀ css : List (List Value), (∀ cs ∈ css, Q cs) → ∃ l : List α, l.length = css.length ∧ (∀ x ∈ l, Ok x) ∧ RepF w (l.flatMap enc) css.flatten
  | [], _ => ⟨[], rfl, by simp, fun _ => trivial⟩
  | cs :: css, h => by
    obtain ⟨x, hx, hr⟩ := hd cs (h _ (by simp))
    obtain ⟨l, hl, ho, hr'⟩ := decode_repF hd css (fun c hc => h c (by simp [hc]))
    exact ⟨x :: l, by simp [hl], by simpa using ⟨hx, ho⟩, by rw [List.flatMap_cons, List.flatten_cons]; exact hr.append hr'⟩
theorem rep_of_rd {w : World} {A : Option Addr} {n c : Nat} {us : List Value} {fs : List FV} (h : Rd w (fun b => b < w.heap.size) A us) (hr : RepF w fs us) (h1 : n ≤ c) (h2 : c ≤ maxLen) : (FV.sl fs n).Rep (fun b => b < w.heap.size) w (.slice A n c) := by
  refine ⟨A, c, rfl, h1, h2, ?_⟩
  by_cases hn : fs = []
  · exact .inl hn
  · obtain ⟨b, off, e, hb, hc⟩ := h (fun e => hn (List.eq_nil_of_length_eq_zero (by rw [← hr.length, e]; rfl)))
    exact .inr ⟨b, off, e, hb, FV.RepAt.ofL (hr (fun _ => undef)) hc⟩

section
variable {H : Type} {enc : TypeId × Value → H} {w : World} {base : Nat} {spare : Nat → Bool} {held : Bool}
/-- A slice that came in, its elements decoded. -/
theorem open_sl {α : Type} {ef : α → List FV} {Ok : α → Prop} {P : Program} {t e : TypeId} {n k by_ : Nat} {ls : List Leaf} {v : Value} (hu : P.underlying t = some (.slice e)) (hl : leaves P n e = some ls) (hc : P.cellsOf e = k) (hk : ls.length = k) (hp : 0 < k)
    (hby : P.bytesOf e = by_) (hd : ∀ cs, AllOk enc P w base spare held (SizedCl P) ls cs → ∃ x, Ok x ∧ RepF w (ef x) cs) (h : LeafOk enc P w base spare held (SizedCl P) (.slice t) v) :
    ∃ l : List α, (∀ x ∈ l, Ok x) ∧ l.length * by_ ≤ reachBytes ∧ (slOf ef l).Rep (fun b => b < w.heap.size) w v := by
  obtain ⟨m, y, hm, hC⟩ := h
  obtain ⟨css, A, c, rfl, h1, h2, h3, h4, h5⟩ := open_slice_plain closed_sized hu hl (hc.trans hk.symm) (by omega) hm hC
  obtain ⟨l, hlen, hok, hr⟩ := decode_repF hd css h3
  refine ⟨l, hok, ?_, by rw [← hlen]; exact rep_of_rd h4 hr (by omega) h2⟩
  rcases h5 with h5 | ⟨el, sp, hE, hel⟩
  · rw [h5] at hlen
    rw [hlen]
    simp
  · have := hE ((el.length + sp.length) * P.bytesOf e) (by simp [DataW.weights, hu])
    rw [hby] at this
    rw [hlen, ← hel]
    exact Nat.le_trans (Nat.mul_le_mul_right _ (by omega)) this
/-- An argument that is a slice. -/
theorem open_sl_arg {α : Type} {ef : α → List FV} {Ok : α → Prop} {P : Program} {t e : TypeId} {n k by_ : Nat} {ls : List Leaf} {v : Value} {d : DataW H} {p : List MemPlace} (hu : P.underlying t = some (.slice e)) (hl : leaves P n e = some ls) (hc : P.cellsOf e = k) (hk : ls.length = k) (hp : 0 < k)
    (hby : P.bytesOf e = by_) (hd : ∀ cs, AllOk enc P w base spare held (SizedCl P) ls cs → ∃ x, Ok x ∧ RepF w (ef x) cs) {r : Reach} {b0 : Nat} (hv : Value.okWide P w r b0 t v) (h : DataW.Trod enc P w base spare held t v d p) (hs : SizedCl P t d) :
    ∃ l : List α, (∀ x ∈ l, Ok x) ∧ l.length * by_ ≤ reachBytes ∧ (slOf ef l).Rep (fun b => b < w.heap.size) w v := by
  obtain ⟨A, len, cap, rfl⟩ := okWide_slice hu hv
  obtain ⟨m, hm⟩ := h
  exact open_sl hu hl hc hk hp hby hd ⟨m, (d, p), hm, hs⟩

theorem repF_int {k : IntKind} {n : Int} : RepF w [.int k n] [.int k n] := fun _ => ⟨rfl, trivial⟩
theorem repF_bool {b : Bool} : RepF w [.bool b] [.bool b] := fun _ => ⟨rfl, trivial⟩
theorem repF_str {s : ByteArray} (h : s.size ≤ maxLen) : RepF w [.str s] [.string s] := fun _ => ⟨⟨rfl, h⟩, trivial⟩
theorem repF_cons {f : FV} {v : Value} {fs : List FV} {us : List Value} (h : f.Rep (fun b => b < w.heap.size) w v) (h' : RepF w fs us) : RepF w (f :: fs) (v :: us) := fun σ => ⟨h, h' σ⟩
theorem repF_nil : RepF w [] [] := fun _ => trivial
end

/-- A law that answers true and leaves what was there. -/
theorem Fun.yes {P : Program} {f : FuncId} {args : List AV} {vs : List Value} {w : World} (h : Fun P f args (.fv (.bool true))) (hr : AV.RepL (fun _ => undef) (fun b => b < w.heap.size) w args vs) :
    Calls P f vs.toArray w fun e w' => e = .returned (.bool true) ∧ Below w.heap.size w w' := by
  refine (h.2 (fun _ => undef) (fun b => b < w.heap.size) w vs (inv_none fun _ h => h) hr).mono ?_
  rintro e w' ⟨v, r, own', σ', Z', rfl, ⟨rfl, rfl⟩, hI, hv⟩
  have hv : v = .bool true := hv
  subst hv
  refine ⟨rfl, hI.os, hI.tape, hI.output, hI.size, fun b hb => hI.frame b hb ?_⟩
  rintro ⟨g, ob, h1, _⟩
  simp [lk] at h1
end Go.Proofs.Ytdbbmjdeeenlhaa

/- Flows, frames and packets that came in, as data by value. -/
namespace Go.Proofs.Ytdbbmjdeeenlhaa
open Go.ChangeShapes Go.WideShapes Go.ChangeAt Go.RowKit Go.Deep
set_option maxRecDepth 100000

def Mx.Ok (m : Mx) : Prop := I64 m.field ∧ I64 m.mask ∧ I64 m.value
def Dx.Ok (d : Dx) : Prop := I64 d.kind ∧ I64 d.a ∧ I64 d.n
def Fl.Ok (f : Fl) : Prop := I64 f.table ∧ I64 f.prio ∧ (∀ x ∈ f.ms, x.Ok) ∧ (∀ x ∈ f.ds, x.Ok) ∧ f.ms.length * 24 ≤ reachBytes ∧ f.ds.length * 24 ≤ reachBytes
def leaves3 : List Leaf := [.int, .int, .int]
def flLeaves : List Leaf := [.int, .int, .slice 31, .slice 34]
theorem mtx_leaves : leaves Try.prog 2 30 = some leaves3 := by kernel_rfl
theorem dsx_leaves : leaves Try.prog 2 33 = some leaves3 := by kernel_rfl
theorem fl_leaves : leaves Try.prog 2 36 = some flLeaves := by kernel_rfl
theorem mtx_cellsOf : Try.prog.cellsOf 30 = 3 := by kernel_rfl
theorem dsx_cellsOf : Try.prog.cellsOf 33 = 3 := by kernel_rfl
theorem fl_cellsOf : Try.prog.cellsOf 36 = 4 := by kernel_rfl
theorem mtx_bytes : Try.prog.bytesOf 30 = 24 := by kernel_rfl
theorem dsx_bytes : Try.prog.bytesOf 33 = 24 := by kernel_rfl
theorem fl_bytes : Try.prog.bytesOf 36 = 64 := by kernel_rfl

section
variable {H : Type} {enc : TypeId × Value → H} {P : Program} {w : World} {base : Nat} {spare : Nat → Bool} {held : Bool} {Cl : TypeId → DataW H → Prop}
theorem mtx_rep {cs : List Value} (h : AllOk enc P w base spare held Cl leaves3 cs) : ∃ m : Mx, m.Ok ∧ RepF w (encMx m) cs := by
  match cs, h.length with
  | [c0, c1, c2], _ =>
    obtain ⟨⟨a0, rfl, b0⟩, ⟨a1, rfl, b1⟩, ⟨a2, rfl, b2⟩, _⟩ := h
    exact ⟨⟨a0, a1, a2⟩, ⟨b0, b1, b2⟩, fun _ => ⟨rfl, rfl, rfl, trivial⟩⟩
theorem dsx_rep {cs : List Value} (h : AllOk enc P w base spare held Cl leaves3 cs) : ∃ m : Dx, m.Ok ∧ RepF w (encDx m) cs := by
  match cs, h.length with
  | [c0, c1, c2], _ =>
    obtain ⟨⟨a0, rfl, b0⟩, ⟨a1, rfl, b1⟩, ⟨a2, rfl, b2⟩, _⟩ := h
    exact ⟨⟨a0, a1, a2⟩, ⟨b0, b1, b2⟩, fun _ => ⟨rfl, rfl, rfl, trivial⟩⟩
theorem fl_rep {cs : List Value} (h : AllOk enc Try.prog w base spare held (SizedCl Try.prog) flLeaves cs) : ∃ f : Fl, f.Ok ∧ RepF w (encFl f) cs := by
  match cs, h.length with
  | [c0, c1, c2, c3], _ =>
    obtain ⟨⟨a0, rfl, b0⟩, ⟨a1, rfl, b1⟩, l2, l3, _⟩ := h
    obtain ⟨ms, o2, n2, r2⟩ := open_sl Try.underlying31 mtx_leaves mtx_cellsOf rfl (by omega) mtx_bytes (fun _ h => mtx_rep h) l2
    obtain ⟨ds, o3, n3, r3⟩ := open_sl Try.underlying34 dsx_leaves dsx_cellsOf rfl (by omega) dsx_bytes (fun _ h => dsx_rep h) l3
    exact ⟨⟨a0, a1, ms, ds⟩, ⟨b0, b1, o2, o3, n2, n3⟩, repF_cons rfl (repF_cons rfl (repF_cons r2 (repF_cons r3 repF_nil)))⟩
theorem open_flows {v : Value} {d : DataW H} {p : List MemPlace} {r : Reach} {b0 : Nat} (hv : Value.okWide Try.prog w r b0 37 v) (h : DataW.Trod enc Try.prog w base spare held 37 v d p) (hs : SizedCl Try.prog 37 d) :
    ∃ l : List Fl, (∀ x ∈ l, x.Ok) ∧ l.length * 64 ≤ reachBytes ∧ (slOf encFl l).Rep (fun b => b < w.heap.size) w v :=
  open_sl_arg Try.underlying37 fl_leaves fl_cellsOf rfl (by omega) fl_bytes (fun _ h => fl_rep h) hv h hs
theorem fr_repF {f : Fr} (h : f.Ok) : RepF w (encFr f) f.cells := fun _ => ⟨rfl, rfl, rfl, rfl, rfl, rfl, rfl, ⟨rfl, h.2.2.2.2.2.2.2⟩, trivial⟩
theorem pk_repF {f : Pk} (h : f.Ok) : RepF w (encPk f) f.cells := fun _ => ⟨rfl, rfl, rfl, rfl, rfl, rfl, rfl, rfl, rfl, rfl, ⟨rfl, h.2.2.2.2.2.2.2.2.2.2⟩, trivial⟩
end
end Go.Proofs.Ytdbbmjdeeenlhaa

/- What is wanted, as it came in, as data by value. -/
namespace Go.Proofs.Ytdbbmjdeeenlhaa
open Go.ChangeShapes Go.WideShapes Go.ChangeAt Go.RowKit Go.Deep
set_option maxRecDepth 100000

section
variable {H : Type} {enc : TypeId × Value → H} {P : Program} {w : World} {base : Nat} {spare : Nat → Bool} {held : Bool} {Cl : TypeId → DataW H → Prop}
theorem sw_rep {cs : List Value} (h : AllOk enc P w base spare held Cl swLeaves cs) : ∃ x : Sw, x.Ok ∧ RepF w (encSw x) cs := by
  obtain ⟨x, rfl, hx⟩ := sw_of_ok h
  exact ⟨x, hx, fun _ => ⟨rfl, rfl, rfl, trivial⟩⟩
theorem po_rep {cs : List Value} (h : AllOk enc P w base spare held Cl poLeaves cs) : ∃ x : Po, x.Ok ∧ RepF w (encPo x) cs := by
  obtain ⟨x, rfl, hx⟩ := po_of_ok h
  exact ⟨x, hx, fun _ => ⟨rfl, rfl, rfl, rfl, rfl, trivial⟩⟩
theorem ac_rep {cs : List Value} (h : AllOk enc P w base spare held Cl acLeaves cs) : ∃ x : Ac, x.Ok ∧ RepF w (encAc x) cs := by
  obtain ⟨x, rfl, hx⟩ := ac_of_ok h
  exact ⟨x, hx, fun _ => ⟨rfl, rfl, rfl, rfl, rfl, rfl, rfl, rfl, rfl, trivial⟩⟩
theorem small_of {c : Cf} (h0 : c.ss.length * 24 ≤ reachBytes) (h1 : c.ps.length * 40 ≤ reachBytes) (h2 : c.acs.length * 72 ≤ reachBytes) : c.Small := by
  have h0 := reach_le h0
  have h1 := reach_le h1
  have h2 := reach_le h2
  exact ⟨by omega, by omega, by omega⟩
theorem open_cf {r : Reach} {b0 : Nat} {v : Value} {d : DataW H} {p : List MemPlace} (hv : Value.okWide Try.prog w r b0 50 v) (h : DataW.Trod enc Try.prog w base spare held 50 v d p) (hs : SizedCl Try.prog 50 d) :
    ∃ c : Cf, c.Ok ∧ c.Small ∧ c.ss.length * 24 ≤ reachBytes ∧ c.ps.length * 40 ≤ reachBytes ∧ c.acs.length * 72 ≤ reachBytes ∧ ∃ cs : List Value, v = .agg cs.toArray ∧ RepF w (encCf c) cs := by
  obtain ⟨cs, rfl, hcs⟩ := open_struct_c closed_sized Try.underlying50 conf_leaves hv h hs
  match cs, hcs with
  | [v0, v1, v2], ⟨l0, l1, l2, _⟩ =>
    obtain ⟨ss, a1, a2, a3⟩ := open_sl Try.underlying46 sw_leaves sw_cellsOf rfl (by omega) sw_bytes (fun _ h => sw_rep h) l0
    obtain ⟨ps, b1, b2, b3⟩ := open_sl Try.underlying47 po_leaves po_cellsOf rfl (by omega) po_bytes (fun _ h => po_rep h) l1
    obtain ⟨acs, c1, c2, c3⟩ := open_sl Try.underlying48 ac_leaves ac_cellsOf rfl (by omega) ac_bytes (fun _ h => ac_rep h) l2
    exact ⟨⟨ss, ps, acs⟩, ⟨a1, b1, c1⟩, small_of a2 b2 c2, a2, b2, c2, _, rfl, repF_cons a3 (repF_cons b3 (repF_cons c3 repF_nil))⟩
theorem rep_agg {σ : Nat → Value} {fs : List FV} {cs : List Value} (h : RepF w fs cs) : (AV.agg (fs.map .fv)).Rep σ (fun b => b < w.heap.size) w (.agg cs.toArray) := ⟨_, rfl, by simpa using h σ⟩
end
end Go.Proofs.Ytdbbmjdeeenlhaa

/- An act, as it came in, as data by value. -/
namespace Go.Proofs.Ytdbbmjdeeenlhaa
open Go.ChangeShapes Go.WideShapes Go.ChangeAt Go.RowKit Go.Deep
set_option maxRecDepth 100000

def actLeaves : List Leaf := [.int] ++ (swLeaves ++ (poLeaves ++ (acLeaves ++ ([.int, .int] ++ frameLeaves))))
theorem act_leaves : leaves Try.prog 3 60 = some actLeaves := by kernel_rfl
section
variable {H : Type} {enc : TypeId × Value → H} {P : Program} {w : World} {base : Nat} {spare : Nat → Bool} {held : Bool} {Cl : TypeId → DataW H → Prop}
theorem AllOk.split {ls ms : List Leaf} : ∀ {vs : List Value}, AllOk enc P w base spare held Cl (ls ++ ms) vs → ∃ us bs, vs = us ++ bs ∧ AllOk enc P w base spare held Cl ls us ∧ AllOk enc P w base spare held Cl ms bs := by
  induction ls with
  | nil => exact fun h => ⟨[], _, rfl, trivial, h⟩
  | cons l ls ih =>
    intro vs h
    cases vs with
    | nil => exact h.elim
    | cons v vs =>
      obtain ⟨us, bs, rfl, h1, h2⟩ := ih h.2
      exact ⟨v :: us, bs, rfl, ⟨h.1, h1⟩, h2⟩
theorem de_of_ok {cs : List Value} (h : AllOk enc P w base spare held Cl actLeaves cs) : ∃ a : De, RepF w (encDe a) cs := by
  obtain ⟨c0, r0, rfl, h0, h⟩ := AllOk.split h
  obtain ⟨c1, r1, rfl, h1, h⟩ := AllOk.split h
  obtain ⟨c2, r2, rfl, h2, h⟩ := AllOk.split h
  obtain ⟨c3, r3, rfl, h3, h⟩ := AllOk.split h
  obtain ⟨c4, c5, rfl, h4, h5⟩ := AllOk.split h
  obtain ⟨sw, _, r1⟩ := sw_rep h1
  obtain ⟨po, _, r2⟩ := po_rep h2
  obtain ⟨ac, _, r3⟩ := ac_rep h3
  obtain ⟨fr, rfl, hf⟩ := fr_of_ok h5
  match c0, h0.length with
  | [k], _ =>
    obtain ⟨⟨k0, rfl, _⟩, _⟩ := h0
    match c4, h4.length with
    | [n, m], _ =>
      obtain ⟨⟨n0, rfl, _⟩, ⟨m0, rfl, _⟩, _⟩ := h4
      refine ⟨⟨k0, sw, po, ac, n0, m0, fr⟩, ?_⟩
      have e : encDe ⟨k0, sw, po, ac, n0, m0, fr⟩ = [.int .i64 k0] ++ (encSw sw ++ (encPo po ++ (encAc ac ++ ([.int .i64 n0, .int .i64 m0] ++ encFr fr)))) := by simp [encDe]
      rw [e]
      exact RepF.append repF_int (r1.append (r2.append (r3.append (RepF.append (repF_cons rfl (repF_cons rfl repF_nil)) (fr_repF hf)))))
theorem open_de {r : Reach} {b0 : Nat} {v : Value} {d : DataW H} {p : List MemPlace} (hv : Value.okWide Try.prog w r b0 60 v) (h : DataW.Trod enc Try.prog w base spare held 60 v d p) :
    ∃ a : De, ∃ cs : List Value, v = .agg cs.toArray ∧ RepF w (encDe a) cs := by
  obtain ⟨cs, rfl, hcs⟩ := open_struct Try.underlying60 act_leaves hv h
  obtain ⟨a, ha⟩ := de_of_ok hcs
  exact ⟨a, cs, rfl, ha⟩
end
end Go.Proofs.Ytdbbmjdeeenlhaa

/- The walk of the law ConfApplies. -/
namespace Go.Proofs.Ytdbbmjdeeenlhaa
open Go.ChangeShapes Go.WideShapes Go.ChangeAt Go.RowKit
set_option maxRecDepth 100000

theorem copyF_T (c : Cf) (hl : c.Fit) : Fun Try.prog 21 [.agg ((encCf c).map .fv)] (.agg ((encCf c).map .fv)) :=
  (copyR_T c hl).froz [7, 8, 9] (.agg (.cons (.frz rfl rfl rfl) (.cons (.frz rfl rfl rfl) (.cons (.frz rfl rfl rfl) .nil))))
theorem applyR_small (c : Cf) (a : De) : (applyR c a).Small := by
  by_cases h : applyE c a = 0
  · cases hm : cfMay c with
    | false => rw [applyE_bad hm] at h; omega
    | true =>
      have hlen := cfMay_len hm
      have b1 := hlen.ss
      have b2 := hlen.ps
      have b3 := hlen.acs
      have b4 := List.length_eraseIdx_le c.ps (idxB (fun p => p.id == a.n) c.ps).toNat
      have b5 := List.length_eraseIdx_le c.acs a.n.toNat
      rw [applyR_ok h]
      unfold applyC
      refine ⟨?_, ?_, ?_⟩ <;> repeat' split
      all_goals (simp only [List.length_append, List.length_singleton, List.length_modify]; omega)
  · rw [applyR_bad h]
    refine ⟨?_, ?_, ?_⟩ <;> simp [cf0]
theorem sameConf_T (c : Cf) (hl : c.Small) : Fun Try.prog 24 [.agg ((encCf c).map .fv), .agg ((encCf c).map .fv)] (.fv (.bool true)) := by
  have hl1 := hl.1
  have hl2 := hl.2.1
  have hl3 := hl.2.2
  refine Fun.body tbl_ok Try.func24 rfl (by kernel_rfl) rfl rfl rfl ?_
  repeat' (first
    | (apply Ops.loc; (· rfl); (· rfl); (· rfl); (· first | exact .eff (.mv rfl) | exact .eff (.asg rfl) | exact .eff (.loadO rfl rfl rfl) | exact .eff (.fldO rfl rfl rfl) | exact .eff (.lenF rfl rfl) | exact .eff (.or rfl rfl rfl) | exact .eff (.bin rfl rfl rfl)))
    | with_reducible refine WP.seq ?_
    | with_reducible apply WP.reg tbl_ok rfl
    | with_reducible refine Ops.nil ?_
    | with_reducible refine thenQ.nor ?_
    | with_reducible refine thenQ.ret ?_
    | with_reducible refine WP.block ?_
    | with_reducible refine WP.skip ?_
    | with_reducible refine WP.ret ?_
    | (refine WP.cond rfl ?_ ?_ <;> intro hcond)
    | (apply Ops.gst; (· rfl); (· rfl); (· rfl); (· rfl); (· rfl); (· rfl); (· rfl); (· first | exact .b | exact .w); (· intro hc; repeat' (first | exact trivial | exact fun _ => hc | exact fun _ => hc.1 | exact fun _ => ⟨hc.1.1, hc.1.2⟩ | refine And.intro ?_ ?_)); (· intro hc; first | exact .eff (.asg rfl) | exact .eff (.loadO rfl rfl rfl) | exact .eff (.fldO rfl rfl rfl) | exact .eff (.lenF rfl rfl) | exact .eff (.or rfl rfl rfl) | exact .eff (.bin rfl rfl rfl)); (· rfl); (· rfl))
    | (apply Ops.new; (· rfl); (· rfl); (· rfl); (· first | exact .eff (.box rfl) | exact .eff (.alloc rfl) | exact .eff (.bsliceS rfl rfl rfl rfl rfl) | exact .eff (.mkS rfl rfl rfl rfl (by omega) (by omega)) | exact .eff (.zeroS rfl rfl (by intro l hl; first | cases hl | exact ⟨_, by injection hl with hl; subst hl; rfl⟩) rfl rfl rfl)); (· first | rfl | (simp only [freshB, noRefH, OB.cells, refsL_fv, refsL_app]; rfl)))
    | fail)
  all_goals (try exact ([] : List Fp))
  · exfalso
    simp at hcond
  clear hcond
  refine WP.loop (ι := Nat) (fun k => ⟨[(2, .optr 2 0), (3, .optr 3 0), (4, .fv (.bool false)), (5, .fv (.int .i64 k))], [(2, .box 50 ((encCf c).map .fv)), (3, .box 50 ((encCf c).map .fv))]⟩) (fun k => k ≤ c.ss.length) (fun k => c.ss.length - k) 0 (by omega) ?_ ?_
  · skip
    refine St.to [] [] rfl rfl ?_ ?_ <;> (repeat' (first | exact trivial | with_reducible rfl | exact .any | exact .ptr rfl | exact .sl rfl | exact .ptr0 rfl | exact .sl0 rfl | exact AV.To.nil rfl | exact .frz rfl rfl rfl | exact .frb rfl rfl (by omega) rfl | exact .frp rfl rfl rfl | refine AV.To.agg ?_ | refine AV.To.tup ?_ | exact .le (.refl _) rfl | exact .le AV.Le.nil rfl | refine AV.To.frzE rfl ?_ ?_ rfl | refine AV.To.frbE rfl ?_ ?_ (by omega) rfl | refine .le (.of_eq ?_) rfl | exact AV.ToL.nil | refine AV.ToL.cons ?_ ?_ | refine .ofEq ?_ | exact OB.To.nil rfl | refine OB.To.row rfl rfl ?_ ?_ | refine OB.To.cut rfl rfl ?_ ?_ ?_ ?_ | refine OB.To.box rfl rfl ?_ | refine ⟨⟨_, rfl, ?_⟩, ?_⟩ | refine ⟨?_, ?_⟩ | fail))
  rintro k hk
  try dsimp only
  by_cases hlt : k < c.ss.length
  case pos =>
    obtain ⟨x, hx⟩ : ∃ x, c.ss[k]? = some x := ⟨_, List.getElem?_eq_getElem hlt⟩
    repeat' (first
      | (apply Ops.loc; (· rfl); (· rfl); (· rfl); (· first | (exact .eff (.idxS rfl rfl rfl encSw_len hx)) | exact .eff (.mv rfl) | exact .eff (.asg rfl) | exact .eff (.loadO rfl rfl rfl) | exact .eff (.loadF rfl rfl) | exact .eff (.fldO rfl rfl rfl) | (refine .eff (.add64 rfl rfl ?_ ?_) <;> omega) | exact .eff (.lenF rfl rfl) | exact .eff (.bin rfl rfl rfl) | exact .eff (.neA rfl rfl rfl rfl rfl)))
      | with_reducible refine WP.seq ?_
      | with_reducible apply WP.reg tbl_ok rfl
      | with_reducible refine Ops.nil ?_
      | with_reducible refine thenQ.nor ?_
      | with_reducible refine thenQ.ret ?_
      | with_reducible refine blockQ.nor ?_
      | with_reducible refine blockQ.ret ?_
      | with_reducible refine WP.block ?_
      | with_reducible refine WP.skip ?_
      | with_reducible refine WP.ret ?_
      | (refine WP.condT (c := _) (condD rfl (by first | exact decide_eq_true (by omega) | exact bne_iff_ne.2 (by omega) | exact beq_iff_eq.2 (by omega) | (simp only [Bool.or_eq_true, Bool.and_eq_true, Bool.or_eq_false_iff, Bool.and_eq_false_iff, decide_eq_true_eq, decide_eq_false_iff_not, bne_iff_ne, beq_iff_eq, bne_eq_false_iff_eq, beq_eq_false_iff_ne, Bool.not_eq_true', Bool.not_eq_false', ne_eq]; omega))) ?_)
      | (refine WP.cond rfl ?_ ?_ <;> intro hcond)
      | apply WP.drwL tbl_ok mixed_no rfl
      | ((with_reducible apply drwK.mk); (· kernel_rfl); (· first | rfl | (simp only [freeF, List.all_cons, List.all_nil, noRefH, OB.cells, refsL_fv, refsL_app]; rfl)))
      | fail)
    all_goals (try exact ([] : List Fp))
    · exfalso
      simp [beqL, beqV] at hcond
    · refine ⟨k + 1, by omega, by omega, ?_⟩
      refine St.to [] [] rfl rfl ?_ ?_ <;> (repeat' (first | exact trivial | with_reducible rfl | exact .any | exact .ptr rfl | exact .sl rfl | exact .ptr0 rfl | exact .sl0 rfl | exact AV.To.nil rfl | exact .frz rfl rfl rfl | exact .frb rfl rfl (by omega) rfl | exact .frp rfl rfl rfl | refine AV.To.agg ?_ | refine AV.To.tup ?_ | exact .le (.refl _) rfl | exact .le AV.Le.nil rfl | refine AV.To.frzE rfl ?_ ?_ rfl | refine AV.To.frbE rfl ?_ ?_ (by omega) rfl | refine .le (.of_eq ?_) rfl | exact AV.ToL.nil | refine AV.ToL.cons ?_ ?_ | refine .ofEq ?_ | exact OB.To.nil rfl | refine OB.To.row rfl rfl ?_ ?_ | refine OB.To.cut rfl rfl ?_ ?_ ?_ ?_ | refine OB.To.box rfl rfl ?_ | refine ⟨⟨_, rfl, ?_⟩, ?_⟩ | refine ⟨?_, ?_⟩ | fail))
  repeat' (first
    | (apply Ops.loc; (· rfl); (· rfl); (· rfl); (· first | exact .eff (.mv rfl) | exact .eff (.asg rfl) | exact .eff (.loadO rfl rfl rfl) | exact .eff (.fldO rfl rfl rfl) | exact .eff (.lenF rfl rfl) | exact .eff (.bin rfl rfl rfl)))
    | with_reducible refine WP.seq ?_
    | with_reducible apply WP.reg tbl_ok rfl
    | with_reducible refine Ops.nil ?_
    | with_reducible refine thenQ.nor ?_
    | with_reducible refine thenQ.ex ?_
    | with_reducible refine blockQ.hit rfl ?_
    | with_reducible refine WP.block ?_
    | with_reducible refine WP.exit ?_
    | (refine WP.condF (c := _) (condD rfl (by first | exact decide_eq_false (by omega) | exact bne_eq_false_iff_eq.2 (by omega) | exact beq_eq_false_iff_ne.2 (by omega) | (simp only [Bool.or_eq_true, Bool.and_eq_true, Bool.or_eq_false_iff, Bool.and_eq_false_iff, decide_eq_true_eq, decide_eq_false_iff_not, bne_iff_ne, beq_iff_eq, bne_eq_false_iff_eq, beq_eq_false_iff_ne, Bool.not_eq_true', Bool.not_eq_false', ne_eq]; omega))) ?_)
    | fail)
  all_goals (try exact ([] : List Fp))
  refine WP.loop (ι := Nat) (fun k => ⟨[(2, .optr 2 0), (3, .optr 3 0), (4, .fv (.bool false)), (6, .fv (.int .i64 k))], [(2, .box 50 ((encCf c).map .fv)), (3, .box 50 ((encCf c).map .fv))]⟩) (fun k => k ≤ c.ps.length) (fun k => c.ps.length - k) 0 (by omega) ?_ ?_
  · skip
    refine St.to [] [] rfl rfl ?_ ?_ <;> (repeat' (first | exact trivial | with_reducible rfl | exact .any | exact .ptr rfl | exact .sl rfl | exact .ptr0 rfl | exact .sl0 rfl | exact AV.To.nil rfl | exact .frz rfl rfl rfl | exact .frb rfl rfl (by omega) rfl | exact .frp rfl rfl rfl | refine AV.To.agg ?_ | refine AV.To.tup ?_ | exact .le (.refl _) rfl | exact .le AV.Le.nil rfl | refine AV.To.frzE rfl ?_ ?_ rfl | refine AV.To.frbE rfl ?_ ?_ (by omega) rfl | refine .le (.of_eq ?_) rfl | exact AV.ToL.nil | refine AV.ToL.cons ?_ ?_ | refine .ofEq ?_ | exact OB.To.nil rfl | refine OB.To.row rfl rfl ?_ ?_ | refine OB.To.cut rfl rfl ?_ ?_ ?_ ?_ | refine OB.To.box rfl rfl ?_ | refine ⟨⟨_, rfl, ?_⟩, ?_⟩ | refine ⟨?_, ?_⟩ | fail))
  rintro k hk
  try dsimp only
  by_cases hlt : k < c.ps.length
  case pos =>
    obtain ⟨x, hx⟩ : ∃ x, c.ps[k]? = some x := ⟨_, List.getElem?_eq_getElem hlt⟩
    repeat' (first
      | (apply Ops.loc; (· rfl); (· rfl); (· rfl); (· first | (exact .eff (.idxS rfl rfl rfl encPo_len hx)) | exact .eff (.mv rfl) | exact .eff (.asg rfl) | exact .eff (.loadO rfl rfl rfl) | exact .eff (.loadF rfl rfl) | exact .eff (.fldO rfl rfl rfl) | (refine .eff (.add64 rfl rfl ?_ ?_) <;> omega) | exact .eff (.lenF rfl rfl) | exact .eff (.bin rfl rfl rfl) | exact .eff (.neA rfl rfl rfl rfl rfl)))
      | with_reducible refine WP.seq ?_
      | with_reducible apply WP.reg tbl_ok rfl
      | with_reducible refine Ops.nil ?_
      | with_reducible refine thenQ.nor ?_
      | with_reducible refine thenQ.ret ?_
      | with_reducible refine blockQ.nor ?_
      | with_reducible refine blockQ.ret ?_
      | with_reducible refine WP.block ?_
      | with_reducible refine WP.skip ?_
      | with_reducible refine WP.ret ?_
      | (refine WP.condT (c := _) (condD rfl (by first | exact decide_eq_true (by omega) | exact bne_iff_ne.2 (by omega) | exact beq_iff_eq.2 (by omega) | (simp only [Bool.or_eq_true, Bool.and_eq_true, Bool.or_eq_false_iff, Bool.and_eq_false_iff, decide_eq_true_eq, decide_eq_false_iff_not, bne_iff_ne, beq_iff_eq, bne_eq_false_iff_eq, beq_eq_false_iff_ne, Bool.not_eq_true', Bool.not_eq_false', ne_eq]; omega))) ?_)
      | (refine WP.cond rfl ?_ ?_ <;> intro hcond)
      | apply WP.drwL tbl_ok mixed_no rfl
      | ((with_reducible apply drwK.mk); (· kernel_rfl); (· first | rfl | (simp only [freeF, List.all_cons, List.all_nil, noRefH, OB.cells, refsL_fv, refsL_app]; rfl)))
      | fail)
    all_goals (try exact ([] : List Fp))
    · exfalso
      simp [beqL, beqV] at hcond
    · refine ⟨k + 1, by omega, by omega, ?_⟩
      refine St.to [] [] rfl rfl ?_ ?_ <;> (repeat' (first | exact trivial | with_reducible rfl | exact .any | exact .ptr rfl | exact .sl rfl | exact .ptr0 rfl | exact .sl0 rfl | exact AV.To.nil rfl | exact .frz rfl rfl rfl | exact .frb rfl rfl (by omega) rfl | exact .frp rfl rfl rfl | refine AV.To.agg ?_ | refine AV.To.tup ?_ | exact .le (.refl _) rfl | exact .le AV.Le.nil rfl | refine AV.To.frzE rfl ?_ ?_ rfl | refine AV.To.frbE rfl ?_ ?_ (by omega) rfl | refine .le (.of_eq ?_) rfl | exact AV.ToL.nil | refine AV.ToL.cons ?_ ?_ | refine .ofEq ?_ | exact OB.To.nil rfl | refine OB.To.row rfl rfl ?_ ?_ | refine OB.To.cut rfl rfl ?_ ?_ ?_ ?_ | refine OB.To.box rfl rfl ?_ | refine ⟨⟨_, rfl, ?_⟩, ?_⟩ | refine ⟨?_, ?_⟩ | fail))
  repeat' (first
    | (apply Ops.loc; (· rfl); (· rfl); (· rfl); (· first | exact .eff (.mv rfl) | exact .eff (.asg rfl) | exact .eff (.loadO rfl rfl rfl) | exact .eff (.fldO rfl rfl rfl) | exact .eff (.lenF rfl rfl) | exact .eff (.bin rfl rfl rfl)))
    | with_reducible refine WP.seq ?_
    | with_reducible apply WP.reg tbl_ok rfl
    | with_reducible refine Ops.nil ?_
    | with_reducible refine thenQ.nor ?_
    | with_reducible refine thenQ.ex ?_
    | with_reducible refine blockQ.hit rfl ?_
    | with_reducible refine WP.block ?_
    | with_reducible refine WP.exit ?_
    | (refine WP.condF (c := _) (condD rfl (by first | exact decide_eq_false (by omega) | exact bne_eq_false_iff_eq.2 (by omega) | exact beq_eq_false_iff_ne.2 (by omega) | (simp only [Bool.or_eq_true, Bool.and_eq_true, Bool.or_eq_false_iff, Bool.and_eq_false_iff, decide_eq_true_eq, decide_eq_false_iff_not, bne_iff_ne, beq_iff_eq, bne_eq_false_iff_eq, beq_eq_false_iff_ne, Bool.not_eq_true', Bool.not_eq_false', ne_eq]; omega))) ?_)
    | fail)
  all_goals (try exact ([] : List Fp))
  refine WP.loop (ι := Nat) (fun k => ⟨[(2, .optr 2 0), (3, .optr 3 0), (4, .fv (.bool false)), (7, .fv (.int .i64 k))], [(2, .box 50 ((encCf c).map .fv)), (3, .box 50 ((encCf c).map .fv))]⟩) (fun k => k ≤ c.acs.length) (fun k => c.acs.length - k) 0 (by omega) ?_ ?_
  · skip
    refine St.to [] [] rfl rfl ?_ ?_ <;> (repeat' (first | exact trivial | with_reducible rfl | exact .any | exact .ptr rfl | exact .sl rfl | exact .ptr0 rfl | exact .sl0 rfl | exact AV.To.nil rfl | exact .frz rfl rfl rfl | exact .frb rfl rfl (by omega) rfl | exact .frp rfl rfl rfl | refine AV.To.agg ?_ | refine AV.To.tup ?_ | exact .le (.refl _) rfl | exact .le AV.Le.nil rfl | refine AV.To.frzE rfl ?_ ?_ rfl | refine AV.To.frbE rfl ?_ ?_ (by omega) rfl | refine .le (.of_eq ?_) rfl | exact AV.ToL.nil | refine AV.ToL.cons ?_ ?_ | refine .ofEq ?_ | exact OB.To.nil rfl | refine OB.To.row rfl rfl ?_ ?_ | refine OB.To.cut rfl rfl ?_ ?_ ?_ ?_ | refine OB.To.box rfl rfl ?_ | refine ⟨⟨_, rfl, ?_⟩, ?_⟩ | refine ⟨?_, ?_⟩ | fail))
  rintro k hk
  try dsimp only
  by_cases hlt : k < c.acs.length
  case pos =>
    obtain ⟨x, hx⟩ : ∃ x, c.acs[k]? = some x := ⟨_, List.getElem?_eq_getElem hlt⟩
    repeat' (first
      | (apply Ops.loc; (· rfl); (· rfl); (· rfl); (· first | (exact .eff (.idxS rfl rfl rfl encAc_len hx)) | exact .eff (.mv rfl) | exact .eff (.asg rfl) | exact .eff (.loadO rfl rfl rfl) | exact .eff (.loadF rfl rfl) | exact .eff (.fldO rfl rfl rfl) | (refine .eff (.add64 rfl rfl ?_ ?_) <;> omega) | exact .eff (.lenF rfl rfl) | exact .eff (.bin rfl rfl rfl) | exact .eff (.neA rfl rfl rfl rfl rfl)))
      | with_reducible refine WP.seq ?_
      | with_reducible apply WP.reg tbl_ok rfl
      | with_reducible refine Ops.nil ?_
      | with_reducible refine thenQ.nor ?_
      | with_reducible refine thenQ.ret ?_
      | with_reducible refine blockQ.nor ?_
      | with_reducible refine blockQ.ret ?_
      | with_reducible refine WP.block ?_
      | with_reducible refine WP.skip ?_
      | with_reducible refine WP.ret ?_
      | (refine WP.condT (c := _) (condD rfl (by first | exact decide_eq_true (by omega) | exact bne_iff_ne.2 (by omega) | exact beq_iff_eq.2 (by omega) | (simp only [Bool.or_eq_true, Bool.and_eq_true, Bool.or_eq_false_iff, Bool.and_eq_false_iff, decide_eq_true_eq, decide_eq_false_iff_not, bne_iff_ne, beq_iff_eq, bne_eq_false_iff_eq, beq_eq_false_iff_ne, Bool.not_eq_true', Bool.not_eq_false', ne_eq]; omega))) ?_)
      | (refine WP.cond rfl ?_ ?_ <;> intro hcond)
      | apply WP.drwL tbl_ok mixed_no rfl
      | ((with_reducible apply drwK.mk); (· kernel_rfl); (· first | rfl | (simp only [freeF, List.all_cons, List.all_nil, noRefH, OB.cells, refsL_fv, refsL_app]; rfl)))
      | fail)
    all_goals (try exact ([] : List Fp))
    · exfalso
      simp [beqL, beqV] at hcond
    · refine ⟨k + 1, by omega, by omega, ?_⟩
      refine St.to [] [] rfl rfl ?_ ?_ <;> (repeat' (first | exact trivial | with_reducible rfl | exact .any | exact .ptr rfl | exact .sl rfl | exact .ptr0 rfl | exact .sl0 rfl | exact AV.To.nil rfl | exact .frz rfl rfl rfl | exact .frb rfl rfl (by omega) rfl | exact .frp rfl rfl rfl | refine AV.To.agg ?_ | refine AV.To.tup ?_ | exact .le (.refl _) rfl | exact .le AV.Le.nil rfl | refine AV.To.frzE rfl ?_ ?_ rfl | refine AV.To.frbE rfl ?_ ?_ (by omega) rfl | refine .le (.of_eq ?_) rfl | exact AV.ToL.nil | refine AV.ToL.cons ?_ ?_ | refine .ofEq ?_ | exact OB.To.nil rfl | refine OB.To.row rfl rfl ?_ ?_ | refine OB.To.cut rfl rfl ?_ ?_ ?_ ?_ | refine OB.To.box rfl rfl ?_ | refine ⟨⟨_, rfl, ?_⟩, ?_⟩ | refine ⟨?_, ?_⟩ | fail))
  repeat' (first
    | (apply Ops.loc; (· rfl); (· rfl); (· rfl); (· first | exact .eff (.mv rfl) | exact .eff (.asg rfl) | exact .eff (.loadO rfl rfl rfl) | exact .eff (.fldO rfl rfl rfl) | exact .eff (.lenF rfl rfl) | exact .eff (.bin rfl rfl rfl)))
    | with_reducible refine WP.seq ?_
    | with_reducible apply WP.reg tbl_ok rfl
    | with_reducible refine Ops.nil ?_
    | with_reducible refine thenQ.nor ?_
    | with_reducible refine thenQ.ex ?_
    | with_reducible refine blockQ.hit rfl ?_
    | with_reducible refine WP.exit ?_
    | with_reducible refine WP.ret ?_
    | (refine WP.condF (c := _) (condD rfl (by first | exact decide_eq_false (by omega) | exact bne_eq_false_iff_eq.2 (by omega) | exact beq_eq_false_iff_ne.2 (by omega) | (simp only [Bool.or_eq_true, Bool.and_eq_true, Bool.or_eq_false_iff, Bool.and_eq_false_iff, decide_eq_true_eq, decide_eq_false_iff_not, bne_iff_ne, beq_iff_eq, bne_eq_false_iff_eq, beq_eq_false_iff_ne, Bool.not_eq_true', Bool.not_eq_false', ne_eq]; omega))) ?_)
    | fail)
  all_goals (try exact ([] : List Fp))
  exact .f1 (.inl rfl) rfl rfl
theorem confApplies_T (c : Cf) (a : De) (hl : c.Fit) : Fun Try.prog 5 [.agg ((encCf c).map .fv), .agg ((encDe a).map .fv)] (.fv (.bool true)) := by
  have h0 := copyF_T c hl
  have h1 := apply_T c a hl
  have h2 := appliedOf_T c a hl
  have h4 := sameConf_T c hl.small
  have h3 : Fun Try.prog 24 [.agg ((encCf (applyR c a)).map .fv), .agg ((encCf (applyR c a)).map .fv)] (.fv (.bool true)) := sameConf_T (applyR c a) (applyR_small c a)
  generalize applyR c a = R at *
  generalize applyE c a = e at *
  refine Fun.body tbl_ok Try.func5 rfl (by kernel_rfl) rfl rfl rfl ?_
  repeat' (first
    | (apply Ops.loc; (· rfl); (· rfl); (· rfl); (· first | exact .eff (.mv rfl) | exact .eff (.asg rfl) | exact .eff (.loadO rfl rfl rfl) | exact .eff (.and rfl rfl rfl) | exact .eff (.extract rfl rfl) | exact .eff (.bin rfl rfl rfl) | exact .callL rfl rfl rfl (by first | exact h0 | exact h1 | exact h2 | exact h3 | exact h4) rfl))
    | with_reducible refine WP.seq ?_
    | with_reducible apply WP.reg tbl_ok rfl
    | with_reducible refine Ops.nil ?_
    | with_reducible refine thenQ.nor ?_
    | with_reducible refine WP.ret ?_
    | (apply Ops.gst; (· rfl); (· rfl); (· rfl); (· rfl); (· rfl); (· rfl); (· rfl); (· first | exact .b | exact .w); (· intro hc; repeat' (first | exact trivial | exact fun _ => hc | exact fun _ => hc.1 | exact fun _ => ⟨hc.1.1, hc.1.2⟩ | refine And.intro ?_ ?_)); (· intro hc; first | exact .eff (.asg rfl) | exact .eff (.loadO rfl rfl rfl) | exact .eff (.and rfl rfl rfl) | exact .eff (.extract rfl rfl) | exact .eff (.bin rfl rfl rfl) | exact .callG rfl rfl rfl (by first | exact h0 | exact h1 | exact h2 | exact h3 | exact h4) rfl); (· rfl); (· rfl))
    | (apply Ops.new; (· rfl); (· rfl); (· rfl); (· first | exact .eff (.box rfl) | exact .eff (.alloc rfl) | exact .eff (.bsliceS rfl rfl rfl rfl rfl) | exact .eff (.mkS rfl rfl rfl rfl (by omega) (by omega)) | exact .eff (.zeroS rfl rfl (by intro l hl; first | cases hl | exact ⟨_, by injection hl with hl; subst hl; rfl⟩) rfl rfl rfl)); (· first | rfl | (simp only [freshB, noRefH, OB.cells, refsL_fv, refsL_app]; rfl)))
    | (apply Ops.stoW; (· rfl); (· rfl); (· rfl); (· rfl); (· rfl); (· rfl); (· first | rfl | exact onesB_map _); (· rfl); (· exact rfl); (· exact (by repeat' (first | exact .here | apply Repl.there rfl))))
    | fail)
  all_goals (try exact ([] : List Fp))
  refine .f1 (.inl rfl) rfl ?_
  simp
theorem confApplies_open {H : Type} {enc : TypeId × Value → H} (W : World) (base : Nat) {v0 v1 : Value} {d0 d1 : DataW H} {p0 p1 : List MemPlace} (hv0 : Value.okWide Try.prog W .any base 50 v0)
    (h0 : DataW.Trod enc Try.prog W 0 (fun _ => true) true 50 v0 d0 p0) (hs0 : SizedCl Try.prog 50 d0) (hv1 : Value.okWide Try.prog W .any base 60 v1)
    (h1 : DataW.Trod enc Try.prog W 0 (fun _ => true) true 60 v1 d1 p1) (_hs1 : SizedCl Try.prog 60 d1) : Calls Try.prog 5 #[v0, v1] W fun e W' => e = .returned (.bool true) ∧ Below W.heap.size W W' := by
  obtain ⟨c, _, _, l1, l2, l3, cs, rfl, hr⟩ := open_cf hv0 h0 hs0
  obtain ⟨a, us, rfl, ha⟩ := open_de hv1 h1
  have l1 := reach_le l1
  have l2 := reach_le l2
  have l3 := reach_le l3
  exact (confApplies_T c a ⟨by omega, by omega, by omega⟩).yes ⟨rep_agg hr, rep_agg ha, trivial⟩
end Go.Proofs.Ytdbbmjdeeenlhaa

/- The head's words of the program, and three facts that hang on them. -/
namespace Go.Proofs.Ytdbbmjdeeenlhaa
set_option maxRecDepth 100000
def headA : List Char := List.map Char.ofNat [104, 97, 114, 110, 101, 115, 115]
def headB : List Char := List.map Char.ofNat [51, 56, 98, 56, 98, 49, 99, 101, 57, 48, 50, 51, 54, 57, 54, 52, 48, 57, 51, 50, 51, 54, 99, 98, 57, 52, 49, 97, 102, 48, 48, 101, 57, 48, 56, 50, 100, 101, 48, 55, 55, 99, 50, 99, 55, 99, 54, 57, 51, 48, 101, 99, 97, 97, 98, 52, 52, 98, 52, 97, 99, 54, 100, 57]
def headC : List Char := List.map Char.ofNat [99, 117, 116]
def headD : List Char := List.map Char.ofNat [97, 116, 32, 100, 121, 101, 119, 111, 114, 107, 115, 47, 100, 121, 101, 119, 111, 114, 107, 115, 107, 101, 101, 112, 46, 82, 117, 110, 115, 69, 110, 100, 32, 100, 121, 101, 119, 111, 114, 107, 115, 47, 100, 121, 101, 119, 111, 114, 107, 115, 107, 101, 101, 112, 46, 82, 117, 110, 115, 70, 105, 114, 115, 116, 32, 100, 121, 101, 119, 111, 114, 107, 115, 47, 100, 121, 101, 119, 111, 114, 107, 115, 108, 97, 119, 46, 67, 111, 110, 102, 65, 112, 112, 108, 105, 101, 115, 32, 100, 121, 101, 119, 111, 114, 107, 115, 47, 100, 121, 101, 119, 111, 114, 107, 115, 107, 101, 101, 112, 46, 67, 111, 110, 102, 115, 71, 111, 111, 100, 32, 100, 121, 101, 119, 111, 114, 107, 115, 47, 100, 121, 101, 119, 111, 114, 107, 115, 107, 101, 101, 112, 46, 67, 111, 110, 102, 115, 84, 119, 105, 99, 101, 32, 100, 121, 101, 119, 111, 114, 107, 115, 47, 100, 121, 101, 119, 111, 114, 107, 115, 108, 97, 119, 46, 70, 108, 111, 119, 83, 111, 114, 116, 115, 32, 100, 121, 101, 119, 111, 114, 107, 115, 47, 100, 121, 101, 119, 111, 114, 107, 115, 108, 97, 119, 46, 70, 108, 111, 119, 68, 105, 102, 102, 115, 32, 100, 121, 101, 119, 111, 114, 107, 115, 47, 100, 121, 101, 119, 111, 114, 107, 115, 108, 97, 119, 46, 70, 108, 111, 119, 80, 97, 116, 99, 104, 101, 115, 32, 100, 121, 101, 119, 111, 114, 107, 115, 47, 100, 121, 101, 119, 111, 114, 107, 115, 107, 101, 101, 112, 46, 70, 114, 97, 109, 101, 115, 83, 112, 111, 105, 108, 116, 32, 100, 121, 101, 119, 111, 114, 107, 115, 47, 100, 121, 101, 119, 111, 114, 107, 115, 107, 101, 101, 112, 46, 80, 97, 116, 99, 104, 101, 115, 76, 101, 97, 100, 32, 100, 121, 101, 119, 111, 114, 107, 115, 47, 100, 121, 101, 119, 111, 114, 107, 115, 107, 101, 101, 112, 46, 70, 114, 97, 109, 101, 115, 66, 97, 99, 107, 32, 100, 121, 101, 119, 111, 114, 107, 115, 47, 100, 121, 101, 119, 111, 114, 107, 115, 107, 101, 101, 112, 46, 67, 111, 110, 102, 115, 68, 114, 111, 112, 32, 100, 121, 101, 119, 111, 114, 107, 115, 47, 100, 121, 101, 119, 111, 114, 107, 115, 108, 97, 119, 46, 80, 105, 112, 101, 77, 101, 97, 110, 115, 32, 100, 121, 101, 119, 111, 114, 107, 115, 47, 100, 121, 101, 119, 111, 114, 107, 115, 107, 101, 101, 112, 46, 80, 105, 112, 101, 115, 83, 116, 101, 97, 100, 121]
def spaceSign : Char := Char.ofNat 32
theorem head_eq : Try.prog.initOrder = String.ofList (headA ++ spaceSign :: (headB ++ spaceSign :: (headC ++ spaceSign :: headD))) := by kernel_rfl
theorem words_cons (w r : List Char) (h : w.all (fun c => !(c == spaceSign)) = true) : wordsSigns (w ++ spaceSign :: r) = w :: wordsSigns r := by
  induction w with
  | nil => rfl
  | cons c w ih =>
    simp only [List.all_cons, Bool.and_eq_true, Bool.not_eq_true', beq_eq_false_iff_ne, ne_eq] at h
    have ih' := ih h.2
    rw [List.cons_append, wordsSigns]
    · rw [ih']
    · intro e
      exact h.1 e
theorem words_head : behindMainWord (wordsSigns Try.prog.initOrder.toList) = headC :: wordsSigns headD := by
  rw [head_eq, String.toList_ofList, words_cons headA _ (by decide +kernel), words_cons headB _ (by decide +kernel), words_cons headC _ (by decide +kernel)]
  have e : ((headA == "harness".toList || headA == "ownmain".toList) && isSumSigns headB) = true := by decide +kernel
  unfold behindMainWord
  dsimp only
  rw [e]
  rfl
theorem laysLater_ : Try.prog.laysLater = false := by kernel_rfl
theorem bearsReflect_ : Try.prog.bearsReflect = false := by kernel_rfl
theorem doorRows_ : Try.prog.doorRows = [] := by kernel_rfl
theorem strip_cons (o : String) (os : List String) (w : List Char) (ws : List (List Char)) (h : (w == o.toList) = false) : stripLifts (o :: os) (w :: ws) = stripLifts os (w :: ws) := by
  rw [stripLifts, h]
  simp
theorem strip_ (r : List (List Char)) : stripLifts liftWords (headC :: r) = ([], headC :: r) := by
  unfold liftWords
  iterate 15 rw [strip_cons _ _ _ _ (by decide +kernel)]
  rfl
section
variable {P : Program} {rest : List (List Char)}
theorem mayEnter_of (h : behindMainWord (wordsSigns P.initOrder.toList) = headC :: rest) (h1 : P.laysLater = false) (h2 : P.bearsReflect = false) (h3 : P.doorRows = []) : P.mayEnter = true := by
  have e1 : (headC == "gc".toList) = false := by decide +kernel
  have e2 : (headC == "spec".toList) = false := by decide +kernel
  have e3 : (headC == "carried".toList) = false := by decide +kernel
  have e4 : headC = "cut".toList := by decide +kernel
  have e5 : P.doorFits [] = true := by
    unfold Program.doorFits
    rw [h3]
    rfl
  unfold Program.mayEnter
  rw [h]
  simp only [strip_, h1, h2, e1, e2, e3, e5]
  simp [e4]
theorem headLifts_of (h : behindMainWord (wordsSigns P.initOrder.toList) = headC :: rest) : P.headLifts = [] := by
  unfold Program.headLifts
  rw [h, strip_]
  dsimp only
  split <;> rfl
theorem liftsFinal_of (h : behindMainWord (wordsSigns P.initOrder.toList) = headC :: rest) : (false == P.liftsFinal) = true := by
  have e3 : (headC == "carried".toList) = false := by decide +kernel
  unfold Program.liftsFinal
  rw [h, headLifts_of h]
  simp only [List.head?_cons]
  have e4 : ((some headC : Option (List Char)) == some "carried".toList) = false := e3
  rw [e4]
  rfl
theorem make_of (h : behindMainWord (wordsSigns P.initOrder.toList) = headC :: rest) : (P.make == some Make.cut) = true := by
  have e1 : (headC == "gc".toList) = false := by decide +kernel
  have e2 : (headC == "spec".toList) = false := by decide +kernel
  have e4 : (headC == "cut".toList) = true := by decide +kernel
  have e : P.make = some Make.cut := by
    unfold Program.make
    rw [h]
    simp only [e1, e2, e4]
    rfl
  rw [e]
  rfl
end
theorem mayEnter_ : Try.prog.mayEnter = true := mayEnter_of words_head laysLater_ bearsReflect_ doorRows_
theorem liftsFinal_ : (false == Try.prog.liftsFinal) = true := liftsFinal_of words_head
theorem make_ : (Try.prog.make == some Make.cut) = true := make_of words_head
end Go.Proofs.Ytdbbmjdeeenlhaa

/- The frame of every law: a law that returns true and lets all that was there be meets its row. -/
namespace Go.Proofs.Ytdbbmjdeeenlhaa
open Go.ChangeShapes Go.WideShapes Go.ChangeAt Go.RowKit

set_option maxRecDepth 100000
theorem own : ownKnob Try.prog.godebug = none := by kernel_rfl
theorem laidOut : laidOutB Try.prog = true := by kernel_rfl

theorem mapsRowed_ : mapsRowed Try.prog = true := by kernel_rfl
theorem stops_ : (Try.prog.stops == []) = true := by kernel_rfl
theorem stopKnobs_ : (Try.prog.stopKnobs == []) = true := by kernel_rfl
theorem plainKeys_ : (true == Try.prog.plainKeys) = true := by kernel_rfl
theorem stopsHeard_ : Try.prog.stopsHeard = true := by kernel_rfl

/-- The closed facts of a row, one by one: each is asked of the kernel in a declaration of its own. -/
theorem facts_mk {P : Program} {f : FuncId} {fn : Func} {s : ChangeSpec} {c : OpenClaim}
    (k1 : c.wf (OpenSpec.ofChange s) = true) (k2 : laidOutB P = true) (k3 : mapsRowed P = true) (k4 : fn.params.all (P.readableRec ·) = true) (k5 : namedTie P c.named s.vars = true) (k6 : (c.stops == []) = true) (k7 : (P.stops == []) = true)
    (k8 : (c.knobs == []) = true) (k9 : (P.stopKnobs == []) = true) (k10 : (c.inPlace == P.inPlace f) = true) (k11 : (c.unfollowed == P.unfollowed f) = true) (k12 : (c.recurses == P.recurses f) = true) (k13 : (c.named == P.varsNamed f) = true)
    (k14 : (c.maps == (fn.params.toList ++ s.plain.varTypes P).any (P.mapsRec ·)) = true) (k15 : (c.ifaces == (fn.params.toList ++ s.plain.varTypes P).any (P.ifacesRec ·)) = true) (k16 : (c.mapsOut == P.mapsAmong fn.resultTypes.toList) = true)
    (k17 : (c.loops == (fn.params.toList ++ s.plain.varTypes P).any (P.loopsFrom ·)) = true) (k17b : (c.wideKeys == (fn.params.toList ++ s.plain.varTypes P ++ fn.resultTypes.toList).any (P.wideKeysFrom ·)) = true)
    (k18 : s.vars.all (P.varReadable ·) = true) (k19 : fn.resultTypes.all (fun t => P.readableRec t && decide (t < P.types.size)) = true) (k20 : (c.ifacesOut == fn.resultTypes.toList.any (P.ifacesRec ·)) = true) (k21 : (c.loopsOut == fn.resultTypes.toList.any (P.loopsFrom ·)) = true)
    (k22 : (c.plainKeys == P.plainKeys) = true) (k23 : c.shortTexts.isNone = true) (k23b : P.stopsHeard = true) (m1 : P.mayEnter = true) (m2 : (c.lifted == P.liftsFinal) = true) (m3 : (P.make == some c.make) = true)
    (m4 : (c.kinds == (if c.domain.isEmpty then [] else fn.params.toList.map fun t => match P.underlying t with | some (.int k) => some k | _ => none)) = true) (m5 : (c.pinned == c.pinnedBy) = true)
    (k24 : (c.veiled == (fn.params.toList ++ s.plain.varTypes P ++ fn.resultTypes.toList).any (P.veiledRec ·)) = true) (k25 : c.veiledFits P fn.params.toList (fn.params.toList ++ s.plain.varTypes P ++ fn.resultTypes.toList) = true) : joinedFacts P f fn s c = true := by
  unfold joinedFacts
  simp only [Bool.and_eq_true]
  repeat' apply And.intro
  all_goals first | with_reducible assumption | exact m4

section
variable {H : Type} {enc : TypeId × Value → H} {P : Program}

/-- Arguments read as they did, if nothing below the heap's old size has turned. -/
theorem trodAll_stays (hl : laidOutB P = true) {W W' : World} (hb : Below W.heap.size W W') {sp : Nat → Bool} : ∀ (ts : List TypeId) (vs : List Value) (ds : List (DataW H)) (ps : List MemPlace),
    (∀ t ∈ ts, P.readableRec t = true ∧ t < P.types.size) → DataW.TrodAll enc P W 0 (fun _ => true) true ts vs ds ps → (∀ x ∈ ps, x.block < W.heap.size) → (∀ x ∈ ps, sp x.block = true) →
    DataW.TrodAll enc P W' 0 sp true ts vs ds ps
  | [], vs, ds, ps, _, h, _, _ => by
    obtain ⟨rfl, rfl, rfl⟩ := trodAll_nil h
    exact trodAll_mk0
  | t :: ts, vs, ds, ps, ht, h, hlt, hsp => by
    obtain ⟨v, vs', d, ds', p, q, rfl, rfl, rfl, h0, r0⟩ := trodAll_cons h
    have h1 := ht t (by simp)
    exact trodAll_cons_mk (WideElems.Trod_stays hl h1.1 h1.2 h0 (fun x hx => hb.same (hlt x (by simp [hx]))) (fun x hx => hsp x (by simp [hx])))
      (trodAll_stays hl hb ts vs' ds' q (fun t' ht' => ht t' (by simp [ht'])) r0 (fun x hx => hlt x (by simp [hx])) (fun x hx => hsp x (by simp [hx])))

/-- A law's end: true, and nothing that was there has turned. -/
theorem law_post {f : Func} {s : ChangeSpec} {W W' : World} {args : Array Value} {ds gs : List (DataW H)} {before : List MemPlace} (hl : laidOutB P = true) (hB : P.underlying 4 = some .bool)
    (hvars : s.vars = []) (hr : f.resultTypes = #[4]) (hp : ∀ t ∈ f.params.toList, P.readableRec t = true ∧ t < P.types.size)
    (hW : DataW.Whole enc P f.params.toList s.vars false W args.toList ds gs before) (hs : s.fn H (ds ++ gs) = { results := [.lit (.bool true)], args := ds }) (hb : Below W.heap.size W W') :
    s.post enc P f false true false false W args (.bool true) W' := by
  have hW0 := hW
  have hlt : ∀ p ∈ before, p.block < W.heap.size := fun p hp => hW.lt p hp
  obtain ⟨p, q, hA, hV, rfl, hz, hn⟩ := hW
  rw [hvars] at hV
  obtain ⟨rfl, rfl⟩ := trodVars_none hV
  simp only [List.append_nil] at *
  have hargs : ∀ sp : Nat → Bool, (∀ x ∈ p, sp x.block = true) → DataW.TrodAll enc P W' 0 sp true f.params.toList args.toList (s.fn H ds).args p := fun sp hsp => by
    rw [hs]
    exact trodAll_stays hl hb _ _ _ _ hp hA hlt hsp
  have hres : ∀ (b : Nat) (sp : Nat → Bool) (hd : Bool), DataW.TrodAll enc P W' b sp hd f.resultTypes.toList ((Value.bool true).resultList f.resultTypes.size) (s.fn H ds).results [] := fun b sp hd => by
    rw [hs, hr]
    exact trodAll_mk1 (shut_bool hB true)
  have hok : ∀ (j : Nat) (t : TypeId) (r : Value), f.resultTypes[j]? = some t → ((Value.bool true).resultList f.resultTypes.size)[j]? = some r → Value.okWide P W' .any 0 t r := ok_one hr rfl (okWide_bool_mk hB true)
  have hvr : ∀ sp : Nat → Bool, DataW.TrodVars enc P W' sp s.vars (s.fn H ds).vars [] := fun sp => by
    rw [hs, hvars]
    rfl
  refine ⟨ds, [], p, [], p, [], hW0, ?_, ?_, ?_, World.keptBut_mono (fun x hx => ⟨hx, Or.inr (Or.inl hx)⟩) (hb.frame (· ∈ p)), fun _ => ?_⟩
  · simpa using hres _ _ _
  · simpa using hargs (fun b => decide (b < W.heap.size)) (fun x hx => by simpa using hlt x hx)
  · simpa using hvr _
  · refine ⟨hok, (s.fn H ds).results ++ (s.fn H ds).args, (s.fn H ds).vars, p, ⟨p, [], ?_, hvr _, by simp, ?_, fun h => by cases h⟩, fun x hx _ => by simpa using hx⟩
    · have := trodAll_append (hargs (fun _ => true) (fun _ _ => rfl)) (hres 0 (fun _ => true) true)
      simpa using this
    · intro b off hx
      rw [hb.frozen (hlt _ hx)]
      exact hz b off hx
end
end Go.Proofs.Ytdbbmjdeeenlhaa
