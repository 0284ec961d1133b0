/- What is wanted: may it be? The document's answer. -/
import Derived.Test.YtdbbmjdeeenlhaaPack08
import Derived.Test.YtdbbmjdeeenlhaaPack06
namespace Go.Proofs.Ytdbbmjdeeenlhaa
open Go.RowKit
set_option maxRecDepth 100000

set_option maxHeartbeats 4000000 in
theorem confMay_T (c : Cf) (hl : c.Small) : Fun Try.prog 50 [.agg ((encCf c).map .fv)] (.fv (.bool (cfMay c))) := by
  have hl1 := hl.1
  have hl2 := hl.2.1
  have hl3 := hl.2.2
  refine Fun.body tbl_ok Try.func50 rfl (by kernel_rfl) rfl rfl rfl ?_
  repeat' (first
    | (apply Ops.loc; (· rfl); (· rfl); (· rfl); (· first | exact .eff (.asg rfl) | exact .eff (.buildS rfl rfl rfl rfl)))
    | with_reducible refine WP.seq ?_
    | with_reducible apply WP.reg tbl_ok rfl
    | with_reducible refine Ops.nil ?_
    | with_reducible refine thenQ.nor ?_
    | with_reducible refine WP.block ?_
    | (apply Ops.new; (· rfl); (· rfl); (· rfl); (· first | exact .eff (.box rfl) | exact .eff (.alloc rfl) | exact .eff (.bsliceS rfl rfl rfl rfl rfl) | exact .eff (.mkS rfl rfl rfl rfl (by omega) (by omega)) | exact .eff (.zeroS rfl rfl (by intro l hl; first | cases hl | exact ⟨_, by injection hl with hl; subst hl; rfl⟩) rfl rfl rfl)); (· first | rfl | (simp only [freshB, noRefH, OB.cells, refsL_fv, refsL_app]; rfl)))
    | (apply Ops.stoW; (· rfl); (· rfl); (· rfl); (· rfl); (· rfl); (· rfl); (· first | rfl | exact onesB_map _); (· rfl); (· exact rfl); (· exact (by repeat' (first | exact .here | apply Repl.there rfl))))
    | fail)
  all_goals (try exact ([] : List Fp))
  refine WP.loop (ι := Nat) (fun k => ⟨[(1, .optr 1 0), (3, .optr 3 0), (4, .fv (.int .i64 k))], [ (1, .box 50 ((encCf c).map .fv)), (3, .box 50 [.osl 900, .nil, .nil]), (900, .row 52 3 (c.ss.take k).length (((c.ss.take k).flatMap encSw).map .fv))]⟩)
    (fun k => k ≤ c.ss.length ∧ k ≤ 12 ∧ swsMay ⟨[], [], []⟩ c.ss = swsMay ⟨c.ss.take k, [], []⟩ (c.ss.drop k)) (fun k => c.ss.length - k) 0 ⟨by omega, by omega, rfl⟩ ?_ ?_
  · skip
    refine St.to [(900, .nil)] [] rfl rfl ?_ ?_ <;> (repeat' (first | exact trivial | with_reducible rfl | exact .any | exact .ptr rfl | exact .sl rfl | exact .ptr0 rfl | exact .sl0 rfl | exact AV.To.nil rfl | exact .frz rfl rfl rfl | exact .frb rfl rfl (by omega) rfl | exact .frp rfl rfl rfl | refine AV.To.agg ?_ | refine AV.To.tup ?_ | exact .le (.refl _) rfl | exact .le AV.Le.nil rfl | refine AV.To.frzE rfl ?_ ?_ rfl | refine AV.To.frbE rfl ?_ ?_ (by omega) rfl | refine .le (.of_eq ?_) rfl | exact AV.ToL.nil | refine AV.ToL.cons ?_ ?_ | refine .ofEq ?_ | exact OB.To.nil rfl | refine OB.To.row rfl rfl ?_ ?_ | refine OB.To.cut rfl rfl ?_ ?_ ?_ ?_ | refine OB.To.box rfl rfl ?_ | refine ⟨⟨_, rfl, ?_⟩, ?_⟩ | refine ⟨?_, ?_⟩ | fail))
  rintro k ⟨hk, hk12, hd⟩
  try dsimp only
  have hlen : (c.ss.take k).length ≤ 12 := by simp; omega
  by_cases hlt : k < c.ss.length
  case pos =>
    obtain ⟨x, hx⟩ : ∃ x, c.ss[k]? = some x := ⟨_, List.getElem?_eq_getElem hlt⟩
    have hat := sws_at (ps := []) (acs := []) hx
    have hsm : Cf.Small ⟨c.ss.take k, [], []⟩ := by have := cut_small hl k 0 0; simpa using this
    repeat' (first
      | (apply Ops.loc; (· rfl); (· rfl); (· rfl); (· first | (exact .eff (.idxS rfl rfl rfl encSw_len hx)) | exact .eff (.mv rfl) | exact .eff (.asg rfl) | exact .eff (.loadO rfl rfl rfl) | exact .eff (.loadF rfl rfl) | exact .eff (.fldO rfl rfl rfl) | (refine .eff (.add64 rfl rfl ?_ ?_) <;> omega) | exact .eff (.lenF rfl rfl) | exact .eff (.bin rfl rfl rfl) | (apply LEff.callBL; (· rfl); (· rfl); (· exact switchFault_T ⟨c.ss.take k, [], []⟩ x hsm); (· skip; repeat' (first | exact .nil | refine .cons ?_ ?_ | exact .le (.refl _) | exact .row rfl | exact .box rfl | exact .cut rfl (by omega) | exact .le .nil | refine .agg ?_ | refine .fn ?_ | fail)); (· rfl))))
      | with_reducible refine WP.seq ?_
      | with_reducible apply WP.reg tbl_ok rfl
      | with_reducible refine Ops.nil ?_
      | with_reducible refine thenQ.nor ?_
      | with_reducible refine thenQ.ex ?_
      | with_reducible refine thenQ.ret ?_
      | with_reducible refine blockQ.nor ?_
      | with_reducible refine blockQ.ret ?_
      | with_reducible refine blockQ.hit rfl ?_
      | with_reducible refine WP.block ?_
      | with_reducible refine WP.skip ?_
      | with_reducible refine WP.exit ?_
      | with_reducible refine WP.ret ?_
      | (refine WP.cond rfl ?_ ?_ <;> intro hcond)
      | (apply Ops.new; (· rfl); (· rfl); (· rfl); (· first | exact .eff (.box rfl) | exact .eff (.alloc rfl) | exact .eff (.bsliceS rfl rfl rfl rfl rfl) | exact .eff (.mkS rfl rfl rfl rfl (by omega) (by omega)) | exact .eff (.zeroS rfl rfl (by intro l hl; first | cases hl | exact ⟨_, by injection hl with hl; subst hl; rfl⟩) rfl rfl rfl)); (· first | rfl | (simp only [freshB, noRefH, OB.cells, refsL_fv, refsL_app]; rfl)))
      | (apply Ops.app; (· rfl); (· rfl); (· rfl); (· rfl); (· rfl); (· rfl); (· rfl); (· exact (by first | exact .nil | exact .own rfl (rmv_q (by first | exact (rfl : _ = []) | exact (rfl : _ = [_]) | exact (rfl : _ = [_, _]) | exact (rfl : _ = [_, _, _]) | exact (rfl : _ = [_, _, _, _]) | exact (rfl : _ = [_, _, _, _, _]) | exact (rfl : _ = [_, _, _, _, _, _]) | exact (rfl : _ = [_, _, _, _, _, _, _]) | exact (rfl : _ = [_, _, _, _, _, _, _, _]) | exact (rfl : _ = [_, _, _, _, _, _, _, _, _]) | exact (rfl : _ = [_, _, _, _, _, _, _, _, _, _]) | exact (rfl : _ = [_, _, _, _, _, _, _, _, _, _, _]) | exact (rfl : _ = [_, _, _, _, _, _, _, _, _, _, _, _]))))); (· exact (by first | exact .nil | exact .own rfl (by first | rfl | exact onesB_map _) | exact .fz (by first | rfl | (simp; done) | exact (flatMap_len (s := 1) (fun _ => rfl) _).trans (by omega)))); (· rfl); (· show (_ : Nat) ≤ 140737488355328; omega); (· first | rfl | (simp only [freshB, noRefH, OB.cells, refsL_fv, refsL_app]; rfl)))
      | (apply Ops.stoB; (· rfl); (· rfl); (· rfl); (· rfl); (· rfl); (· rfl); (· first | rfl | exact onesB_map _); (· rfl); (· exact rfl); (· exact (by repeat' (first | exact .here | apply Repl.there rfl))))
      | apply WP.drwL tbl_ok mixed_no rfl
      | ((with_reducible apply drwK.mk); (· kernel_rfl); (· first | rfl | (simp only [freeF, List.all_cons, List.all_nil, noRefH, OB.cells, refsL_fv, refsL_app]; rfl)))
      | fail)
    all_goals (try exact ([] : List Fp))
    · refine .f1 (.inl rfl) rfl ?_
      have : cfMay c = false := by
        unfold cfMay
        rw [hd, hat, decide_eq_false (int_ne hcond)]
        rfl
      rw [this]
    · have h0 := int_eq hcond
      have := swFault_lt h0
      refine ⟨k + 1, ⟨by omega, by simp at this; omega, ?_⟩, by omega, ?_⟩
      · rw [hd, hat, decide_eq_true h0]
        rfl
      · skip
        refine St.to [(900, .id 31)] [] rfl rfl ?_ ?_ <;> (repeat' (first | exact trivial | with_reducible rfl | exact .any | exact .ptr rfl | exact .sl rfl | exact .ptr0 rfl | exact .sl0 rfl | exact AV.To.nil rfl | exact .frz rfl rfl rfl | exact .frb rfl rfl (by omega) rfl | exact .frp rfl rfl rfl | refine AV.To.agg ?_ | refine AV.To.tup ?_ | exact .le (.refl _) rfl | exact .le AV.Le.nil rfl | refine AV.To.frzE rfl ?_ ?_ rfl | refine AV.To.frbE rfl ?_ ?_ (by omega) rfl | refine .le (.of_eq ?_) rfl | exact AV.ToL.nil | refine AV.ToL.cons ?_ ?_ | refine .ofEq ?_ | exact OB.To.nil rfl | refine OB.To.row rfl rfl ?_ ?_ | refine OB.To.cut rfl rfl ?_ ?_ ?_ ?_ | refine OB.To.box rfl rfl ?_ | refine ⟨⟨_, rfl, ?_⟩, ?_⟩ | refine ⟨?_, ?_⟩ | fail))
        all_goals first | exact (take_len hx).symm | (rw [take_flat hx, List.map_append]; rfl)
    · exfalso
      simp at hcond
      omega
  case neg =>
    have hek : k = c.ss.length := by omega
    subst hek
    rw [List.drop_of_length_le (Nat.le_refl _)] at hd
    have hsw : swsMay ⟨[], [], []⟩ c.ss = true := hd
    repeat' (first
      | (apply Ops.loc; (· rfl); (· rfl); (· rfl); (· first | exact .eff (.mv rfl) | exact .eff (.asg rfl) | exact .eff (.loadO rfl rfl rfl) | exact .eff (.fldO rfl rfl rfl) | exact .eff (.lenF rfl rfl) | exact .eff (.bin rfl rfl rfl)))
      | with_reducible refine WP.seq ?_
      | with_reducible apply WP.reg tbl_ok rfl
      | with_reducible refine Ops.nil ?_
      | with_reducible refine thenQ.nor ?_
      | with_reducible refine thenQ.ex ?_
      | with_reducible refine blockQ.hit rfl ?_
      | with_reducible refine WP.block ?_
      | with_reducible refine WP.skip ?_
      | with_reducible refine WP.exit ?_
      | (refine WP.cond rfl ?_ ?_ <;> intro hcond)
      | apply WP.drwL tbl_ok mixed_no rfl
      | fail)
    all_goals (try exact ([] : List Fp))
    · exfalso
      simp at hcond
    refine WP.loop (ι := Nat) (fun k => ⟨[(1, .optr 1 0), (3, .optr 3 0), (5, .fv (.int .i64 k))], [ (1, .box 50 ((encCf c).map .fv)), (3, .box 50 [.osl 900, .osl 901, .nil]), (900, .row 52 3 c.ss.length ((c.ss.flatMap encSw).map .fv)), (901, .row 54 5 (c.ps.take k).length (((c.ps.take k).flatMap encPo).map .fv))]⟩)
      (fun k => k ≤ c.ps.length ∧ k ≤ 40 ∧ Cf.Wf ⟨c.ss, c.ps.take k, []⟩ ∧ posMay ⟨c.ss, [], []⟩ c.ps = posMay ⟨c.ss, c.ps.take k, []⟩ (c.ps.drop k)) (fun k => c.ps.length - k) 0 ⟨by omega, by omega, (by intro p hp; simp at hp), rfl⟩ ?_ ?_
    · skip
      refine St.to [(901, .nil)] [] rfl rfl ?_ ?_ <;> (repeat' (first | exact trivial | with_reducible rfl | exact .any | exact .ptr rfl | exact .sl rfl | exact .ptr0 rfl | exact .sl0 rfl | exact AV.To.nil rfl | exact .frz rfl rfl rfl | exact .frb rfl rfl (by omega) rfl | exact .frp rfl rfl rfl | refine AV.To.agg ?_ | refine AV.To.tup ?_ | exact .le (.refl _) rfl | exact .le AV.Le.nil rfl | refine AV.To.frzE rfl ?_ ?_ rfl | refine AV.To.frbE rfl ?_ ?_ (by omega) rfl | refine .le (.of_eq ?_) rfl | exact AV.ToL.nil | refine AV.ToL.cons ?_ ?_ | refine .ofEq ?_ | exact OB.To.nil rfl | refine OB.To.row rfl rfl ?_ ?_ | refine OB.To.cut rfl rfl ?_ ?_ ?_ ?_ | refine OB.To.box rfl rfl ?_ | refine ⟨⟨_, rfl, ?_⟩, ?_⟩ | refine ⟨?_, ?_⟩ | fail))
      all_goals rw [List.take_of_length_le (Nat.le_refl _)]
    rintro k ⟨hk, hk40, hwf, hd⟩
    try dsimp only
    have hlen : (c.ps.take k).length ≤ 40 := by simp; omega
    by_cases hlt : k < c.ps.length
    case pos =>
      obtain ⟨x, hx⟩ : ∃ x, c.ps[k]? = some x := ⟨_, List.getElem?_eq_getElem hlt⟩
      have hat := pos_at (ss := c.ss) (acs := []) hx
      have hsm : Cf.Small ⟨c.ss, c.ps.take k, []⟩ := by have := cut_small hl c.ss.length k 0; simpa using this
      repeat' (first
        | (apply Ops.loc; (· rfl); (· rfl); (· rfl); (· first | (exact .eff (.idxS rfl rfl rfl encPo_len hx)) | exact .eff (.mv rfl) | exact .eff (.asg rfl) | exact .eff (.loadO rfl rfl rfl) | exact .eff (.loadF rfl rfl) | exact .eff (.fldO rfl rfl rfl) | (refine .eff (.add64 rfl rfl ?_ ?_) <;> omega) | exact .eff (.lenF rfl rfl) | exact .eff (.bin rfl rfl rfl) | (apply LEff.callBL; (· rfl); (· rfl); (· exact portFault_T ⟨c.ss, c.ps.take k, []⟩ x hsm); (· skip; repeat' (first | exact .nil | refine .cons ?_ ?_ | exact .le (.refl _) | exact .row rfl | exact .box rfl | exact .cut rfl (by omega) | exact .le .nil | refine .agg ?_ | refine .fn ?_ | fail)); (· rfl))))
        | with_reducible refine WP.seq ?_
        | with_reducible apply WP.reg tbl_ok rfl
        | with_reducible refine Ops.nil ?_
        | with_reducible refine thenQ.nor ?_
        | with_reducible refine thenQ.ex ?_
        | with_reducible refine thenQ.ret ?_
        | with_reducible refine blockQ.nor ?_
        | with_reducible refine blockQ.ret ?_
        | with_reducible refine blockQ.hit rfl ?_
        | with_reducible refine WP.block ?_
        | with_reducible refine WP.skip ?_
        | with_reducible refine WP.exit ?_
        | with_reducible refine WP.ret ?_
        | (refine WP.cond rfl ?_ ?_ <;> intro hcond)
        | (apply Ops.new; (· rfl); (· rfl); (· rfl); (· first | exact .eff (.box rfl) | exact .eff (.alloc rfl) | exact .eff (.bsliceS rfl rfl rfl rfl rfl) | exact .eff (.mkS rfl rfl rfl rfl (by omega) (by omega)) | exact .eff (.zeroS rfl rfl (by intro l hl; first | cases hl | exact ⟨_, by injection hl with hl; subst hl; rfl⟩) rfl rfl rfl)); (· first | rfl | (simp only [freshB, noRefH, OB.cells, refsL_fv, refsL_app]; rfl)))
        | (apply Ops.app; (· rfl); (· rfl); (· rfl); (· rfl); (· rfl); (· rfl); (· rfl); (· exact (by first | exact .nil | exact .own rfl (rmv_q (by first | exact (rfl : _ = []) | exact (rfl : _ = [_]) | exact (rfl : _ = [_, _]) | exact (rfl : _ = [_, _, _]) | exact (rfl : _ = [_, _, _, _]) | exact (rfl : _ = [_, _, _, _, _]) | exact (rfl : _ = [_, _, _, _, _, _]) | exact (rfl : _ = [_, _, _, _, _, _, _]) | exact (rfl : _ = [_, _, _, _, _, _, _, _]) | exact (rfl : _ = [_, _, _, _, _, _, _, _, _]) | exact (rfl : _ = [_, _, _, _, _, _, _, _, _, _]) | exact (rfl : _ = [_, _, _, _, _, _, _, _, _, _, _]) | exact (rfl : _ = [_, _, _, _, _, _, _, _, _, _, _, _]))))); (· exact (by first | exact .nil | exact .own rfl (by first | rfl | exact onesB_map _) | exact .fz (by first | rfl | (simp; done) | exact (flatMap_len (s := 1) (fun _ => rfl) _).trans (by omega)))); (· rfl); (· show (_ : Nat) ≤ 140737488355328; omega); (· first | rfl | (simp only [freshB, noRefH, OB.cells, refsL_fv, refsL_app]; rfl)))
        | (apply Ops.stoB; (· rfl); (· rfl); (· rfl); (· rfl); (· rfl); (· rfl); (· first | rfl | exact onesB_map _); (· rfl); (· exact rfl); (· exact (by repeat' (first | exact .here | apply Repl.there rfl))))
        | apply WP.drwL tbl_ok mixed_no rfl
        | ((with_reducible apply drwK.mk); (· kernel_rfl); (· first | rfl | (simp only [freeF, List.all_cons, List.all_nil, noRefH, OB.cells, refsL_fv, refsL_app]; rfl)))
        | fail)
      all_goals (try exact ([] : List Fp))
      · refine .f1 (.inl rfl) rfl ?_
        have : cfMay c = false := by
          unfold cfMay
          rw [hd, hat, decide_eq_false (int_ne hcond), hsw]
          rfl
        rw [this]
      · have h0 := int_eq hcond
        have := poFault_lt h0
        refine ⟨k + 1, ⟨by omega, by have := this.1; simp at this; omega, ?_, ?_⟩, by omega, ?_⟩
        · exact take_all (p := fun p : Po => c.ss.any (fun x => x.id == p.sw) = true) hx hwf this.2
        · rw [hd, hat, decide_eq_true h0]
          rfl
        · skip
          refine St.to [(901, .id 56)] [] rfl rfl ?_ ?_ <;> (repeat' (first | exact trivial | with_reducible rfl | exact .any | exact .ptr rfl | exact .sl rfl | exact .ptr0 rfl | exact .sl0 rfl | exact AV.To.nil rfl | exact .frz rfl rfl rfl | exact .frb rfl rfl (by omega) rfl | exact .frp rfl rfl rfl | refine AV.To.agg ?_ | refine AV.To.tup ?_ | exact .le (.refl _) rfl | exact .le AV.Le.nil rfl | refine AV.To.frzE rfl ?_ ?_ rfl | refine AV.To.frbE rfl ?_ ?_ (by omega) rfl | refine .le (.of_eq ?_) rfl | exact AV.ToL.nil | refine AV.ToL.cons ?_ ?_ | refine .ofEq ?_ | exact OB.To.nil rfl | refine OB.To.row rfl rfl ?_ ?_ | refine OB.To.cut rfl rfl ?_ ?_ ?_ ?_ | refine OB.To.box rfl rfl ?_ | refine ⟨⟨_, rfl, ?_⟩, ?_⟩ | refine ⟨?_, ?_⟩ | fail))
          all_goals first | exact (take_len hx).symm | (rw [take_flat hx, List.map_append]; rfl)
      · exfalso
        simp at hcond
        omega
    case neg =>
      have hek : k = c.ps.length := by omega
      subst hek
      rw [List.drop_of_length_le (Nat.le_refl _)] at hd
      have hpo : posMay ⟨c.ss, [], []⟩ c.ps = true := hd
      repeat' (first
        | (apply Ops.loc; (· rfl); (· rfl); (· rfl); (· first | exact .eff (.mv rfl) | exact .eff (.asg rfl) | exact .eff (.loadO rfl rfl rfl) | exact .eff (.fldO rfl rfl rfl) | exact .eff (.lenF rfl rfl) | exact .eff (.bin rfl rfl rfl)))
        | with_reducible refine WP.seq ?_
        | with_reducible apply WP.reg tbl_ok rfl
        | with_reducible refine Ops.nil ?_
        | with_reducible refine thenQ.nor ?_
        | with_reducible refine thenQ.ex ?_
        | with_reducible refine blockQ.hit rfl ?_
        | with_reducible refine WP.block ?_
        | with_reducible refine WP.skip ?_
        | with_reducible refine WP.exit ?_
        | (refine WP.cond rfl ?_ ?_ <;> intro hcond)
        | apply WP.drwL tbl_ok mixed_no rfl
        | fail)
      all_goals (try exact ([] : List Fp))
      · exfalso
        simp at hcond
      refine WP.loop (ι := Nat) (fun k => ⟨[(1, .optr 1 0), (3, .optr 3 0), (6, .fv (.int .i64 k))], [ (1, .box 50 ((encCf c).map .fv)), (3, .box 50 [.osl 900, .osl 901, .osl 902]), (900, .row 52 3 c.ss.length ((c.ss.flatMap encSw).map .fv)), (901, .row 54 5 c.ps.length ((c.ps.flatMap encPo).map .fv)), (902, .row 56 9 (c.acs.take k).length (((c.acs.take k).flatMap encAc).map .fv))]⟩)
        (fun k => k ≤ c.acs.length ∧ k ≤ 40 ∧ acsMay ⟨c.ss, c.ps, []⟩ c.acs = acsMay ⟨c.ss, c.ps, c.acs.take k⟩ (c.acs.drop k)) (fun k => c.acs.length - k) 0 ⟨by omega, by omega, rfl⟩ ?_ ?_
      · skip
        refine St.to [(902, .nil)] [] rfl rfl ?_ ?_ <;> (repeat' (first | exact trivial | with_reducible rfl | exact .any | exact .ptr rfl | exact .sl rfl | exact .ptr0 rfl | exact .sl0 rfl | exact AV.To.nil rfl | exact .frz rfl rfl rfl | exact .frb rfl rfl (by omega) rfl | exact .frp rfl rfl rfl | refine AV.To.agg ?_ | refine AV.To.tup ?_ | exact .le (.refl _) rfl | exact .le AV.Le.nil rfl | refine AV.To.frzE rfl ?_ ?_ rfl | refine AV.To.frbE rfl ?_ ?_ (by omega) rfl | refine .le (.of_eq ?_) rfl | exact AV.ToL.nil | refine AV.ToL.cons ?_ ?_ | refine .ofEq ?_ | exact OB.To.nil rfl | refine OB.To.row rfl rfl ?_ ?_ | refine OB.To.cut rfl rfl ?_ ?_ ?_ ?_ | refine OB.To.box rfl rfl ?_ | refine ⟨⟨_, rfl, ?_⟩, ?_⟩ | refine ⟨?_, ?_⟩ | fail))
        all_goals rw [List.take_of_length_le (Nat.le_refl _)]
      rintro k ⟨hk, hk40, hd⟩
      try dsimp only
      have hlen : (c.acs.take k).length ≤ 40 := by simp; omega
      by_cases hlt : k < c.acs.length
      case pos =>
        obtain ⟨x, hx⟩ : ∃ x, c.acs[k]? = some x := ⟨_, List.getElem?_eq_getElem hlt⟩
        have hat := acs_at (ss := c.ss) (ps := c.ps) hx
        have hsm : Cf.Small ⟨c.ss, c.ps, c.acs.take k⟩ := by have := cut_small hl c.ss.length c.ps.length k; simpa using this
        repeat' (first
          | (apply Ops.loc; (· rfl); (· rfl); (· rfl); (· first | (exact .eff (.idxS rfl rfl rfl encAc_len hx)) | exact .eff (.mv rfl) | exact .eff (.asg rfl) | exact .eff (.loadO rfl rfl rfl) | exact .eff (.loadF rfl rfl) | exact .eff (.fldO rfl rfl rfl) | (refine .eff (.add64 rfl rfl ?_ ?_) <;> omega) | exact .eff (.lenF rfl rfl) | exact .eff (.bin rfl rfl rfl) | (apply LEff.callBL; (· rfl); (· rfl); (· exact aclFault_T ⟨c.ss, c.ps, c.acs.take k⟩ x hsm); (· skip; repeat' (first | exact .nil | refine .cons ?_ ?_ | exact .le (.refl _) | exact .row rfl | exact .box rfl | exact .cut rfl (by omega) | exact .le .nil | refine .agg ?_ | refine .fn ?_ | fail)); (· rfl))))
          | with_reducible refine WP.seq ?_
          | with_reducible apply WP.reg tbl_ok rfl
          | with_reducible refine Ops.nil ?_
          | with_reducible refine thenQ.nor ?_
          | with_reducible refine thenQ.ex ?_
          | with_reducible refine thenQ.ret ?_
          | with_reducible refine blockQ.nor ?_
          | with_reducible refine blockQ.ret ?_
          | with_reducible refine blockQ.hit rfl ?_
          | with_reducible refine WP.block ?_
          | with_reducible refine WP.skip ?_
          | with_reducible refine WP.exit ?_
          | with_reducible refine WP.ret ?_
          | (refine WP.cond rfl ?_ ?_ <;> intro hcond)
          | (apply Ops.new; (· rfl); (· rfl); (· rfl); (· first | exact .eff (.box rfl) | exact .eff (.alloc rfl) | exact .eff (.bsliceS rfl rfl rfl rfl rfl) | exact .eff (.mkS rfl rfl rfl rfl (by omega) (by omega)) | exact .eff (.zeroS rfl rfl (by intro l hl; first | cases hl | exact ⟨_, by injection hl with hl; subst hl; rfl⟩) rfl rfl rfl)); (· first | rfl | (simp only [freshB, noRefH, OB.cells, refsL_fv, refsL_app]; rfl)))
          | (apply Ops.app; (· rfl); (· rfl); (· rfl); (· rfl); (· rfl); (· rfl); (· rfl); (· exact (by first | exact .nil | exact .own rfl (rmv_q (by first | exact (rfl : _ = []) | exact (rfl : _ = [_]) | exact (rfl : _ = [_, _]) | exact (rfl : _ = [_, _, _]) | exact (rfl : _ = [_, _, _, _]) | exact (rfl : _ = [_, _, _, _, _]) | exact (rfl : _ = [_, _, _, _, _, _]) | exact (rfl : _ = [_, _, _, _, _, _, _]) | exact (rfl : _ = [_, _, _, _, _, _, _, _]) | exact (rfl : _ = [_, _, _, _, _, _, _, _, _]) | exact (rfl : _ = [_, _, _, _, _, _, _, _, _, _]) | exact (rfl : _ = [_, _, _, _, _, _, _, _, _, _, _]) | exact (rfl : _ = [_, _, _, _, _, _, _, _, _, _, _, _]))))); (· exact (by first | exact .nil | exact .own rfl (by first | rfl | exact onesB_map _) | exact .fz (by first | rfl | (simp; done) | exact (flatMap_len (s := 1) (fun _ => rfl) _).trans (by omega)))); (· rfl); (· show (_ : Nat) ≤ 140737488355328; omega); (· first | rfl | (simp only [freshB, noRefH, OB.cells, refsL_fv, refsL_app]; rfl)))
          | (apply Ops.stoB; (· rfl); (· rfl); (· rfl); (· rfl); (· rfl); (· rfl); (· first | rfl | exact onesB_map _); (· rfl); (· exact rfl); (· exact (by repeat' (first | exact .here | apply Repl.there rfl))))
          | apply WP.drwL tbl_ok mixed_no rfl
          | ((with_reducible apply drwK.mk); (· kernel_rfl); (· first | rfl | (simp only [freeF, List.all_cons, List.all_nil, noRefH, OB.cells, refsL_fv, refsL_app]; rfl)))
          | fail)
        all_goals (try exact ([] : List Fp))
        · refine .f1 (.inl rfl) rfl ?_
          have : cfMay c = false := by
            unfold cfMay
            rw [hd, hat, decide_eq_false (int_ne hcond), hsw, hpo]
            rfl
          rw [this]
        · have h0 := int_eq hcond
          have := acFault_lt h0
          refine ⟨k + 1, ⟨by omega, by simp at this; omega, ?_⟩, by omega, ?_⟩
          · rw [hd, hat, decide_eq_true h0]
            rfl
          · skip
            refine St.to [(902, .id 81)] [] rfl rfl ?_ ?_ <;> (repeat' (first | exact trivial | with_reducible rfl | exact .any | exact .ptr rfl | exact .sl rfl | exact .ptr0 rfl | exact .sl0 rfl | exact AV.To.nil rfl | exact .frz rfl rfl rfl | exact .frb rfl rfl (by omega) rfl | exact .frp rfl rfl rfl | refine AV.To.agg ?_ | refine AV.To.tup ?_ | exact .le (.refl _) rfl | exact .le AV.Le.nil rfl | refine AV.To.frzE rfl ?_ ?_ rfl | refine AV.To.frbE rfl ?_ ?_ (by omega) rfl | refine .le (.of_eq ?_) rfl | exact AV.ToL.nil | refine AV.ToL.cons ?_ ?_ | refine .ofEq ?_ | exact OB.To.nil rfl | refine OB.To.row rfl rfl ?_ ?_ | refine OB.To.cut rfl rfl ?_ ?_ ?_ ?_ | refine OB.To.box rfl rfl ?_ | refine ⟨⟨_, rfl, ?_⟩, ?_⟩ | refine ⟨?_, ?_⟩ | fail))
            all_goals first | exact (take_len hx).symm | (rw [take_flat hx, List.map_append]; rfl)
        · exfalso
          simp at hcond
          omega
      case neg =>
        have hek : k = c.acs.length := by omega
        subst hek
        rw [List.drop_of_length_le (Nat.le_refl _)] at hd
        have hac : acsMay ⟨c.ss, c.ps, []⟩ c.acs = true := hd
        have hall : cfMay c = true := by
          unfold cfMay
          rw [hsw, hpo, hac]
          rfl
        repeat' (first
          | (apply Ops.loc; (· rfl); (· rfl); (· rfl); (· first | exact .eff (.mv rfl) | exact .eff (.asg rfl) | exact .eff (.loadO rfl rfl rfl) | exact .eff (.fldO rfl rfl rfl) | exact .eff (.lenF rfl rfl) | exact .eff (.bin rfl rfl rfl)))
          | with_reducible refine WP.seq ?_
          | with_reducible apply WP.reg tbl_ok rfl
          | with_reducible refine Ops.nil ?_
          | with_reducible refine thenQ.nor ?_
          | with_reducible refine thenQ.ex ?_
          | with_reducible refine blockQ.hit rfl ?_
          | with_reducible refine WP.block ?_
          | with_reducible refine WP.skip ?_
          | with_reducible refine WP.exit ?_
          | with_reducible refine WP.ret ?_
          | (refine WP.cond rfl ?_ ?_ <;> intro hcond)
          | apply WP.drwL tbl_ok mixed_no rfl
          | fail)
        all_goals (try exact ([] : List Fp))
        · exfalso
          simp at hcond
        · refine .f1 (.inl rfl) rfl ?_
          rw [hall]
end Go.Proofs.Ytdbbmjdeeenlhaa

/- A logic of memory: a part of an own row cleared, closed up where it stands; slices with three indexes. -/
namespace Go.Proofs.Ytdbbmjdeeenlhaa
open Go.RowKit

section
variable {P : Program} {T : Tbl} {n i : Nat} {ops : Array Oper} {st : St} {o : Oper} {d : Nat}
/-- A step that looks at one own block, and changes it. -/
theorem Step.own1 {g : Nat} {ob ob' : OB} {p : Option (Nat × AV)} {own' : Own} (ho : ops[i]? = some o) (hd : ∀ q, p = some q → o.dst = some q.1) (hg : lk st.own g = some ob)
    (hs : T.Ok P → ∀ s2 : St, (∀ t ∈ o.looksAt ops, lk s2.t t = lk st.t t) → lk s2.own g = some ob → OpSem P n ops i s2 ⟨p.toList ++ s2.t, (g, ob') :: s2.own⟩)
    (hr : T.Ok P → ∀ k, k ≠ g → (∀ t ∈ o.looksAt ops, ∀ a, lk st.t t = some a → a.refs k = false) → AV.refsL k ob.cells = false → (∀ q, p = some q → q.2.refs k = false) ∧ AV.refsL k ob'.cells = false)
    (he : ∀ i, lk own' i = lk ((g, ob') :: st.own) i) : Step P T n ops i ⟨[g], [g], []⟩ st ⟨p.toList ++ st.t, own'⟩ := by
  intro hT
  refine ⟨o, p, [(g, some ob')], ho, ⟨fun s2 s2' e1 e2 hf2 hi => ?_, fun k e1 e2 e3 e4 => ?_, hd, fun k x hk => ?_, fun g hg => (by cases hg)⟩, fun g hg => (by cases hg), ⟨fun _ => rfl, fun k => ?_⟩⟩
  · refine (hs hT s2 e1 ((e2 g (by simp)).trans hg)).eqv ⟨fun j => hi.1 j, fun k => ?_⟩
    rw [hi.2, eff_cons, lk_cons]
    rfl
  · have := hr hT k (by rintro rfl; exact e4 (by simp)) e1 (e2 g (by simp) ob hg)
    refine ⟨this.1, fun k' ob2 hk => ?_⟩
    rw [lk_cons] at hk
    split at hk
    · simp only [Option.some.injEq] at hk
      subst hk
      exact this.2
    · cases hk
  · rw [lk_cons] at hk
    split at hk
    · rename_i e; subst e; simp
    · cases hk
  · show lk own' k = _
    rw [he, eff_cons, lk_cons]
    rfl
/-- A step that looks at one own block. -/
theorem Step.read1 {g : Nat} {ob : OB} {r : AV} (ho : ops[i]? = some o) (hd : o.dst = some d) (hg : lk st.own g = some ob)
    (hs : T.Ok P → ∀ s2 : St, (∀ t ∈ o.looksAt ops, lk s2.t t = lk st.t t) → lk s2.own g = some ob → OpSem P n ops i s2 ⟨(d, r) :: s2.t, s2.own⟩)
    (hr : ∀ k, k ≠ g → r.refs k = false) : Step P T n ops i ⟨[g], [], []⟩ st ⟨(d, r) :: st.t, st.own⟩ := by
  intro hT
  refine ⟨o, some (d, r), [], ho, ⟨fun s2 s2' e1 e2 hf2 hi => ?_, fun k e1 e2 e3 e4 => ⟨fun q hq => ?_, fun k' ob2 hk => (by cases hk)⟩, fun q hq => (by obtain rfl := Option.some.inj hq; exact hd), fun k x hk => (by cases hk), fun g hg => (by cases hg)⟩, fun g hg => (by cases hg), ⟨fun _ => rfl, fun k => rfl⟩⟩
  · exact (hs hT s2 e1 ((e2 g (by simp)).trans hg)).eqv ⟨fun j => hi.1 j, fun k => hi.2 k⟩
  · obtain rfl := Option.some.inj hq
    exact hr k (by rintro rfl; exact e4 (by simp))

theorem onesB_app : ∀ {as bs : List AV}, onesB as = true → onesB bs = true → onesB (as ++ bs) = true
  | [], _, _, h => h
  | a :: as, bs, h, h' => by
    simp only [onesB, Bool.and_eq_true] at h
    simp only [List.cons_append, onesB, Bool.and_eq_true]
    exact ⟨h.1, onesB_app h.2 h'⟩
theorem onesB_rep {zs : List AV} (h : onesB zs = true) : ∀ m, onesB ((List.replicate m zs).flatten) = true
  | 0 => rfl
  | m + 1 => by
    rw [List.replicate_succ, List.flatten_cons]
    exact onesB_app h (onesB_rep h m)
theorem onesB_drop : ∀ (m : Nat) {as : List AV}, onesB as = true → onesB (as.drop m) = true
  | 0, _, h => h
  | m + 1, [], h => h
  | m + 1, a :: as, h => by
    simp only [onesB, Bool.and_eq_true] at h
    exact onesB_drop m h.2
theorem onesB_take : ∀ (m : Nat) {as : List AV}, onesB as = true → onesB (as.take m) = true
  | 0, _, _ => rfl
  | m + 1, [], h => h
  | m + 1, a :: as, h => by
    simp only [onesB, Bool.and_eq_true] at h
    simp only [List.take_succ_cons, onesB, Bool.and_eq_true]
    exact ⟨h.1, onesB_take m h.2⟩
/-- A part of an own row, as a value. -/
theorem osb_val {C : Ctx} {own : Own} {σ : Nat → Value} {Z : Nat → Prop} {w : World} (hI : Inv C own σ Z w) {g lo m q s N : Nat} {cs : List AV} {v : Value} (hg : lk own g = some (.row q s N cs)) (hv : (AV.osb g lo m s).Rep σ Z w v) :
    ∃ A c, v = .slice A m c ∧ m ≤ c ∧ N ≤ lo + c ∧ (0 < c → ∃ b, A = some ⟨b, lo * s, none⟩ ∧ blk (σ g) = some b) := by
  obtain ⟨A, c, A0, N', cap, q1, q2, q3, q4, q5, q6⟩ := hv
  have hN : N ≤ cap := by
    obtain ⟨xs, ho1, _⟩ := hI.has g _ hg
    rcases ho1.2 with ⟨e, A, e'⟩ | ⟨g', cap', cur, e, _, _, e2, _⟩
    · omega
    · rw [q2] at e; injection e with _ _ e3; omega
  refine ⟨A, c, q1, q4, by omega, fun h => ?_⟩
  obtain ⟨b, r1, r2⟩ := q6 h
  exact ⟨b, r2, by rw [q2, r1]; exact blk_slice (by omega)⟩

theorem clear_sem {t e s b g lo m q N : Nat} {x : Operand} {zs cs cs' : List AV} (hT : T.Ok P) (ho : ops[i]? = some o) (hg : o.guard = none) (hd : o.dst = none) (hop : o.op = .call { callee := .builtin .clear, args := #[x], argTypes := #[t] }) (hty : lk T.sli t = some (e, s, b)) (hz : lk T.zero e = some zs) (h1 : onesB zs = true)
    (hx : st.ev x = .osb g lo m s) (hob : lk st.own g = some (.row q s N cs)) (hset : setC cs (lo * s) ((List.replicate m zs).flatten) = some cs') : OpSem P n ops i st ⟨st.t, (g, .row q s N cs') :: st.own⟩ := by
  rintro C a w K Q ⟨h1', h2, σ, Z, hI, ht⟩ hK
  have hv := ev_rep ht x
  rw [hx] at hv
  obtain ⟨A, c, hv, hmc, _, hA⟩ := osb_val hI hob hv
  obtain ⟨hu, hs, i', z', hi1, hi2, hi3, hi4, hi5⟩ := sliT_spec (tbl_lk hT.sli hty)
  have h4' := tbl_lk hT.zero hz
  have hzr : AV.RepL σ Z w zs z'.cells.toList := by
    unfold zeroT at h4'
    simp only [hi1, hi2, Option.some.injEq] at h4'
    exact h4' ▸ liftZ_repL _ _ _ _
  have hz0 : ∀ k, AV.RepL σ Z w ((List.replicate k zs).flatten) ((List.replicate k z'.cells.toList).flatten) := fun k => by
    induction k with
    | zero => trivial
    | succ k ih => simpa [List.replicate_succ] using hzr.append ih
  have hzc : (Builtin.zeroCells z'.cells m).toList = (List.replicate m z'.cells.toList).flatten := by
    unfold Builtin.zeroCells
    rw [range_cells z'.cells m z'.cells.size rfl]
  have hzv : ∀ w, (zeroValue e).run P w = .ok z' w := fun w => by simp [zeroValue, typeInfo, hi1, hi2]
  have key : ∃ w', (Builtin.clear_ #[t] o.type #[.slice A m c]).run P w = .ok (.tuple #[]) w' ∧ Inv C ((g, .row q s N cs') :: st.own) σ Z w' ∧ Keeps Z w w' := by
    cases m with
    | zero =>
      have hcs : cs' = cs := by
        obtain ⟨_, e⟩ := setC_eq hset
        rw [e]
        simp
      subst hcs
      refine ⟨w, ?_, hI.same fun k => ?_, fun _ _ => rfl⟩
      · cases A <;> simp [Builtin.clear_, run_underlying hu]
      · rw [lk_cons]
        split
        · rename_i e; subst e; exact hob.symm
        · rfl
    | succ m =>
      obtain ⟨b', rfl, hb⟩ := hA (by omega)
      obtain ⟨w', hst, hI', hk⟩ := hI.store (P := P) hob hb hset (hz0 (m + 1)) (ones_rep (onesB_rep h1 (m + 1)) (hz0 (m + 1)))
      refine ⟨w', ?_, hI', hk⟩
      rw [← hzc] at hst
      simp [Builtin.clear_, run_underlying hu, hzv, hst]
  obtain ⟨w', hrun, hI', hk⟩ := key
  unfold wpOp
  simp only [ho]
  rw [if_pos (by simp [Region.wanted, hg])]
  refine .inl (wp_val (v := .tuple #[]) (w' := w') (by simp [execOp, hop, resolve, invoke, builtin, hv, hrun]) ?_)
  apply hK
  refine ⟨(put_defers ..).trans h1', by simp [Act.put, hd, h2], σ, Z, hI', ?_⟩
  simp only [Act.put, hd]
  exact ht.mono hk (fun _ h => h) (fun _ _ _ _ _ => rfl)

theorem appB_sem {t e s b g lo k j m q N : Nat} {x y : Operand} {cs cs' : List AV} (hT : T.Ok P) (ho : ops[i]? = some o) (hg : o.guard = none) (hd : o.dst = some d) (hn : d < n) (hop : o.op = .call { callee := .builtin .append, args := #[x, y], argTypes := #[t, t] }) (hty : lk T.sli t = some (e, s, b))
    (hx : st.ev x = .osb g lo k s) (hy : st.ev y = .osb g j m s) (hob : lk st.own g = some (.row q s N cs)) (h1 : onesB cs = true) (hroom : lo + k + m ≤ N) (hj : j + m ≤ N) (hset : setC cs ((lo + k) * s) ((cs.drop (j * s)).take (m * s)) = some cs') :
    OpSem P n ops i st ⟨(d, .osb g lo (k + m) s) :: st.t, (g, .row q s N cs') :: st.own⟩ := by
  rintro C a w K Q ⟨h1', h2, σ, Z, hI, ht⟩ hK
  have hv := ev_rep ht x
  rw [hx] at hv
  have hv0 := hv
  have hyv := ev_rep ht y
  rw [hy] at hyv
  obtain ⟨A, c, hv, hmc, hNc, hA⟩ := osb_val hI hob hv
  obtain ⟨B, c2, hyv, hmc2, hNc2, hB⟩ := osb_val hI hob hyv
  obtain ⟨hu, hs, i', z', hi1, hi2, hi3, hi4, hi5⟩ := sliT_spec (tbl_lk hT.sli hty)
  have hrep : ∀ w', Keeps Z w w' → (AV.osb g lo (k + m) s).Rep σ Z w' (.slice A (k + m) c) := by
    intro w' _
    obtain ⟨A', c', A0, N', cap, q1, q2, q3, q4, q5, q6⟩ := hv0
    rw [hv] at q1
    injection q1 with e1 e2 e3
    subst e1 e3
    exact ⟨A, c, A0, N', cap, rfl, q2, q3, by omega, q5, q6⟩
  have key : ∃ w', (Builtin.append_ #[t, t] o.type #[.slice A k c, .slice B m c2]).run P w = .ok (.slice A (k + m) c) w' ∧ Inv C ((g, .row q s N cs') :: st.own) σ Z w' ∧ Keeps Z w w' := by
    rcases Nat.eq_zero_or_pos m with rfl | hm
    · have hcs : cs' = cs := by
        obtain ⟨_, e⟩ := setC_eq hset
        rw [e]
        simp
      subst hcs
      have hfc : ∀ w, (Builtin.firstCells i'.size 0 (.slice B 0 c2)).run P w = .ok #[] w := fun w => by cases B <;> simp [Builtin.firstCells, loadCells, loadCellsFrom]
      refine ⟨w, ?_, hI.same fun k => ?_, fun _ _ => rfl⟩
      · cases A <;> simp [Builtin.append_, run_underlying hu, sizeOf, typeInfo, hi1, Builtin.lenOf, hfc, hmc, storeCells]
      · rw [lk_cons]
        split
        · rename_i e; subst e; exact hob.symm
        · rfl
    · obtain ⟨b', rfl, hb⟩ := hA (by omega)
      obtain ⟨b2, rfl, hb2⟩ := hB (by omega)
      obtain rfl : b2 = b' := Option.some.inj (hb2.symm.trans hb)
      obtain ⟨us, hus, hcell⟩ := ob_cells (hI.has g _ hob) hb
      simp only [OB.cells] at hus
      have hcl : cs.length = N * s := by
        obtain ⟨xs, ho1, hr1⟩ := hI.has g _ hob
        rw [← hr1.length]
        exact ho1.1
      have hul := hus.length
      have hns : (j + m) * s ≤ N * s := Nat.mul_le_mul_right s hj
      have hnr : AV.RepL σ Z w ((cs.drop (j * s)).take (m * s)) ((us.drop (j * s)).take (m * s)) := (hus.drop _).take _
      obtain ⟨w', hst, hI', hk⟩ := hI.store (P := P) hob hb hset hnr (ones_rep (onesB_take _ (onesB_drop _ h1)) hnr)
      refine ⟨w', ?_, hI', hk⟩
      have hl : ((us.drop (j * s)).take (m * s)).length = m * i'.size := by
        rw [List.length_take, List.length_drop, hul, hcl, hi3]
        rw [Nat.add_mul] at hns
        omega
      have hfc := run_firstCells_some (P := P) w i'.size m ⟨b2, j * s, none⟩ m c2 ((us.drop (j * s)).take (m * s)) hl (fun t u hu => by
        rw [Addr.add_lit]
        rw [List.getElem?_take] at hu
        split at hu
        · rw [List.getElem?_drop] at hu
          exact hcell _ _ hu
        · cases hu)
      have hroom' : k + m ≤ c := by omega
      rw [Nat.add_mul, ← hi3] at hst
      rw [← hi3] at hfc ⊢
      simp [Builtin.append_, run_underlying hu, sizeOf, typeInfo, hi1, Builtin.lenOf, hroom', hfc, Addr.add_lit, hst]
  obtain ⟨w', hrun, hI', hk⟩ := key
  unfold wpOp
  simp only [ho]
  rw [if_pos (by simp [Region.wanted, hg])]
  refine .inl (wp_val (v := .slice A (k + m) c) (w' := w') (by simp [execOp, hop, resolve, invoke, builtin, hv, hyv, hrun]) ?_)
  apply hK
  refine ⟨(put_defers ..).trans h1', by simp [Act.put, hd, h2], σ, Z, hI', ?_⟩
  simp only [Act.put, hd]
  exact Temps.put (ht.mono hk (fun _ h => h) (fun _ _ _ _ _ => rfl)) (by omega) (hrep w' hk)

theorem sl3_sem {t e s b g q N : Nat} {x lo hi mx : Operand} {l h M : Nat} {k1 k2 k3 : IntKind} {cs : List AV} (hT : T.Ok P) (ho : ops[i]? = some o) (hg : o.guard = none) (hd : o.dst = some d) (hn : d < n) (hop : o.op = .slice t x (some lo) (some hi) (some mx)) (hty : lk T.sli t = some (e, s, b))
    (hx : st.ev x = .osl g) (hob : lk st.own g = some (.row q s N cs)) (hlo : st.ev lo = .fv (.int k1 l)) (hhi : st.ev hi = .fv (.int k2 h)) (hmx : st.ev mx = .fv (.int k3 M)) (h1 : l ≤ h) (h2 : h ≤ M) (h3 : M ≤ N) : OpSem P n ops i st ⟨(d, .any) :: st.t, st.own⟩ := by
  rintro C a w K Q ⟨h1', h2', σ, Z, hI, ht⟩ hK
  have hv := ev_rep ht x
  rw [hx] at hv
  obtain ⟨A, c, A0, N', cap, hv, _, _, hc, _⟩ := row_slice (hI.has g _ hob) hv
  have e1 := val_int (hlo ▸ ev_rep ht lo)
  have e2 := val_int (hhi ▸ ev_rep ht hi)
  have e3 := val_int (hmx ▸ ev_rep ht mx)
  obtain ⟨hu, hs, i', z', hi1, hi2, hi3, hi4, hi5⟩ := sliT_spec (tbl_lk hT.sli hty)
  have p1 : (M : Int) ≤ (c : Int) := by omega
  have p2 : (h : Int) ≤ (M : Int) := by omega
  have p3 : (l : Int) ≤ (h : Int) := by omega
  have hrun : (execOp a.eval o).run P w = .ok (.value (.slice (if M = l then A else A.map (·.add (l * s))) (h - l) (M - l))) w := by
    simp [execOp, hop, hv, e1, e2, e3, Instr.sliceAt, Instr.slice, run_underlying hu, Instr.sliceBounds, run_sliceBound, p1, p2, p3, sizeOf, typeInfo, hi1, hi3]
  unfold wpOp
  simp only [ho]
  rw [if_pos (by simp [Region.wanted, hg])]
  refine .inl (wp_val (w' := w) hrun ?_)
  apply hK
  refine ⟨(put_defers ..).trans h1', by simp [Act.put, hd, h2'], σ, Z, hI, ?_⟩
  simp only [Act.put, hd]
  exact ht.put_any _
end

section
variable {P : Program} {T : Tbl} {n i : Nat} {ops : Array Oper} {l : List Oper} {fps : List Fp} {K : St → Prop} {tt : List (Nat × AV)} {H H' : Own} {o : Oper} {d : Nat}
theorem ev_at {st s2 : St} {x : Operand} (e1 : ∀ t ∈ o.looksAt ops, lk s2.t t = lk st.t t) (hm : x ∈ o.op.operands) : s2.ev x = st.ev x := ev_looks e1 x hm
theorem Ops.clr {t e s b g lo m q N : Nat} {x : Operand} {zs cs cs' : List AV} (hg : o.guard = none) (hd : o.dst = none) (hop : o.op = .call { callee := .builtin .clear, args := #[x], argTypes := #[t] }) (hty : lk T.sli t = some (e, s, b)) (hz : lk T.zero e = some zs) (h1 : onesB zs = true)
    (hx : evO tt x = some (.osb g lo m s)) (hob : lk H g = some (.row q s N cs)) (hset : setC cs (lo * s) ((List.replicate m zs).flatten) = some cs') (hrep : Repl g (.row q s N cs) (.row q s N cs') H H')
    (hK : OpsL P T n ops (i + 1) l fps K ⟨tt, H'⟩) : OpsL P T n ops i (o :: l) (⟨[g], [g], []⟩ :: fps) K ⟨tt, H⟩ :=
  ⟨_, _, rfl, fun ho => ⟨_, Step.own1 (p := none) (ob := .row q s N cs) (ob' := .row q s N cs') ho (fun q hq => by cases hq) hob
    (fun hT s2 e1 hg2 => clear_sem hT ho hg hd hop hty hz h1 ((ev_at e1 (by rw [hop]; simp [Op.operands, Call.operands])).trans (evO_ev (st := ⟨tt, H⟩) hx)) hg2 hset)
    (fun hT k hk _ hc => ⟨fun q hq => (by cases hq), by
      obtain ⟨_, e⟩ := setC_eq hset
      simp only [OB.cells] at hc ⊢
      rw [e]
      exact refsL_append (refsL_append (refsL_take _ hc) (refsL_flatten (zeroT_refs (tbl_lk hT.zero hz)) m)) (refsL_drop _ hc)⟩)
    hrep.lk.2, hK.out⟩⟩
theorem Ops.appB {t e s b g lo k j m q N : Nat} {x y : Operand} {cs cs' : List AV} (hg : o.guard = none) (hd : o.dst = some d) (hn : Nat.blt d n = true) (hop : o.op = .call { callee := .builtin .append, args := #[x, y], argTypes := #[t, t] }) (hty : lk T.sli t = some (e, s, b))
    (hx : evO tt x = some (.osb g lo k s)) (hy : evO tt y = some (.osb g j m s)) (hob : lk H g = some (.row q s N cs)) (h1 : onesB cs = true) (hroom : lo + k + m ≤ N) (hj : j + m ≤ N) (hset : setC cs ((lo + k) * s) ((cs.drop (j * s)).take (m * s)) = some cs') (hrep : Repl g (.row q s N cs) (.row q s N cs') H H')
    (hK : OpsL P T n ops (i + 1) l fps K ⟨(d, .osb g lo (k + m) s) :: tt, H'⟩) : OpsL P T n ops i (o :: l) (⟨[g], [g], []⟩ :: fps) K ⟨tt, H⟩ :=
  ⟨_, _, rfl, fun ho => ⟨_, Step.own1 (p := some (d, .osb g lo (k + m) s)) (ob := .row q s N cs) (ob' := .row q s N cs') ho (fun q hq => by obtain rfl := Option.some.inj hq; exact hd) hob
    (fun hT s2 e1 hg2 => appB_sem hT ho hg hd (by simpa [Nat.blt_eq] using hn) hop hty ((ev_at e1 (by rw [hop]; simp [Op.operands, Call.operands])).trans (evO_ev (st := ⟨tt, H⟩) hx)) ((ev_at e1 (by rw [hop]; simp [Op.operands, Call.operands])).trans (evO_ev (st := ⟨tt, H⟩) hy)) hg2 h1 hroom hj hset)
    (fun hT k hk _ hc => ⟨fun q hq => by
      obtain rfl := Option.some.inj hq
      simp only [AV.refs]
      cases e : Nat.beq g k with
      | false => rfl
      | true => exact absurd (Nat.eq_of_beq_eq_true e).symm hk, by
      obtain ⟨_, e⟩ := setC_eq hset
      simp only [OB.cells] at hc ⊢
      rw [e]
      exact refsL_append (refsL_append (refsL_take _ hc) (refsL_take _ (refsL_drop _ hc))) (refsL_drop _ hc)⟩)
    hrep.lk.2, hK.out⟩⟩
theorem Ops.sl3 {t e s b g q N : Nat} {x lo hi mx : Operand} {l' h M : Nat} {k1 k2 k3 : IntKind} {cs : List AV} (hg : o.guard = none) (hd : o.dst = some d) (hn : Nat.blt d n = true) (hop : o.op = .slice t x (some lo) (some hi) (some mx)) (hty : lk T.sli t = some (e, s, b))
    (hx : evO tt x = some (.osl g)) (hob : lk H g = some (.row q s N cs)) (hlo : evO tt lo = some (.fv (.int k1 l'))) (hhi : evO tt hi = some (.fv (.int k2 h))) (hmx : evO tt mx = some (.fv (.int k3 M))) (h1 : l' ≤ h) (h2 : h ≤ M) (h3 : M ≤ N)
    (hK : OpsL P T n ops (i + 1) l fps K ⟨(d, .any) :: tt, H⟩) : OpsL P T n ops i (o :: l) (⟨[g], [], []⟩ :: fps) K ⟨tt, H⟩ :=
  ⟨_, _, rfl, fun ho => ⟨_, Step.read1 (r := .any) (ob := .row q s N cs) ho hd hob
    (fun hT s2 e1 hg2 => sl3_sem hT ho hg hd (by simpa [Nat.blt_eq] using hn) hop hty ((ev_at e1 (by rw [hop]; simp [Op.operands])).trans (evO_ev (st := ⟨tt, H⟩) hx)) hg2 ((ev_at e1 (by rw [hop]; simp [Op.operands])).trans (evO_ev (st := ⟨tt, H⟩) hlo)) ((ev_at e1 (by rw [hop]; simp [Op.operands])).trans (evO_ev (st := ⟨tt, H⟩) hhi)) ((ev_at e1 (by rw [hop]; simp [Op.operands])).trans (evO_ev (st := ⟨tt, H⟩) hmx)) h1 h2 h3)
    (fun _ _ => rfl), hK.out⟩⟩
end

theorem FunO.bodyL {P : Program} {T : Tbl} {f : FuncId} {fn : Func} {c : Code} {n : Nat} {args : List AV} {own own' : Own} {r : AV} (hT : T.Ok P) (hf : P.funcs[f]? = some fn) (hb : fn.body = some c) (hen : enterB P f = true) (hn : fn.ntmps = n) (hargs : Nat.ble args.length n = true) {rvs : List ResultVar} (hrv : fn.results.toList = rvs)
    (h : WP P n c (Post T rvs fun r' o' => r' = r ∧ leH o' own') ⟨argT 0 args, own⟩) : FunO P f args own r own' := by
  have ht := Triple.body (Q := fun r' o' => r' = r ∧ leH o' own') hT hf hb hen hn hargs hrv h
  refine ⟨ht.1, fun σ Z w vs hI hr => (ht.2 σ Z w vs hI hr).mono ?_⟩
  rintro e w' ⟨v, r', o', σ', Z', rfl, ⟨rfl, hle⟩, hI', hr'⟩
  exact ⟨v, r', own', σ', Z', rfl, ⟨rfl, rfl⟩, hI'.le (fun g ob h => leH_lk hle h), hr'⟩
theorem Post.ofL {T : Tbl} {rvs : List ResultVar} {r : AV} {own' : Own} {e : Exit} {s s' : St} {rs : List AV} (he : e = .ret ∨ e = .normal) (hle : St.Le s s') (h1 : retL T s' rvs = some rs) (h2 : retA rs = r) (h3 : leH s'.own own') : Post T rvs (fun r' o' => r' = r ∧ leH o' own') e s := by
  rcases he with rfl | rfl <;> exact ⟨s', hle, rs, h1, h2, h3⟩
/-- Frozen, its cells and its length said otherwise. -/
theorem AV.To.frzE {φ : List (Nat × Whence)} {F : List Nat} {H : Own} {g e s n n' : Nat} {us : List FV} {cs : List AV} (h : lk H g = some (.row e s n cs)) (hn : n = n') (hc : cs = us.map .fv) (hF : (F.contains g) = true) : AV.To φ F H (.osl g) (.fv (.sl us n')) := by
  subst hn
  exact .frz h hc hF
theorem AV.To.frbE {φ : List (Nat × Whence)} {F : List Nat} {H : Own} {g e s N n n' : Nat} {us vs : List FV} {cs : List AV} (h : lk H g = some (.row e s N cs)) (hn : n = n') (hc : cs.take (n * s) = us.map .fv) (h2 : n ≤ N) (hF : (F.contains g) = true) (hvs : cs = vs.map .fv := by rfl) : AV.To φ F H (.osb g 0 n s) (.fv (.sl us n')) := by
  subst hn
  have h3 := AV.To.frb (φ := φ) (F := F) (H := H) (lo := 0) (n := n) h hvs (by omega) hF
  rw [Nat.zero_mul, List.drop_zero] at h3
  have : vs.take (n * s) = us := by
    rw [hvs, ← List.map_take] at hc
    exact (List.map_inj_right (fun a b h => by injection h)).1 hc
  rwa [this] at h3

section
variable {P : Program} {T : Tbl} {n i : Nat} {ops : Array Oper} {st : St} {o : Oper} {d : Nat}
theorem gst_sem {oj : Oper} {j t : Nat} {want : Bool} {c : Prop} {ag r : AV} {ρ : Operand → AV} (hT : T.Ok P) (ho : ops[i]? = some o) (hg : o.guard = some (j, want)) (hd : o.dst = some d) (hdn : d < n) (hoj : ops[j]? = some oj) (hjt : oj.dst = some t) (htn : t < n) (hb : lk st.t t = some ag) (hgv : GVal want ag c)
    (hE : c → (∀ x ∈ o.op.operands, Und c (st.ev x) (ρ x)) ∧ LEff P T ρ st.own d o.op r []) : OpSem P n ops i st ⟨(d, .whn c r) :: st.t, st.own⟩ := by
  rintro C a w K Q ⟨h1, h2, σ, Z, hI, ht⟩ hK
  have h3 := ht t _ hb
  have hspec := hgv.spec h3
  have hlt : t < a.tmps.size := by omega
  have hval : a.tmps[t]? = some (a.tmps.getD t undef) := by simp [Array.getD, hlt]
  have hy : Region.wanted o (yielded ops a.tmps) = true ↔ c := by
    rw [hspec]
    simp only [Region.wanted, hg, yielded, hoj, hjt, Option.bind_some, hval]
    cases a.tmps.getD t undef <;> simp
  unfold wpOp
  simp only [ho]
  by_cases hc : c
  · rw [if_pos (hy.2 hc)]
    classical
    obtain ⟨hgo, hE⟩ := hE hc
    have hE' : LEff P T (fun x => if x ∈ o.op.operands then ρ x else .any) st.own d o.op r [] := LEff.cut hE
    refine .inl (hE'.sound hT (fun x => ?_) hI (fun p hp => by cases hp) ?_)
    · by_cases hx : x ∈ o.op.operands
      · simp only [hx, if_true]; exact (hgo x hx).1 hc _ _ _ _ (ev_rep ht x)
      · simp only [hx, if_false]; trivial
    intro v w' σ' Z' hI' hz hk hs hrv
    apply hK
    refine ⟨(put_defers ..).trans h1, by simp [Act.put, hd, h2], σ', Z', hI', ?_⟩
    simp only [Act.put, hd]
    exact (temps_mono (A := []) ht hz hk hs (fun p hp => by cases hp)).put (by omega) ⟨fun _ => hrv, fun h => absurd hc h⟩
  · rw [if_neg (fun h => hc (hy.1 h))]
    apply hK
    refine ⟨(put_defers ..).trans h1, by simp [Act.put, hd, h2], σ, Z, hI, ?_⟩
    simp only [Act.put, hd]
    exact ht.put (by omega) ⟨fun h => absurd h hc, fun _ => rfl⟩
/-- A step that looks at one own block, and may take names out of it. -/
theorem Step.read2 {g : Nat} {ob : OB} {r : AV} (ho : ops[i]? = some o) (hd : o.dst = some d) (hg : lk st.own g = some ob)
    (hs : T.Ok P → ∀ s2 : St, (∀ t ∈ o.looksAt ops, lk s2.t t = lk st.t t) → lk s2.own g = some ob → OpSem P n ops i s2 ⟨(d, r) :: s2.t, s2.own⟩)
    (hr : ∀ k, k ≠ g → AV.refsL k ob.cells = false → r.refs k = false) : Step P T n ops i ⟨[g], [], []⟩ st ⟨(d, r) :: st.t, st.own⟩ := by
  intro hT
  refine ⟨o, some (d, r), [], ho, ⟨fun s2 s2' e1 e2 hf2 hi => ?_, fun k e1 e2 e3 e4 => ⟨fun q hq => ?_, fun k' ob2 hk => (by cases hk)⟩, fun q hq => (by obtain rfl := Option.some.inj hq; exact hd), fun k x hk => (by cases hk), fun g hg => (by cases hg)⟩, fun g hg => (by cases hg), ⟨fun _ => rfl, fun k => rfl⟩⟩
  · exact (hs hT s2 e1 ((e2 g (by simp)).trans hg)).eqv ⟨fun j => hi.1 j, fun k => hi.2 k⟩
  · obtain rfl := Option.some.inj hq
    by_cases hk : k = g
    · exact absurd (by simp [hk]) e4
    · exact hr k hk (e2 g (by simp) ob hg)
end
section
variable {P : Program} {T : Tbl} {n i : Nat} {ops : Array Oper} {l : List Oper} {fps : List Fp} {K : St → Prop} {tt : List (Nat × AV)} {H H' : Own} {o : Oper} {d : Nat}
/-- A load under a guard, out of a block of the call's own. -/
theorem Ops.gld {oj : Oper} {j tj ty g off : Nat} {want : Bool} {ag r : AV} {c : Prop} {x : Operand} {ob : OB} (hg : o.guard = some (j, want)) (hd : o.dst = some d) (hn : Nat.blt d n = true) (hj : ops[j]? = some oj) (hdj : oj.dst = some tj) (hnj : Nat.blt tj n = true) (hb : lk tt tj = some ag) (hgv : GVal want ag c)
    (hop : o.op = .load ty x) (hx : evG tt x = some (.optr g off)) (hgo : c → gok c (St.ev ⟨tt, H⟩ x)) (hob : lk H g = some ob) (hr : readA T ty off ob.cells = some r)
    (hK : OpsL P T n ops (i + 1) l fps K ⟨(d, .whn c r) :: tt, H⟩) : OpsL P T n ops i (o :: l) (⟨[g], [], []⟩ :: fps) K ⟨tt, H⟩ :=
  ⟨_, _, rfl, fun ho => ⟨_, Step.read2 (r := .whn c r) (ob := ob) ho hd hob
    (fun hT s2 e1 hg2 => gst_sem (ρ := fun x => (s2.ev x).strip) hT ho hg hd (by simpa [Nat.blt_eq] using hn) hj hdj (by simpa [Nat.blt_eq] using hnj) ((e1 tj (List.mem_append_right _ (by simp [hg, hj, hdj]))).trans hb) hgv (fun hc => by
      have hm : x ∈ o.op.operands := by rw [hop]; simp [Op.operands]
      have he : s2.ev x = St.ev ⟨tt, H⟩ x := ev_at e1 hm
      have hs : (s2.ev x).strip = .optr g off := by rw [he]; exact evG_ev (st := ⟨tt, H⟩) hx
      refine ⟨fun y hy => ?_, ?_⟩
      · obtain rfl : y = x := by rw [hop] at hy; simpa [Op.operands] using hy
        exact .strip (by rw [he]; exact hgo hc)
      · rw [hop]
        exact .eff (.loadO hs hg2 hr)))
    (fun k hk hc => by
      simp only [AV.refs]
      exact readB_refs (readA_eq hr) (refsL_drop _ hc)), hK.out⟩⟩
end
/-- Where ways meet again: one family of states for all of them. -/
theorem WP.join {P : Program} {n : Nat} {ι : Type} {x y : Code} {Q Q' : Exit → St → Prop} {st : St} (I : ι → St) (p : ι → Prop) (h1 : WP P n x (thenQ (fun s => ∃ i, p i ∧ St.Le s (I i)) Q) st) (h2 : ∀ i, p i → WP P n y Q' (I i)) : WP P n x (thenQ (WP P n y Q') Q) st := by
  refine h1.mono fun e s h => ?_
  cases e with
  | normal =>
    obtain ⟨i, hp, hle⟩ := h
    exact .le hle (h2 i hp)
  | _ => exact h
end Go.Proofs.Ytdbbmjdeeenlhaa
