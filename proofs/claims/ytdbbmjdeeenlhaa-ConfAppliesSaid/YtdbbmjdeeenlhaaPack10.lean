/- Copies in memory of their own; what is cut out of a row. -/
import Derived.Test.YtdbbmjdeeenlhaaPack09
import Derived.Test.YtdbbmjdeeenlhaaPack06
import Derived.Test.YtdbbmjdeeenlhaaPack08
import Derived.Test.YtdbbmjdeeenlhaaPack07
namespace Go.Proofs.Ytdbbmjdeeenlhaa
open Go.RowKit
set_option maxRecDepth 100000

theorem cloneSw_T (l : List Sw) (hl : l.length * 24 ≤ 140737488355328) : FunO Try.prog 71 [.fv (slOf encSw l)] [] (.osl 7) [(7, .row 52 3 l.length ((l.flatMap encSw).map .fv))] := by
  refine FunO.bodyL tbl_ok Try.func71 rfl (by kernel_rfl) rfl rfl rfl ?_
  rcases Nat.eq_zero_or_pos l.length with h0 | h0
  · obtain rfl := List.eq_nil_of_length_eq_zero h0
    repeat' (first
      | (apply Ops.loc; (· rfl); (· rfl); (· rfl); (· first | exact .eff (.mv rfl) | exact .eff (.asg rfl) | exact .eff (.isNilZ rfl rfl rfl)))
      | with_reducible refine WP.seq ?_
      | with_reducible apply WP.reg tbl_ok rfl
      | with_reducible refine Ops.nil ?_
      | with_reducible refine thenQ.nor ?_
      | with_reducible refine thenQ.ret ?_
      | with_reducible refine WP.skip ?_
      | with_reducible refine WP.ret ?_
      | (refine WP.condBit rfl ?_ ?_)
      | (apply Ops.new; (· rfl); (· rfl); (· rfl); (· first | exact .eff (.box rfl) | exact .eff (.alloc rfl) | exact .eff (.bsliceS rfl rfl rfl rfl rfl) | exact .eff (.mkS rfl rfl rfl rfl (by omega) (by omega)) | exact .eff (.zeroS rfl rfl (by intro l hl; first | cases hl | exact ⟨_, by injection hl with hl; subst hl; rfl⟩) rfl rfl rfl)); (· first | rfl | (simp only [freshB, noRefH, OB.cells, refsL_fv, refsL_app]; rfl)))
      | (apply Ops.app; (· rfl); (· rfl); (· rfl); (· rfl); (· rfl); (· rfl); (· rfl); (· exact (by first | exact .nil | exact .own rfl (rmv_q (by first | exact (rfl : _ = []) | exact (rfl : _ = [_]) | exact (rfl : _ = [_, _]) | exact (rfl : _ = [_, _, _]) | exact (rfl : _ = [_, _, _, _]) | exact (rfl : _ = [_, _, _, _, _]) | exact (rfl : _ = [_, _, _, _, _, _]) | exact (rfl : _ = [_, _, _, _, _, _, _]) | exact (rfl : _ = [_, _, _, _, _, _, _, _]) | exact (rfl : _ = [_, _, _, _, _, _, _, _, _]) | exact (rfl : _ = [_, _, _, _, _, _, _, _, _, _]) | exact (rfl : _ = [_, _, _, _, _, _, _, _, _, _, _]) | exact (rfl : _ = [_, _, _, _, _, _, _, _, _, _, _, _]))))); (· exact .fz (by first | exact flatMap_len encSw_len _ | exact flatMap_len encPo_len _ | exact flatMap_len encAc_len _ | exact flatMap_len encMx_len _ | exact flatMap_len encDx_len _ | exact flatMap_len encFl_len _ | exact flatMap_len encSnt_len _ | exact flatMap_len encB_len _ | exact flatMap_len encRw_len _ | exact flatMap_len encAr_len _ | exact flatMap_len encGo_len _)); (· rfl); (· show (_ : Nat) ≤ 140737488355328; omega); (· first | rfl | (simp only [freshB, noRefH, OB.cells, refsL_fv, refsL_app]; rfl)))
      | fail)
    all_goals (try exact ([] : List Fp))
    · skip
      refine .ofL (s' := ⟨[(2, .osl 7)], [(7, .row 52 3 0 [])]⟩) (by first | exact .inl rfl | exact .inr rfl) ?_ rfl rfl (by repeat' (first | exact trivial | refine ⟨⟨_, rfl, fun _ _ _ _ h => h⟩, ?_⟩))
      refine St.to [(7, .nil)] [] rfl rfl ?_ ?_ <;> (repeat' (first | exact trivial | with_reducible rfl | exact .any | exact .ptr rfl | exact .sl rfl | exact .ptr0 rfl | exact .sl0 rfl | exact AV.To.nil rfl | exact .frz rfl rfl rfl | exact .frb rfl rfl (by omega) rfl | exact .frp rfl rfl rfl | refine AV.To.agg ?_ | refine AV.To.tup ?_ | exact .le (.refl _) rfl | exact .le AV.Le.nil rfl | refine AV.To.frzE rfl ?_ ?_ rfl | refine AV.To.frbE rfl ?_ ?_ (by omega) rfl | refine .le (.of_eq ?_) rfl | exact AV.ToL.nil | refine AV.ToL.cons ?_ ?_ | refine .ofEq ?_ | exact OB.To.nil rfl | refine OB.To.row rfl rfl ?_ ?_ | refine OB.To.cut rfl rfl ?_ ?_ ?_ ?_ | refine OB.To.box rfl rfl ?_ | refine ⟨⟨_, rfl, ?_⟩, ?_⟩ | refine ⟨?_, ?_⟩ | fail))
    · skip
      refine .ofL (s' := ⟨[(2, .osl 7)], [(7, .row 52 3 0 [])]⟩) (by first | exact .inl rfl | exact .inr rfl) ?_ rfl rfl (by repeat' (first | exact trivial | refine ⟨⟨_, rfl, fun _ _ _ _ h => h⟩, ?_⟩))
      refine St.to [(7, .id 7)] [] rfl rfl ?_ ?_ <;> (repeat' (first | exact trivial | with_reducible rfl | exact .any | exact .ptr rfl | exact .sl rfl | exact .ptr0 rfl | exact .sl0 rfl | exact AV.To.nil rfl | exact .frz rfl rfl rfl | exact .frb rfl rfl (by omega) rfl | exact .frp rfl rfl rfl | refine AV.To.agg ?_ | refine AV.To.tup ?_ | exact .le (.refl _) rfl | exact .le AV.Le.nil rfl | refine AV.To.frzE rfl ?_ ?_ rfl | refine AV.To.frbE rfl ?_ ?_ (by omega) rfl | refine .le (.of_eq ?_) rfl | exact AV.ToL.nil | refine AV.ToL.cons ?_ ?_ | refine .ofEq ?_ | exact OB.To.nil rfl | refine OB.To.row rfl rfl ?_ ?_ | refine OB.To.cut rfl rfl ?_ ?_ ?_ ?_ | refine OB.To.box rfl rfl ?_ | refine ⟨⟨_, rfl, ?_⟩, ?_⟩ | refine ⟨?_, ?_⟩ | fail))
      rfl
  · skip
    repeat' (first
      | (apply Ops.loc; (· rfl); (· rfl); (· rfl); (· first | exact .eff (.isNilF rfl (by omega) rfl (by first | exact flatMap_len encSw_len _ | exact flatMap_len encPo_len _ | exact flatMap_len encAc_len _ | exact flatMap_len encMx_len _ | exact flatMap_len encDx_len _ | exact flatMap_len encFl_len _ | exact flatMap_len encSnt_len _ | exact flatMap_len encB_len _ | exact flatMap_len encRw_len _ | exact flatMap_len encAr_len _ | exact flatMap_len encGo_len _)) | exact .eff (.mv rfl) | exact .eff (.asg rfl)))
      | with_reducible refine WP.seq ?_
      | with_reducible apply WP.reg tbl_ok rfl
      | with_reducible refine Ops.nil ?_
      | with_reducible refine thenQ.nor ?_
      | with_reducible refine WP.skip ?_
      | with_reducible refine WP.ret ?_
      | refine WP.condF rfl ?_
      | (apply Ops.new; (· rfl); (· rfl); (· rfl); (· first | exact .eff (.box rfl) | exact .eff (.alloc rfl) | exact .eff (.bsliceS rfl rfl rfl rfl rfl) | exact .eff (.mkS rfl rfl rfl rfl (by omega) (by omega)) | exact .eff (.zeroS rfl rfl (by intro l hl; first | cases hl | exact ⟨_, by injection hl with hl; subst hl; rfl⟩) rfl rfl rfl)); (· first | rfl | (simp only [freshB, noRefH, OB.cells, refsL_fv, refsL_app]; rfl)))
      | (apply Ops.app; (· rfl); (· rfl); (· rfl); (· rfl); (· rfl); (· rfl); (· rfl); (· exact (by first | exact .nil | exact .own rfl (rmv_q (by first | exact (rfl : _ = []) | exact (rfl : _ = [_]) | exact (rfl : _ = [_, _]) | exact (rfl : _ = [_, _, _]) | exact (rfl : _ = [_, _, _, _]) | exact (rfl : _ = [_, _, _, _, _]) | exact (rfl : _ = [_, _, _, _, _, _]) | exact (rfl : _ = [_, _, _, _, _, _, _]) | exact (rfl : _ = [_, _, _, _, _, _, _, _]) | exact (rfl : _ = [_, _, _, _, _, _, _, _, _]) | exact (rfl : _ = [_, _, _, _, _, _, _, _, _, _]) | exact (rfl : _ = [_, _, _, _, _, _, _, _, _, _, _]) | exact (rfl : _ = [_, _, _, _, _, _, _, _, _, _, _, _]))))); (· exact .fz (by first | exact flatMap_len encSw_len _ | exact flatMap_len encPo_len _ | exact flatMap_len encAc_len _ | exact flatMap_len encMx_len _ | exact flatMap_len encDx_len _ | exact flatMap_len encFl_len _ | exact flatMap_len encSnt_len _ | exact flatMap_len encB_len _ | exact flatMap_len encRw_len _ | exact flatMap_len encAr_len _ | exact flatMap_len encGo_len _)); (· rfl); (· show (_ : Nat) ≤ 140737488355328; omega); (· first | rfl | (simp only [freshB, noRefH, OB.cells, refsL_fv, refsL_app]; rfl)))
      | fail)
    all_goals (try exact ([] : List Fp))
    refine .ofL (s' := ⟨[(2, .osl 7)], [(7, .row 52 3 l.length ((l.flatMap encSw).map .fv))]⟩) (by first | exact .inl rfl | exact .inr rfl) ?_ rfl rfl (by repeat' (first | exact trivial | refine ⟨⟨_, rfl, fun _ _ _ _ h => h⟩, ?_⟩))
    refine St.to [(7, .id 7)] [] rfl rfl ?_ ?_ <;> (repeat' (first | exact trivial | with_reducible rfl | exact .any | exact .ptr rfl | exact .sl rfl | exact .ptr0 rfl | exact .sl0 rfl | exact AV.To.nil rfl | exact .frz rfl rfl rfl | exact .frb rfl rfl (by omega) rfl | exact .frp rfl rfl rfl | refine AV.To.agg ?_ | refine AV.To.tup ?_ | exact .le (.refl _) rfl | exact .le AV.Le.nil rfl | refine AV.To.frzE rfl ?_ ?_ rfl | refine AV.To.frbE rfl ?_ ?_ (by omega) rfl | refine .le (.of_eq ?_) rfl | exact AV.ToL.nil | refine AV.ToL.cons ?_ ?_ | refine .ofEq ?_ | exact OB.To.nil rfl | refine OB.To.row rfl rfl ?_ ?_ | refine OB.To.cut rfl rfl ?_ ?_ ?_ ?_ | refine OB.To.box rfl rfl ?_ | refine ⟨⟨_, rfl, ?_⟩, ?_⟩ | refine ⟨?_, ?_⟩ | fail))
    all_goals first | omega | simp
theorem clonePo_T (l : List Po) (hl : l.length * 40 ≤ 140737488355328) : FunO Try.prog 48 [.fv (slOf encPo l)] [] (.osl 7) [(7, .row 54 5 l.length ((l.flatMap encPo).map .fv))] := by
  refine FunO.bodyL tbl_ok Try.func48 rfl (by kernel_rfl) rfl rfl rfl ?_
  rcases Nat.eq_zero_or_pos l.length with h0 | h0
  · obtain rfl := List.eq_nil_of_length_eq_zero h0
    repeat' (first
      | (apply Ops.loc; (· rfl); (· rfl); (· rfl); (· first | exact .eff (.mv rfl) | exact .eff (.asg rfl) | exact .eff (.isNilZ rfl rfl rfl)))
      | with_reducible refine WP.seq ?_
      | with_reducible apply WP.reg tbl_ok rfl
      | with_reducible refine Ops.nil ?_
      | with_reducible refine thenQ.nor ?_
      | with_reducible refine thenQ.ret ?_
      | with_reducible refine WP.skip ?_
      | with_reducible refine WP.ret ?_
      | (refine WP.condBit rfl ?_ ?_)
      | (apply Ops.new; (· rfl); (· rfl); (· rfl); (· first | exact .eff (.box rfl) | exact .eff (.alloc rfl) | exact .eff (.bsliceS rfl rfl rfl rfl rfl) | exact .eff (.mkS rfl rfl rfl rfl (by omega) (by omega)) | exact .eff (.zeroS rfl rfl (by intro l hl; first | cases hl | exact ⟨_, by injection hl with hl; subst hl; rfl⟩) rfl rfl rfl)); (· first | rfl | (simp only [freshB, noRefH, OB.cells, refsL_fv, refsL_app]; rfl)))
      | (apply Ops.app; (· rfl); (· rfl); (· rfl); (· rfl); (· rfl); (· rfl); (· rfl); (· exact (by first | exact .nil | exact .own rfl (rmv_q (by first | exact (rfl : _ = []) | exact (rfl : _ = [_]) | exact (rfl : _ = [_, _]) | exact (rfl : _ = [_, _, _]) | exact (rfl : _ = [_, _, _, _]) | exact (rfl : _ = [_, _, _, _, _]) | exact (rfl : _ = [_, _, _, _, _, _]) | exact (rfl : _ = [_, _, _, _, _, _, _]) | exact (rfl : _ = [_, _, _, _, _, _, _, _]) | exact (rfl : _ = [_, _, _, _, _, _, _, _, _]) | exact (rfl : _ = [_, _, _, _, _, _, _, _, _, _]) | exact (rfl : _ = [_, _, _, _, _, _, _, _, _, _, _]) | exact (rfl : _ = [_, _, _, _, _, _, _, _, _, _, _, _]))))); (· exact .fz (by first | exact flatMap_len encSw_len _ | exact flatMap_len encPo_len _ | exact flatMap_len encAc_len _ | exact flatMap_len encMx_len _ | exact flatMap_len encDx_len _ | exact flatMap_len encFl_len _ | exact flatMap_len encSnt_len _ | exact flatMap_len encB_len _ | exact flatMap_len encRw_len _ | exact flatMap_len encAr_len _ | exact flatMap_len encGo_len _)); (· rfl); (· show (_ : Nat) ≤ 140737488355328; omega); (· first | rfl | (simp only [freshB, noRefH, OB.cells, refsL_fv, refsL_app]; rfl)))
      | fail)
    all_goals (try exact ([] : List Fp))
    · skip
      refine .ofL (s' := ⟨[(2, .osl 7)], [(7, .row 54 5 0 [])]⟩) (by first | exact .inl rfl | exact .inr rfl) ?_ rfl rfl (by repeat' (first | exact trivial | refine ⟨⟨_, rfl, fun _ _ _ _ h => h⟩, ?_⟩))
      refine St.to [(7, .nil)] [] rfl rfl ?_ ?_ <;> (repeat' (first | exact trivial | with_reducible rfl | exact .any | exact .ptr rfl | exact .sl rfl | exact .ptr0 rfl | exact .sl0 rfl | exact AV.To.nil rfl | exact .frz rfl rfl rfl | exact .frb rfl rfl (by omega) rfl | exact .frp rfl rfl rfl | refine AV.To.agg ?_ | refine AV.To.tup ?_ | exact .le (.refl _) rfl | exact .le AV.Le.nil rfl | refine AV.To.frzE rfl ?_ ?_ rfl | refine AV.To.frbE rfl ?_ ?_ (by omega) rfl | refine .le (.of_eq ?_) rfl | exact AV.ToL.nil | refine AV.ToL.cons ?_ ?_ | refine .ofEq ?_ | exact OB.To.nil rfl | refine OB.To.row rfl rfl ?_ ?_ | refine OB.To.cut rfl rfl ?_ ?_ ?_ ?_ | refine OB.To.box rfl rfl ?_ | refine ⟨⟨_, rfl, ?_⟩, ?_⟩ | refine ⟨?_, ?_⟩ | fail))
    · skip
      refine .ofL (s' := ⟨[(2, .osl 7)], [(7, .row 54 5 0 [])]⟩) (by first | exact .inl rfl | exact .inr rfl) ?_ rfl rfl (by repeat' (first | exact trivial | refine ⟨⟨_, rfl, fun _ _ _ _ h => h⟩, ?_⟩))
      refine St.to [(7, .id 7)] [] rfl rfl ?_ ?_ <;> (repeat' (first | exact trivial | with_reducible rfl | exact .any | exact .ptr rfl | exact .sl rfl | exact .ptr0 rfl | exact .sl0 rfl | exact AV.To.nil rfl | exact .frz rfl rfl rfl | exact .frb rfl rfl (by omega) rfl | exact .frp rfl rfl rfl | refine AV.To.agg ?_ | refine AV.To.tup ?_ | exact .le (.refl _) rfl | exact .le AV.Le.nil rfl | refine AV.To.frzE rfl ?_ ?_ rfl | refine AV.To.frbE rfl ?_ ?_ (by omega) rfl | refine .le (.of_eq ?_) rfl | exact AV.ToL.nil | refine AV.ToL.cons ?_ ?_ | refine .ofEq ?_ | exact OB.To.nil rfl | refine OB.To.row rfl rfl ?_ ?_ | refine OB.To.cut rfl rfl ?_ ?_ ?_ ?_ | refine OB.To.box rfl rfl ?_ | refine ⟨⟨_, rfl, ?_⟩, ?_⟩ | refine ⟨?_, ?_⟩ | fail))
      rfl
  · skip
    repeat' (first
      | (apply Ops.loc; (· rfl); (· rfl); (· rfl); (· first | exact .eff (.isNilF rfl (by omega) rfl (by first | exact flatMap_len encSw_len _ | exact flatMap_len encPo_len _ | exact flatMap_len encAc_len _ | exact flatMap_len encMx_len _ | exact flatMap_len encDx_len _ | exact flatMap_len encFl_len _ | exact flatMap_len encSnt_len _ | exact flatMap_len encB_len _ | exact flatMap_len encRw_len _ | exact flatMap_len encAr_len _ | exact flatMap_len encGo_len _)) | exact .eff (.mv rfl) | exact .eff (.asg rfl)))
      | with_reducible refine WP.seq ?_
      | with_reducible apply WP.reg tbl_ok rfl
      | with_reducible refine Ops.nil ?_
      | with_reducible refine thenQ.nor ?_
      | with_reducible refine WP.skip ?_
      | with_reducible refine WP.ret ?_
      | refine WP.condF rfl ?_
      | (apply Ops.new; (· rfl); (· rfl); (· rfl); (· first | exact .eff (.box rfl) | exact .eff (.alloc rfl) | exact .eff (.bsliceS rfl rfl rfl rfl rfl) | exact .eff (.mkS rfl rfl rfl rfl (by omega) (by omega)) | exact .eff (.zeroS rfl rfl (by intro l hl; first | cases hl | exact ⟨_, by injection hl with hl; subst hl; rfl⟩) rfl rfl rfl)); (· first | rfl | (simp only [freshB, noRefH, OB.cells, refsL_fv, refsL_app]; rfl)))
      | (apply Ops.app; (· rfl); (· rfl); (· rfl); (· rfl); (· rfl); (· rfl); (· rfl); (· exact (by first | exact .nil | exact .own rfl (rmv_q (by first | exact (rfl : _ = []) | exact (rfl : _ = [_]) | exact (rfl : _ = [_, _]) | exact (rfl : _ = [_, _, _]) | exact (rfl : _ = [_, _, _, _]) | exact (rfl : _ = [_, _, _, _, _]) | exact (rfl : _ = [_, _, _, _, _, _]) | exact (rfl : _ = [_, _, _, _, _, _, _]) | exact (rfl : _ = [_, _, _, _, _, _, _, _]) | exact (rfl : _ = [_, _, _, _, _, _, _, _, _]) | exact (rfl : _ = [_, _, _, _, _, _, _, _, _, _]) | exact (rfl : _ = [_, _, _, _, _, _, _, _, _, _, _]) | exact (rfl : _ = [_, _, _, _, _, _, _, _, _, _, _, _]))))); (· exact .fz (by first | exact flatMap_len encSw_len _ | exact flatMap_len encPo_len _ | exact flatMap_len encAc_len _ | exact flatMap_len encMx_len _ | exact flatMap_len encDx_len _ | exact flatMap_len encFl_len _ | exact flatMap_len encSnt_len _ | exact flatMap_len encB_len _ | exact flatMap_len encRw_len _ | exact flatMap_len encAr_len _ | exact flatMap_len encGo_len _)); (· rfl); (· show (_ : Nat) ≤ 140737488355328; omega); (· first | rfl | (simp only [freshB, noRefH, OB.cells, refsL_fv, refsL_app]; rfl)))
      | fail)
    all_goals (try exact ([] : List Fp))
    refine .ofL (s' := ⟨[(2, .osl 7)], [(7, .row 54 5 l.length ((l.flatMap encPo).map .fv))]⟩) (by first | exact .inl rfl | exact .inr rfl) ?_ rfl rfl (by repeat' (first | exact trivial | refine ⟨⟨_, rfl, fun _ _ _ _ h => h⟩, ?_⟩))
    refine St.to [(7, .id 7)] [] rfl rfl ?_ ?_ <;> (repeat' (first | exact trivial | with_reducible rfl | exact .any | exact .ptr rfl | exact .sl rfl | exact .ptr0 rfl | exact .sl0 rfl | exact AV.To.nil rfl | exact .frz rfl rfl rfl | exact .frb rfl rfl (by omega) rfl | exact .frp rfl rfl rfl | refine AV.To.agg ?_ | refine AV.To.tup ?_ | exact .le (.refl _) rfl | exact .le AV.Le.nil rfl | refine AV.To.frzE rfl ?_ ?_ rfl | refine AV.To.frbE rfl ?_ ?_ (by omega) rfl | refine .le (.of_eq ?_) rfl | exact AV.ToL.nil | refine AV.ToL.cons ?_ ?_ | refine .ofEq ?_ | exact OB.To.nil rfl | refine OB.To.row rfl rfl ?_ ?_ | refine OB.To.cut rfl rfl ?_ ?_ ?_ ?_ | refine OB.To.box rfl rfl ?_ | refine ⟨⟨_, rfl, ?_⟩, ?_⟩ | refine ⟨?_, ?_⟩ | fail))
    all_goals first | omega | simp
theorem cloneAc_T (l : List Ac) (hl : l.length * 72 ≤ 140737488355328) : FunO Try.prog 72 [.fv (slOf encAc l)] [] (.osl 7) [(7, .row 56 9 l.length ((l.flatMap encAc).map .fv))] := by
  refine FunO.bodyL tbl_ok Try.func72 rfl (by kernel_rfl) rfl rfl rfl ?_
  rcases Nat.eq_zero_or_pos l.length with h0 | h0
  · obtain rfl := List.eq_nil_of_length_eq_zero h0
    repeat' (first
      | (apply Ops.loc; (· rfl); (· rfl); (· rfl); (· first | exact .eff (.mv rfl) | exact .eff (.asg rfl) | exact .eff (.isNilZ rfl rfl rfl)))
      | with_reducible refine WP.seq ?_
      | with_reducible apply WP.reg tbl_ok rfl
      | with_reducible refine Ops.nil ?_
      | with_reducible refine thenQ.nor ?_
      | with_reducible refine thenQ.ret ?_
      | with_reducible refine WP.skip ?_
      | with_reducible refine WP.ret ?_
      | (refine WP.condBit rfl ?_ ?_)
      | (apply Ops.new; (· rfl); (· rfl); (· rfl); (· first | exact .eff (.box rfl) | exact .eff (.alloc rfl) | exact .eff (.bsliceS rfl rfl rfl rfl rfl) | exact .eff (.mkS rfl rfl rfl rfl (by omega) (by omega)) | exact .eff (.zeroS rfl rfl (by intro l hl; first | cases hl | exact ⟨_, by injection hl with hl; subst hl; rfl⟩) rfl rfl rfl)); (· first | rfl | (simp only [freshB, noRefH, OB.cells, refsL_fv, refsL_app]; rfl)))
      | (apply Ops.app; (· rfl); (· rfl); (· rfl); (· rfl); (· rfl); (· rfl); (· rfl); (· exact (by first | exact .nil | exact .own rfl (rmv_q (by first | exact (rfl : _ = []) | exact (rfl : _ = [_]) | exact (rfl : _ = [_, _]) | exact (rfl : _ = [_, _, _]) | exact (rfl : _ = [_, _, _, _]) | exact (rfl : _ = [_, _, _, _, _]) | exact (rfl : _ = [_, _, _, _, _, _]) | exact (rfl : _ = [_, _, _, _, _, _, _]) | exact (rfl : _ = [_, _, _, _, _, _, _, _]) | exact (rfl : _ = [_, _, _, _, _, _, _, _, _]) | exact (rfl : _ = [_, _, _, _, _, _, _, _, _, _]) | exact (rfl : _ = [_, _, _, _, _, _, _, _, _, _, _]) | exact (rfl : _ = [_, _, _, _, _, _, _, _, _, _, _, _]))))); (· exact .fz (by first | exact flatMap_len encSw_len _ | exact flatMap_len encPo_len _ | exact flatMap_len encAc_len _ | exact flatMap_len encMx_len _ | exact flatMap_len encDx_len _ | exact flatMap_len encFl_len _ | exact flatMap_len encSnt_len _ | exact flatMap_len encB_len _ | exact flatMap_len encRw_len _ | exact flatMap_len encAr_len _ | exact flatMap_len encGo_len _)); (· rfl); (· show (_ : Nat) ≤ 140737488355328; omega); (· first | rfl | (simp only [freshB, noRefH, OB.cells, refsL_fv, refsL_app]; rfl)))
      | fail)
    all_goals (try exact ([] : List Fp))
    · skip
      refine .ofL (s' := ⟨[(2, .osl 7)], [(7, .row 56 9 0 [])]⟩) (by first | exact .inl rfl | exact .inr rfl) ?_ rfl rfl (by repeat' (first | exact trivial | refine ⟨⟨_, rfl, fun _ _ _ _ h => h⟩, ?_⟩))
      refine St.to [(7, .nil)] [] rfl rfl ?_ ?_ <;> (repeat' (first | exact trivial | with_reducible rfl | exact .any | exact .ptr rfl | exact .sl rfl | exact .ptr0 rfl | exact .sl0 rfl | exact AV.To.nil rfl | exact .frz rfl rfl rfl | exact .frb rfl rfl (by omega) rfl | exact .frp rfl rfl rfl | refine AV.To.agg ?_ | refine AV.To.tup ?_ | exact .le (.refl _) rfl | exact .le AV.Le.nil rfl | refine AV.To.frzE rfl ?_ ?_ rfl | refine AV.To.frbE rfl ?_ ?_ (by omega) rfl | refine .le (.of_eq ?_) rfl | exact AV.ToL.nil | refine AV.ToL.cons ?_ ?_ | refine .ofEq ?_ | exact OB.To.nil rfl | refine OB.To.row rfl rfl ?_ ?_ | refine OB.To.cut rfl rfl ?_ ?_ ?_ ?_ | refine OB.To.box rfl rfl ?_ | refine ⟨⟨_, rfl, ?_⟩, ?_⟩ | refine ⟨?_, ?_⟩ | fail))
    · skip
      refine .ofL (s' := ⟨[(2, .osl 7)], [(7, .row 56 9 0 [])]⟩) (by first | exact .inl rfl | exact .inr rfl) ?_ rfl rfl (by repeat' (first | exact trivial | refine ⟨⟨_, rfl, fun _ _ _ _ h => h⟩, ?_⟩))
      refine St.to [(7, .id 7)] [] rfl rfl ?_ ?_ <;> (repeat' (first | exact trivial | with_reducible rfl | exact .any | exact .ptr rfl | exact .sl rfl | exact .ptr0 rfl | exact .sl0 rfl | exact AV.To.nil rfl | exact .frz rfl rfl rfl | exact .frb rfl rfl (by omega) rfl | exact .frp rfl rfl rfl | refine AV.To.agg ?_ | refine AV.To.tup ?_ | exact .le (.refl _) rfl | exact .le AV.Le.nil rfl | refine AV.To.frzE rfl ?_ ?_ rfl | refine AV.To.frbE rfl ?_ ?_ (by omega) rfl | refine .le (.of_eq ?_) rfl | exact AV.ToL.nil | refine AV.ToL.cons ?_ ?_ | refine .ofEq ?_ | exact OB.To.nil rfl | refine OB.To.row rfl rfl ?_ ?_ | refine OB.To.cut rfl rfl ?_ ?_ ?_ ?_ | refine OB.To.box rfl rfl ?_ | refine ⟨⟨_, rfl, ?_⟩, ?_⟩ | refine ⟨?_, ?_⟩ | fail))
      rfl
  · skip
    repeat' (first
      | (apply Ops.loc; (· rfl); (· rfl); (· rfl); (· first | exact .eff (.isNilF rfl (by omega) rfl (by first | exact flatMap_len encSw_len _ | exact flatMap_len encPo_len _ | exact flatMap_len encAc_len _ | exact flatMap_len encMx_len _ | exact flatMap_len encDx_len _ | exact flatMap_len encFl_len _ | exact flatMap_len encSnt_len _ | exact flatMap_len encB_len _ | exact flatMap_len encRw_len _ | exact flatMap_len encAr_len _ | exact flatMap_len encGo_len _)) | exact .eff (.mv rfl) | exact .eff (.asg rfl)))
      | with_reducible refine WP.seq ?_
      | with_reducible apply WP.reg tbl_ok rfl
      | with_reducible refine Ops.nil ?_
      | with_reducible refine thenQ.nor ?_
      | with_reducible refine WP.skip ?_
      | with_reducible refine WP.ret ?_
      | refine WP.condF rfl ?_
      | (apply Ops.new; (· rfl); (· rfl); (· rfl); (· first | exact .eff (.box rfl) | exact .eff (.alloc rfl) | exact .eff (.bsliceS rfl rfl rfl rfl rfl) | exact .eff (.mkS rfl rfl rfl rfl (by omega) (by omega)) | exact .eff (.zeroS rfl rfl (by intro l hl; first | cases hl | exact ⟨_, by injection hl with hl; subst hl; rfl⟩) rfl rfl rfl)); (· first | rfl | (simp only [freshB, noRefH, OB.cells, refsL_fv, refsL_app]; rfl)))
      | (apply Ops.app; (· rfl); (· rfl); (· rfl); (· rfl); (· rfl); (· rfl); (· rfl); (· exact (by first | exact .nil | exact .own rfl (rmv_q (by first | exact (rfl : _ = []) | exact (rfl : _ = [_]) | exact (rfl : _ = [_, _]) | exact (rfl : _ = [_, _, _]) | exact (rfl : _ = [_, _, _, _]) | exact (rfl : _ = [_, _, _, _, _]) | exact (rfl : _ = [_, _, _, _, _, _]) | exact (rfl : _ = [_, _, _, _, _, _, _]) | exact (rfl : _ = [_, _, _, _, _, _, _, _]) | exact (rfl : _ = [_, _, _, _, _, _, _, _, _]) | exact (rfl : _ = [_, _, _, _, _, _, _, _, _, _]) | exact (rfl : _ = [_, _, _, _, _, _, _, _, _, _, _]) | exact (rfl : _ = [_, _, _, _, _, _, _, _, _, _, _, _]))))); (· exact .fz (by first | exact flatMap_len encSw_len _ | exact flatMap_len encPo_len _ | exact flatMap_len encAc_len _ | exact flatMap_len encMx_len _ | exact flatMap_len encDx_len _ | exact flatMap_len encFl_len _ | exact flatMap_len encSnt_len _ | exact flatMap_len encB_len _ | exact flatMap_len encRw_len _ | exact flatMap_len encAr_len _ | exact flatMap_len encGo_len _)); (· rfl); (· show (_ : Nat) ≤ 140737488355328; omega); (· first | rfl | (simp only [freshB, noRefH, OB.cells, refsL_fv, refsL_app]; rfl)))
      | fail)
    all_goals (try exact ([] : List Fp))
    refine .ofL (s' := ⟨[(2, .osl 7)], [(7, .row 56 9 l.length ((l.flatMap encAc).map .fv))]⟩) (by first | exact .inl rfl | exact .inr rfl) ?_ rfl rfl (by repeat' (first | exact trivial | refine ⟨⟨_, rfl, fun _ _ _ _ h => h⟩, ?_⟩))
    refine St.to [(7, .id 7)] [] rfl rfl ?_ ?_ <;> (repeat' (first | exact trivial | with_reducible rfl | exact .any | exact .ptr rfl | exact .sl rfl | exact .ptr0 rfl | exact .sl0 rfl | exact AV.To.nil rfl | exact .frz rfl rfl rfl | exact .frb rfl rfl (by omega) rfl | exact .frp rfl rfl rfl | refine AV.To.agg ?_ | refine AV.To.tup ?_ | exact .le (.refl _) rfl | exact .le AV.Le.nil rfl | refine AV.To.frzE rfl ?_ ?_ rfl | refine AV.To.frbE rfl ?_ ?_ (by omega) rfl | refine .le (.of_eq ?_) rfl | exact AV.ToL.nil | refine AV.ToL.cons ?_ ?_ | refine .ofEq ?_ | exact OB.To.nil rfl | refine OB.To.row rfl rfl ?_ ?_ | refine OB.To.cut rfl rfl ?_ ?_ ?_ ?_ | refine OB.To.box rfl rfl ?_ | refine ⟨⟨_, rfl, ?_⟩, ?_⟩ | refine ⟨?_, ?_⟩ | fail))
    all_goals first | omega | simp
/-- What is wanted finds room. -/
def Cf.Fit (c : Cf) : Prop := c.ss.length * 24 ≤ 140737488355328 ∧ c.ps.length * 40 ≤ 140737488355328 ∧ c.acs.length * 72 ≤ 140737488355328
theorem Cf.Fit.small {c : Cf} (h : c.Fit) : c.Small := by
  obtain ⟨h1, h2, h3⟩ := h
  exact ⟨by omega, by omega, by omega⟩
theorem copy_T (c : Cf) (hl : c.Fit) : FunO Try.prog 28 [.agg ((encCf c).map .fv)] [] (.agg [.osl 7, .osl 8, .osl 9]) [(7, .row 52 3 c.ss.length ((c.ss.flatMap encSw).map .fv)), (8, .row 54 5 c.ps.length ((c.ps.flatMap encPo).map .fv)), (9, .row 56 9 c.acs.length ((c.acs.flatMap encAc).map .fv))] := by
  have hl1 := hl.1
  have hl2 := hl.2.1
  have hl3 := hl.2.2
  refine FunO.bodyL tbl_ok Try.func28 rfl (by kernel_rfl) rfl rfl rfl ?_
  repeat' (first
    | (apply Ops.loc; (· rfl); (· rfl); (· rfl); (· first | exact .eff (.loadO rfl rfl rfl) | exact .eff (.fldO rfl rfl rfl) | exact .eff (.buildS rfl rfl rfl rfl)))
    | with_reducible refine WP.seq ?_
    | with_reducible apply WP.reg tbl_ok rfl
    | with_reducible refine Ops.nil ?_
    | with_reducible refine thenQ.nor ?_
    | with_reducible refine WP.ret ?_
    | (apply Ops.new; (· rfl); (· rfl); (· rfl); (· first | exact .eff (.box rfl) | exact .eff (.alloc rfl) | exact .eff (.bsliceS rfl rfl rfl rfl rfl) | exact .eff (.mkS rfl rfl rfl rfl (by omega) (by omega)) | exact .eff (.zeroS rfl rfl (by intro l hl; first | cases hl | exact ⟨_, by injection hl with hl; subst hl; rfl⟩) rfl rfl rfl)); (· first | rfl | (simp only [freshB, noRefH, OB.cells, refsL_fv, refsL_app]; rfl)))
    | (apply Ops.stoW; (· rfl); (· rfl); (· rfl); (· rfl); (· rfl); (· rfl); (· first | rfl | exact onesB_map _); (· rfl); (· exact rfl); (· exact (by repeat' (first | exact .here | apply Repl.there rfl))))
    | (apply Ops.callA false; (· rfl); (· rfl); (· rfl); (· rfl); (· rfl); (· rfl); (· exact cloneSw_T c.ss (by omega)); (· skip; (repeat' (first | exact trivial | exact AV.ToL.nil | exact .ptr rfl | exact .sl rfl | exact AV.To.nil rfl | exact .le (.refl _) rfl | exact .frz rfl rfl rfl | exact .frp rfl rfl rfl | exact .le AV.Le.nil rfl | refine AV.To.agg ?_ | refine AV.To.fn ?_ | refine AV.ToL.cons ?_ ?_ | exact OB.To.nil rfl | refine OB.To.row rfl rfl rfl ?_ | refine OB.To.box rfl rfl ?_ | exact .ofEq rfl | refine ⟨?_, ?_⟩ | fail))); (· skip; (repeat' (first | exact trivial | exact AV.ToL.nil | exact .ptr rfl | exact .sl rfl | exact AV.To.nil rfl | exact .le (.refl _) rfl | exact .frz rfl rfl rfl | exact .frp rfl rfl rfl | exact .le AV.Le.nil rfl | refine AV.To.agg ?_ | refine AV.To.fn ?_ | refine AV.ToL.cons ?_ ?_ | exact OB.To.nil rfl | refine OB.To.row rfl rfl rfl ?_ | refine OB.To.box rfl rfl ?_ | exact .ofEq rfl | refine ⟨?_, ?_⟩ | fail))); (· rfl); (· rfl); (· skip; (repeat' (first | exact OwnRn.nil | apply OwnRn.cons rfl | apply OB.Rn.row | apply OB.Rn.box | exact AV.RnL.maps _ | exact AV.RnL.nil | exact AV.Rn.nil | exact AV.Rn.le rfl | exact AV.Rn.ptr rfl | exact AV.Rn.sl rfl | apply AV.RnL.cons | apply AV.Rn.agg | apply AV.Rn.tup | apply AV.Rn.fn | apply AV.RnL.app | apply AV.RnL.mapsS | fail))); (· skip; (repeat' (first | exact OwnRn.nil | apply OwnRn.cons rfl | apply OB.Rn.row | apply OB.Rn.box | exact AV.RnL.maps _ | exact AV.RnL.nil | exact AV.Rn.nil | exact AV.Rn.le rfl | exact AV.Rn.ptr rfl | exact AV.Rn.sl rfl | apply AV.RnL.cons | apply AV.Rn.agg | apply AV.Rn.tup | apply AV.Rn.fn | apply AV.RnL.app | apply AV.RnL.mapsS | fail))); (· rfl); (· rfl); (· exact (by first | exact (rfl : _ = []) | exact (rfl : _ = [_]) | exact (rfl : _ = [_, _]) | exact (rfl : _ = [_, _, _]) | exact (rfl : _ = [_, _, _, _]) | exact (rfl : _ = [_, _, _, _, _]) | exact (rfl : _ = [_, _, _, _, _, _]) | exact (rfl : _ = [_, _, _, _, _, _, _]) | exact (rfl : _ = [_, _, _, _, _, _, _, _]) | exact (rfl : _ = [_, _, _, _, _, _, _, _, _]) | exact (rfl : _ = [_, _, _, _, _, _, _, _, _, _]) | exact (rfl : _ = [_, _, _, _, _, _, _, _, _, _, _]) | exact (rfl : _ = [_, _, _, _, _, _, _, _, _, _, _, _]))); (· first | rfl | (simp only [freeNs, noRefH, OB.cells, refsL_fv, refsL_app]; rfl)); (· exact (by first | exact (rfl : _ = []) | exact (rfl : _ = [_]) | exact (rfl : _ = [_, _]) | exact (rfl : _ = [_, _, _]) | exact (rfl : _ = [_, _, _, _]) | exact (rfl : _ = [_, _, _, _, _]) | exact (rfl : _ = [_, _, _, _, _, _]) | exact (rfl : _ = [_, _, _, _, _, _, _]) | exact (rfl : _ = [_, _, _, _, _, _, _, _]) | exact (rfl : _ = [_, _, _, _, _, _, _, _, _]) | exact (rfl : _ = [_, _, _, _, _, _, _, _, _, _]) | exact (rfl : _ = [_, _, _, _, _, _, _, _, _, _, _]) | exact (rfl : _ = [_, _, _, _, _, _, _, _, _, _, _, _]))))
    | (apply Ops.callA false; (· rfl); (· rfl); (· rfl); (· rfl); (· rfl); (· rfl); (· exact clonePo_T c.ps (by omega)); (· skip; (repeat' (first | exact trivial | exact AV.ToL.nil | exact .ptr rfl | exact .sl rfl | exact AV.To.nil rfl | exact .le (.refl _) rfl | exact .frz rfl rfl rfl | exact .frp rfl rfl rfl | exact .le AV.Le.nil rfl | refine AV.To.agg ?_ | refine AV.To.fn ?_ | refine AV.ToL.cons ?_ ?_ | exact OB.To.nil rfl | refine OB.To.row rfl rfl rfl ?_ | refine OB.To.box rfl rfl ?_ | exact .ofEq rfl | refine ⟨?_, ?_⟩ | fail))); (· skip; (repeat' (first | exact trivial | exact AV.ToL.nil | exact .ptr rfl | exact .sl rfl | exact AV.To.nil rfl | exact .le (.refl _) rfl | exact .frz rfl rfl rfl | exact .frp rfl rfl rfl | exact .le AV.Le.nil rfl | refine AV.To.agg ?_ | refine AV.To.fn ?_ | refine AV.ToL.cons ?_ ?_ | exact OB.To.nil rfl | refine OB.To.row rfl rfl rfl ?_ | refine OB.To.box rfl rfl ?_ | exact .ofEq rfl | refine ⟨?_, ?_⟩ | fail))); (· rfl); (· rfl); (· skip; (repeat' (first | exact OwnRn.nil | apply OwnRn.cons rfl | apply OB.Rn.row | apply OB.Rn.box | exact AV.RnL.maps _ | exact AV.RnL.nil | exact AV.Rn.nil | exact AV.Rn.le rfl | exact AV.Rn.ptr rfl | exact AV.Rn.sl rfl | apply AV.RnL.cons | apply AV.Rn.agg | apply AV.Rn.tup | apply AV.Rn.fn | apply AV.RnL.app | apply AV.RnL.mapsS | fail))); (· skip; (repeat' (first | exact OwnRn.nil | apply OwnRn.cons rfl | apply OB.Rn.row | apply OB.Rn.box | exact AV.RnL.maps _ | exact AV.RnL.nil | exact AV.Rn.nil | exact AV.Rn.le rfl | exact AV.Rn.ptr rfl | exact AV.Rn.sl rfl | apply AV.RnL.cons | apply AV.Rn.agg | apply AV.Rn.tup | apply AV.Rn.fn | apply AV.RnL.app | apply AV.RnL.mapsS | fail))); (· rfl); (· rfl); (· exact (by first | exact (rfl : _ = []) | exact (rfl : _ = [_]) | exact (rfl : _ = [_, _]) | exact (rfl : _ = [_, _, _]) | exact (rfl : _ = [_, _, _, _]) | exact (rfl : _ = [_, _, _, _, _]) | exact (rfl : _ = [_, _, _, _, _, _]) | exact (rfl : _ = [_, _, _, _, _, _, _]) | exact (rfl : _ = [_, _, _, _, _, _, _, _]) | exact (rfl : _ = [_, _, _, _, _, _, _, _, _]) | exact (rfl : _ = [_, _, _, _, _, _, _, _, _, _]) | exact (rfl : _ = [_, _, _, _, _, _, _, _, _, _, _]) | exact (rfl : _ = [_, _, _, _, _, _, _, _, _, _, _, _]))); (· first | rfl | (simp only [freeNs, noRefH, OB.cells, refsL_fv, refsL_app]; rfl)); (· exact (by first | exact (rfl : _ = []) | exact (rfl : _ = [_]) | exact (rfl : _ = [_, _]) | exact (rfl : _ = [_, _, _]) | exact (rfl : _ = [_, _, _, _]) | exact (rfl : _ = [_, _, _, _, _]) | exact (rfl : _ = [_, _, _, _, _, _]) | exact (rfl : _ = [_, _, _, _, _, _, _]) | exact (rfl : _ = [_, _, _, _, _, _, _, _]) | exact (rfl : _ = [_, _, _, _, _, _, _, _, _]) | exact (rfl : _ = [_, _, _, _, _, _, _, _, _, _]) | exact (rfl : _ = [_, _, _, _, _, _, _, _, _, _, _]) | exact (rfl : _ = [_, _, _, _, _, _, _, _, _, _, _, _]))))
    | (apply Ops.callA false; (· rfl); (· rfl); (· rfl); (· rfl); (· rfl); (· rfl); (· exact cloneAc_T c.acs (by omega)); (· skip; (repeat' (first | exact trivial | exact AV.ToL.nil | exact .ptr rfl | exact .sl rfl | exact AV.To.nil rfl | exact .le (.refl _) rfl | exact .frz rfl rfl rfl | exact .frp rfl rfl rfl | exact .le AV.Le.nil rfl | refine AV.To.agg ?_ | refine AV.To.fn ?_ | refine AV.ToL.cons ?_ ?_ | exact OB.To.nil rfl | refine OB.To.row rfl rfl rfl ?_ | refine OB.To.box rfl rfl ?_ | exact .ofEq rfl | refine ⟨?_, ?_⟩ | fail))); (· skip; (repeat' (first | exact trivial | exact AV.ToL.nil | exact .ptr rfl | exact .sl rfl | exact AV.To.nil rfl | exact .le (.refl _) rfl | exact .frz rfl rfl rfl | exact .frp rfl rfl rfl | exact .le AV.Le.nil rfl | refine AV.To.agg ?_ | refine AV.To.fn ?_ | refine AV.ToL.cons ?_ ?_ | exact OB.To.nil rfl | refine OB.To.row rfl rfl rfl ?_ | refine OB.To.box rfl rfl ?_ | exact .ofEq rfl | refine ⟨?_, ?_⟩ | fail))); (· rfl); (· rfl); (· skip; (repeat' (first | exact OwnRn.nil | apply OwnRn.cons rfl | apply OB.Rn.row | apply OB.Rn.box | exact AV.RnL.maps _ | exact AV.RnL.nil | exact AV.Rn.nil | exact AV.Rn.le rfl | exact AV.Rn.ptr rfl | exact AV.Rn.sl rfl | apply AV.RnL.cons | apply AV.Rn.agg | apply AV.Rn.tup | apply AV.Rn.fn | apply AV.RnL.app | apply AV.RnL.mapsS | fail))); (· skip; (repeat' (first | exact OwnRn.nil | apply OwnRn.cons rfl | apply OB.Rn.row | apply OB.Rn.box | exact AV.RnL.maps _ | exact AV.RnL.nil | exact AV.Rn.nil | exact AV.Rn.le rfl | exact AV.Rn.ptr rfl | exact AV.Rn.sl rfl | apply AV.RnL.cons | apply AV.Rn.agg | apply AV.Rn.tup | apply AV.Rn.fn | apply AV.RnL.app | apply AV.RnL.mapsS | fail))); (· rfl); (· rfl); (· exact (by first | exact (rfl : _ = []) | exact (rfl : _ = [_]) | exact (rfl : _ = [_, _]) | exact (rfl : _ = [_, _, _]) | exact (rfl : _ = [_, _, _, _]) | exact (rfl : _ = [_, _, _, _, _]) | exact (rfl : _ = [_, _, _, _, _, _]) | exact (rfl : _ = [_, _, _, _, _, _, _]) | exact (rfl : _ = [_, _, _, _, _, _, _, _]) | exact (rfl : _ = [_, _, _, _, _, _, _, _, _]) | exact (rfl : _ = [_, _, _, _, _, _, _, _, _, _]) | exact (rfl : _ = [_, _, _, _, _, _, _, _, _, _, _]) | exact (rfl : _ = [_, _, _, _, _, _, _, _, _, _, _, _]))); (· first | rfl | (simp only [freeNs, noRefH, OB.cells, refsL_fv, refsL_app]; rfl)); (· exact (by first | exact (rfl : _ = []) | exact (rfl : _ = [_]) | exact (rfl : _ = [_, _]) | exact (rfl : _ = [_, _, _]) | exact (rfl : _ = [_, _, _, _]) | exact (rfl : _ = [_, _, _, _, _]) | exact (rfl : _ = [_, _, _, _, _, _]) | exact (rfl : _ = [_, _, _, _, _, _, _]) | exact (rfl : _ = [_, _, _, _, _, _, _, _]) | exact (rfl : _ = [_, _, _, _, _, _, _, _, _]) | exact (rfl : _ = [_, _, _, _, _, _, _, _, _, _]) | exact (rfl : _ = [_, _, _, _, _, _, _, _, _, _, _]) | exact (rfl : _ = [_, _, _, _, _, _, _, _, _, _, _, _]))))
    | apply WP.drwL tbl_ok mixed_no rfl
    | ((with_reducible apply drwK.mk); (· kernel_rfl); (· first | rfl | (simp only [freeF, List.all_cons, List.all_nil, noRefH, OB.cells, refsL_fv, refsL_app]; rfl)))
    | fail)
  all_goals (try exact ([] : List Fp))
  refine .ofL (s' := ⟨[(2, .optr 2 0)], [(2, .box 50 [.osl 7, .osl 8, .osl 9]), (7, .row 52 3 c.ss.length ((c.ss.flatMap encSw).map .fv)), (8, .row 54 5 c.ps.length ((c.ps.flatMap encPo).map .fv)), (9, .row 56 9 c.acs.length ((c.acs.flatMap encAc).map .fv))]⟩) (by first | exact .inl rfl | exact .inr rfl) ?_ rfl rfl (by repeat' (first | exact trivial | refine ⟨⟨_, rfl, fun _ _ _ _ h => h⟩, ?_⟩))
  refine St.to [(7, .id 5), (8, .id 8), (9, .id 11)] [] rfl rfl ?_ ?_ <;> (repeat' (first | exact trivial | with_reducible rfl | exact .any | exact .ptr rfl | exact .sl rfl | exact .ptr0 rfl | exact .sl0 rfl | exact AV.To.nil rfl | exact .frz rfl rfl rfl | exact .frb rfl rfl (by omega) rfl | exact .frp rfl rfl rfl | refine AV.To.agg ?_ | refine AV.To.tup ?_ | exact .le (.refl _) rfl | exact .le AV.Le.nil rfl | refine AV.To.frzE rfl ?_ ?_ rfl | refine AV.To.frbE rfl ?_ ?_ (by omega) rfl | refine .le (.of_eq ?_) rfl | exact AV.ToL.nil | refine AV.ToL.cons ?_ ?_ | refine .ofEq ?_ | exact OB.To.nil rfl | refine OB.To.row rfl rfl ?_ ?_ | refine OB.To.cut rfl rfl ?_ ?_ ?_ ?_ | refine OB.To.box rfl rfl ?_ | refine ⟨⟨_, rfl, ?_⟩, ?_⟩ | refine ⟨?_, ?_⟩ | fail))

/-- One element cut out of a row: the cells. -/
theorem del_cells {α : Type} {enc : α → List FV} {s : Nat} (hs : ∀ x, (enc x).length = s) (l : List α) (i : Nat) (hi : i < l.length) :
    ∃ cs1 : List AV, setC ((l.flatMap enc).map AV.fv) ((0 + i) * s) ((((l.flatMap enc).map AV.fv).drop ((i + 1) * s)).take ((l.length - (i + 1)) * s)) = some cs1 ∧ cs1.length = l.length * s ∧ cs1.take ((i + (l.length - (i + 1))) * s) = (((l.eraseIdx i).flatMap enc).map AV.fv) := by
  have hlen : ((l.flatMap enc).map AV.fv).length = l.length * s := by rw [List.length_map, flatMap_len hs]
  have e1 : (l.flatMap enc).drop ((i + 1) * s) = (l.drop (i + 1)).flatMap enc := by
    have h1 : (l.take (i + 1) ++ l.drop (i + 1)).flatMap enc = l.flatMap enc := by rw [List.take_append_drop]
    rw [← h1, List.flatMap_append, List.drop_append_of_le_length (by rw [flatMap_len hs, List.length_take]; rw [Nat.min_eq_left (by omega)]; exact Nat.le_refl _), List.drop_of_length_le (by rw [flatMap_len hs, List.length_take, Nat.min_eq_left (by omega)]; exact Nat.le_refl _), List.nil_append]
  have e2 : (l.flatMap enc).take (i * s) = (l.take i).flatMap enc := by
    have h1 : (l.take i ++ l.drop i).flatMap enc = l.flatMap enc := by rw [List.take_append_drop]
    have h2 : ((l.take i).flatMap enc).length = i * s := by rw [flatMap_len hs, List.length_take, Nat.min_eq_left (by omega)]
    rw [← h1, List.flatMap_append, ← h2, List.take_left']
    rfl
  have e3 : ((l.drop (i + 1)).flatMap enc).length = (l.length - (i + 1)) * s := by rw [flatMap_len hs, List.length_drop]
  have e4 : (((l.flatMap enc).map AV.fv).drop ((i + 1) * s)).take ((l.length - (i + 1)) * s) = ((l.drop (i + 1)).flatMap enc).map AV.fv := by
    rw [← List.map_drop, e1, List.take_of_length_le (by rw [List.length_map, e3]; exact Nat.le_refl _)]
  have hm : (i + (l.length - (i + 1))) * s = i * s + (l.length - (i + 1)) * s := Nat.add_mul _ _ _
  have hle : (i + (l.length - (i + 1))) * s ≤ l.length * s := Nat.mul_le_mul_right s (by omega)
  rw [e4, Nat.zero_add]
  have h6 := setC_mk (cs := (l.flatMap enc).map AV.fv) (off := i * s) (us := ((l.drop (i + 1)).flatMap enc).map AV.fv) (by rw [List.length_map, e3, hlen]; omega)
  refine ⟨_, h6, ?_, ?_⟩
  · rw [List.length_append, List.length_append, List.length_take, List.length_drop, hlen, List.length_map, e3]
    omega
  · rw [← List.map_take, e2, hm, List.take_append_of_le_length (by rw [List.length_append, List.length_map, List.length_map, e3, flatMap_len hs, List.length_take, Nat.min_eq_left (by omega)]; exact Nat.le_refl _), List.take_of_length_le (by rw [List.length_append, List.length_map, List.length_map, e3, flatMap_len hs, List.length_take, Nat.min_eq_left (by omega)]; exact Nat.le_refl _), ← List.map_append, ← List.flatMap_append, List.eraseIdx_eq_take_drop_succ]
theorem clr_cells {cs1 us cs2 : List AV} {n : Nat} (h : setC cs1 n us = some cs2) : cs2.take n = cs1.take n := by
  obtain ⟨h1, rfl⟩ := setC_eq h
  rw [List.append_assoc, List.take_append_of_le_length (by rw [List.length_take]; omega), List.take_take, Nat.min_self]

def zi : AV := .fv (.int .i64 0)
def zb : AV := .fv (.bool false)
theorem deletePo_T (l : List Po) (i : Nat) (j : Int) (hj : j = ((i + 1 : Nat) : Int)) (hi : i < l.length) (hl : l.length * 40 ≤ 140737488355328) : FunO Try.prog 47 [.osl 1000, .fv (.int .i64 (i : Int)), .fv (.int .i64 j)] [(1000, .row 54 5 l.length ((l.flatMap encPo).map .fv))] (.osl 7) [(7, .row 54 5 (l.length - 1) (((l.eraseIdx i).flatMap encPo).map .fv))] := by
  subst hj
  obtain ⟨cs1, h1, h2, h3⟩ := del_cells encPo_len l i hi
  have hclr : ∀ zs : List AV, zs.length = 5 → ∃ cs2, setC cs1 ((0 + (i + (l.length - (i + 1)))) * 5) ((List.replicate (l.length - (i + (l.length - (i + 1)))) zs).flatten) = some cs2 ∧ cs2.take ((i + (l.length - (i + 1))) * 5) = (((l.eraseIdx i).flatMap encPo).map AV.fv) := fun zs hz => by
    have h6 := setC_mk (cs := cs1) (off := (0 + (i + (l.length - (i + 1)))) * 5) (us := (List.replicate (l.length - (i + (l.length - (i + 1)))) zs).flatten) (by
      rw [h2, List.length_flatten, List.map_replicate, List.sum_replicate_nat, hz]
      omega)
    refine ⟨_, h6, ?_⟩
    have := clr_cells h6
    rw [Nat.zero_add] at this
    rw [← h3, ← this, Nat.zero_add]
  obtain ⟨cs2, h4, h5⟩ := hclr [zi, zi, zi, zi, zi] rfl
  generalize hcs : (l.flatMap encPo).map AV.fv = cs at h1
  have hones : onesB cs = true := by subst hcs; exact onesB_map _
  refine FunO.bodyL tbl_ok Try.func47 rfl (by kernel_rfl) rfl rfl rfl ?_
  repeat' (first
    | (apply Ops.loc; (· rfl); (· rfl); (· rfl); (· first | exact .eff (.mv rfl) | exact .eff (.asg rfl) | exact .eff (.lenO rfl rfl rfl) | exact .eff (.lenB rfl rfl) | exact .eff (.oL rfl rfl rfl rfl (by omega)) | exact .eff (.oH rfl rfl rfl rfl (by omega)) | exact .eff (.bLH rfl rfl rfl rfl rfl (by omega) (by omega)) | exact .eff (.bin rfl rfl rfl)))
    | (apply Ops.sl3; (· rfl); (· rfl); (· rfl); (· rfl); (· rfl); (· rfl); (· rfl); (· rfl); (· rfl); (· rfl); (· omega); (· omega); (· omega))
    | (apply Ops.appB; (· rfl); (· rfl); (· rfl); (· rfl); (· rfl); (· rfl); (· rfl); (· rfl); (· exact hones); (· omega); (· omega); (· exact h1); (· exact .here))
    | (apply Ops.clr; (· rfl); (· rfl); (· rfl); (· rfl); (· rfl); (· rfl); (· rfl); (· rfl); (· exact h4); (· exact .here))
    | with_reducible refine WP.seq ?_
    | with_reducible apply WP.reg tbl_ok rfl
    | with_reducible refine Ops.nil ?_
    | with_reducible refine thenQ.nor ?_
    | with_reducible refine WP.skip ?_
    | with_reducible refine WP.ret ?_
    | (refine WP.condF (c := _) (condD rfl (by first | exact decide_eq_false (by omega) | exact bne_eq_false_iff_eq.2 (by omega) | exact beq_eq_false_iff_ne.2 (by omega) | (simp only [Bool.or_eq_true, Bool.and_eq_true, Bool.or_eq_false_iff, Bool.and_eq_false_iff, decide_eq_true_eq, decide_eq_false_iff_not, bne_iff_ne, beq_iff_eq, bne_eq_false_iff_eq, beq_eq_false_iff_ne, Bool.not_eq_true', Bool.not_eq_false', ne_eq]; omega))) ?_)
    | apply WP.drwL tbl_ok mixed_no rfl
    | ((with_reducible apply drwK.mk); (· kernel_rfl); (· first | rfl | (simp only [freeF, List.all_cons, List.all_nil, noRefH, OB.cells, refsL_fv, refsL_app]; rfl)))
    | fail)
  all_goals (try exact ([] : List Fp))
  refine .ofL (s' := ⟨[(6, .osl 7)], [(7, .row 54 5 (l.length - 1) (((l.eraseIdx i).flatMap encPo).map .fv))]⟩) (.inl rfl) ?_ rfl rfl ⟨⟨_, rfl, fun _ _ _ _ h => h⟩, trivial⟩
  refine St.to [(7, .cut 1000 (i + (l.length - (i + 1))))] [] rfl rfl ⟨⟨_, rfl, .cut rfl⟩, trivial⟩ ⟨?_, trivial⟩
  exact .cut rfl rfl (by omega) (by omega) h5 (.maps rfl)
theorem deleteAc_T (l : List Ac) (i : Nat) (j : Int) (hj : j = ((i + 1 : Nat) : Int)) (hi : i < l.length) (hl : l.length * 72 ≤ 140737488355328) : FunO Try.prog 66 [.osl 1000, .fv (.int .i64 (i : Int)), .fv (.int .i64 j)] [(1000, .row 56 9 l.length ((l.flatMap encAc).map .fv))] (.osl 7) [(7, .row 56 9 (l.length - 1) (((l.eraseIdx i).flatMap encAc).map .fv))] := by
  subst hj
  obtain ⟨cs1, h1, h2, h3⟩ := del_cells encAc_len l i hi
  have hclr : ∀ zs : List AV, zs.length = 9 → ∃ cs2, setC cs1 ((0 + (i + (l.length - (i + 1)))) * 9) ((List.replicate (l.length - (i + (l.length - (i + 1)))) zs).flatten) = some cs2 ∧ cs2.take ((i + (l.length - (i + 1))) * 9) = (((l.eraseIdx i).flatMap encAc).map AV.fv) := fun zs hz => by
    have h6 := setC_mk (cs := cs1) (off := (0 + (i + (l.length - (i + 1)))) * 9) (us := (List.replicate (l.length - (i + (l.length - (i + 1)))) zs).flatten) (by
      rw [h2, List.length_flatten, List.map_replicate, List.sum_replicate_nat, hz]
      omega)
    refine ⟨_, h6, ?_⟩
    have := clr_cells h6
    rw [Nat.zero_add] at this
    rw [← h3, ← this, Nat.zero_add]
  obtain ⟨cs2, h4, h5⟩ := hclr [zi, zi, zb, zi, zi, zi, zi, zi, zb] rfl
  generalize hcs : (l.flatMap encAc).map AV.fv = cs at h1
  have hones : onesB cs = true := by subst hcs; exact onesB_map _
  refine FunO.bodyL tbl_ok Try.func66 rfl (by kernel_rfl) rfl rfl rfl ?_
  repeat' (first
    | (apply Ops.loc; (· rfl); (· rfl); (· rfl); (· first | exact .eff (.mv rfl) | exact .eff (.asg rfl) | exact .eff (.lenO rfl rfl rfl) | exact .eff (.lenB rfl rfl) | exact .eff (.oL rfl rfl rfl rfl (by omega)) | exact .eff (.oH rfl rfl rfl rfl (by omega)) | exact .eff (.bLH rfl rfl rfl rfl rfl (by omega) (by omega)) | exact .eff (.bin rfl rfl rfl)))
    | (apply Ops.sl3; (· rfl); (· rfl); (· rfl); (· rfl); (· rfl); (· rfl); (· rfl); (· rfl); (· rfl); (· rfl); (· omega); (· omega); (· omega))
    | (apply Ops.appB; (· rfl); (· rfl); (· rfl); (· rfl); (· rfl); (· rfl); (· rfl); (· rfl); (· exact hones); (· omega); (· omega); (· exact h1); (· exact .here))
    | (apply Ops.clr; (· rfl); (· rfl); (· rfl); (· rfl); (· rfl); (· rfl); (· rfl); (· rfl); (· exact h4); (· exact .here))
    | with_reducible refine WP.seq ?_
    | with_reducible apply WP.reg tbl_ok rfl
    | with_reducible refine Ops.nil ?_
    | with_reducible refine thenQ.nor ?_
    | with_reducible refine WP.skip ?_
    | with_reducible refine WP.ret ?_
    | (refine WP.condF (c := _) (condD rfl (by first | exact decide_eq_false (by omega) | exact bne_eq_false_iff_eq.2 (by omega) | exact beq_eq_false_iff_ne.2 (by omega) | (simp only [Bool.or_eq_true, Bool.and_eq_true, Bool.or_eq_false_iff, Bool.and_eq_false_iff, decide_eq_true_eq, decide_eq_false_iff_not, bne_iff_ne, beq_iff_eq, bne_eq_false_iff_eq, beq_eq_false_iff_ne, Bool.not_eq_true', Bool.not_eq_false', ne_eq]; omega))) ?_)
    | apply WP.drwL tbl_ok mixed_no rfl
    | ((with_reducible apply drwK.mk); (· kernel_rfl); (· first | rfl | (simp only [freeF, List.all_cons, List.all_nil, noRefH, OB.cells, refsL_fv, refsL_app]; rfl)))
    | fail)
  all_goals (try exact ([] : List Fp))
  refine .ofL (s' := ⟨[(6, .osl 7)], [(7, .row 56 9 (l.length - 1) (((l.eraseIdx i).flatMap encAc).map .fv))]⟩) (.inl rfl) ?_ rfl rfl ⟨⟨_, rfl, fun _ _ _ _ h => h⟩, trivial⟩
  refine St.to [(7, .cut 1000 (i + (l.length - (i + 1))))] [] rfl rfl ⟨⟨_, rfl, .cut rfl⟩, trivial⟩ ⟨?_, trivial⟩
  exact .cut rfl rfl (by omega) (by omega) h5 (.maps rfl)
end Go.Proofs.Ytdbbmjdeeenlhaa

/- Frames: what is wrong with one, by the logic of memory. -/
namespace Go.Proofs.Ytdbbmjdeeenlhaa
open Go.RowKit
set_option maxRecDepth 100000

theorem size_nil (s : ByteArray) : (!(s.toList == (⟨#[]⟩ : ByteArray).toList)) = decide (s.size ≠ 0) := by
  have h1 : (⟨#[]⟩ : ByteArray).toList = [] := by rw [ByteArray.toList_eq]
  have h2 := toList_isEmpty s
  rw [h1]
  cases h : s.toList with
  | nil => rw [h] at h2; simp at h2; simp [h2]
  | cons a l => rw [h] at h2; simp at h2; simp [h2]
theorem frameFault_b (f : Fr) : frameFault f = if (decide (f.kind < 1) || decide (f.kind > 3)) = true then 3
    else if (!word f.dst || !word f.src || !word f.ipSrc || !word f.ipDst || !word f.port || decide (f.ttl < 0) || decide (f.ttl > 255)) = true then 2
    else if decide ((f.body.size : Int) > 40) = true then 1
    else if (f.kind != 3 && (f.ttl != 0 || f.port != 0 || !f.body.toList == (⟨#[]⟩ : ByteArray).toList)) = true then 4 else 0 := by
  unfold frameFault
  rw [size_nil]
  have e1 : (f.kind < 1 ∨ 3 < f.kind) = ((decide (f.kind < 1) || decide (f.kind > 3)) = true) := by simp
  have e2 : (word f.dst = false ∨ word f.src = false ∨ word f.ipSrc = false ∨ word f.ipDst = false ∨ word f.port = false ∨ f.ttl < 0 ∨ 255 < f.ttl) = ((!word f.dst || !word f.src || !word f.ipSrc || !word f.ipDst || !word f.port || decide (f.ttl < 0) || decide (f.ttl > 255)) = true) := by simp [or_assoc]
  have e3 : (40 < f.body.size) = (decide ((f.body.size : Int) > 40) = true) := by simp; omega
  have e4 : (f.kind ≠ 3 ∧ (f.ttl ≠ 0 ∨ f.port ≠ 0 ∨ f.body.size ≠ 0)) = ((f.kind != 3 && (f.ttl != 0 || f.port != 0 || decide (f.body.size ≠ 0))) = true) := by simp [or_assoc]
  simp only [e1, e2, e3, e4]
set_option maxHeartbeats 2000000 in
theorem wireCheck_T (f : Fr) : Fun Try.prog 84 [.agg ((encFr f).map .fv)] (.fv (.int .i64 (frameFault f))) := by
  have hb := frameFault_b f
  refine Fun.body tbl_ok Try.func84 rfl (by kernel_rfl) rfl rfl rfl ?_
  repeat' (first
    | (apply Ops.loc; (· rfl); (· rfl); (· rfl); (· first | exact .eff (.mv rfl) | exact .eff (.asg rfl) | exact .eff (.loadO rfl rfl rfl) | exact .eff (.fldO rfl rfl rfl) | exact .eff (.lenS rfl rfl) | exact .eff (.or rfl rfl rfl) | exact .eff (.and rfl rfl rfl) | exact .eff (.not rfl) | exact .eff (.bin rfl rfl rfl) | exact .eff (.strNe rfl rfl) | exact .callL rfl rfl rfl (by first | exact wword_T _) rfl))
    | with_reducible refine WP.seq ?_
    | with_reducible apply WP.reg tbl_ok rfl
    | with_reducible refine Ops.nil ?_
    | with_reducible refine thenQ.nor ?_
    | with_reducible refine thenQ.ret ?_
    | with_reducible refine blockQ.nor ?_
    | with_reducible refine blockQ.ret ?_
    | with_reducible refine WP.block ?_
    | with_reducible refine WP.skip ?_
    | with_reducible refine WP.ret ?_
    | (refine WP.cond rfl ?_ ?_ <;> intro hcond)
    | (apply Ops.gst; (· rfl); (· rfl); (· rfl); (· rfl); (· rfl); (· rfl); (· rfl); (· first | exact .b | exact .w); (· intro hc; repeat' (first | exact trivial | exact fun _ => hc | exact fun _ => hc.1 | exact fun _ => ⟨hc.1.1, hc.1.2⟩ | refine And.intro ?_ ?_)); (· intro hc; first | exact .eff (.mvG rfl) | exact .eff (.asg rfl) | exact .eff (.loadO rfl rfl rfl) | exact .eff (.fldO rfl rfl rfl) | exact .eff (.lenS rfl rfl) | exact .eff (.or rfl rfl rfl) | exact .eff (.and rfl rfl rfl) | exact .eff (.not rfl) | exact .eff (.bin rfl rfl rfl) | exact .eff (.strNe rfl rfl) | exact .callG rfl rfl rfl (by first | exact wword_T _) rfl); (· rfl); (· rfl))
    | (apply Ops.new; (· rfl); (· rfl); (· rfl); (· first | exact .eff (.box rfl) | exact .eff (.alloc rfl) | exact .eff (.bsliceS rfl rfl rfl rfl rfl) | exact .eff (.mkS rfl rfl rfl rfl (by omega) (by omega)) | exact .eff (.zeroS rfl rfl (by intro l hl; first | cases hl | exact ⟨_, by injection hl with hl; subst hl; rfl⟩) rfl rfl rfl)); (· first | rfl | (simp only [freshB, noRefH, OB.cells, refsL_fv, refsL_app]; rfl)))
    | (apply Ops.gor; (· rfl); (· rfl); (· rfl); (· rfl); (· rfl); (· rfl); (· rfl); (· exact (by first | exact .b | exact .w)); (· rfl); (· rfl); (· rfl); (· simp); (· intro hc; first | exact hc | exact hc.1); (· intro hc; exact ⟨fun h => h.2, fun h => ⟨hc, h⟩⟩))
    | fail)
  all_goals (try exact ([] : List Fp))
  all_goals
    refine .f1 (.inl rfl) rfl ?_
    rw [hb]
    simp only [*]
    rfl
def l5 (f : Fr) : Nat → Int
  | 0 => f.dst
  | 1 => f.src
  | 2 => f.ipSrc
  | 3 => f.ipDst
  | _ => f.port
theorem read5 {f : Fr} {k : Nat} (h : k < 5) : readA tbl 3 ((k : Int).toNat * 1) [.fv (.int .i64 f.dst), .fv (.int .i64 f.src), .fv (.int .i64 f.ipSrc), .fv (.int .i64 f.ipDst), .fv (.int .i64 f.port)] = some (.fv (.int .i64 (l5 f k))) := by
  rw [Int.toNat_natCast]
  match k, h with
  | 0, _ | 1, _ | 2, _ | 3, _ | 4, _ => rfl
  | k + 5, h => omega
def w5 (f : Fr) (k : Nat) : Bool := ([f.dst, f.src, f.ipSrc, f.ipDst, f.port].drop k).all word
theorem w5_at {f : Fr} {k : Nat} (h : k < 5) : w5 f k = (word (l5 f k) && w5 f (k + 1)) := by
  match k, h with
  | 0, _ | 1, _ | 2, _ | 3, _ | 4, _ => rfl
  | k + 5, h => omega
theorem frameFault_r (f : Fr) : frameFault f = if (!inR f.kind 1 3) = true then 3 else if w5 f 0 = false then 2 else if (!inR f.ttl 0 255) = true then 2 else if decide ((f.body.size : Int) > 40) = true then 1
    else if (f.kind != 3 && (decide (f.ttl > 0) || decide (f.port > 0) || decide ((f.body.size : Int) > 0))) = true then 4 else 0 := by
  have hw : w5 f 0 = (word f.dst && (word f.src && (word f.ipSrc && (word f.ipDst && (word f.port && true))))) := rfl
  unfold frameFault
  by_cases h1 : f.kind < 1 ∨ 3 < f.kind
  · have : inR f.kind 1 3 = false := inR_not.2 (by omega)
    rw [if_pos h1, this]
    rfl
  have h1' : inR f.kind 1 3 = true := inR_iff.2 (by omega)
  rw [if_neg h1, if_neg (show ¬ ((!inR f.kind 1 3) = true) by rw [h1']; simp)]
  by_cases h2 : w5 f 0 = false
  · have hL : word f.dst = false ∨ word f.src = false ∨ word f.ipSrc = false ∨ word f.ipDst = false ∨ word f.port = false ∨ f.ttl < 0 ∨ 255 < f.ttl := by
      rw [hw] at h2
      cases e1 : word f.dst
      · exact .inl rfl
      cases e2 : word f.src
      · exact .inr (.inl rfl)
      cases e3 : word f.ipSrc
      · exact .inr (.inr (.inl rfl))
      cases e4 : word f.ipDst
      · exact .inr (.inr (.inr (.inl rfl)))
      cases e5 : word f.port
      · exact .inr (.inr (.inr (.inr (.inl rfl))))
      rw [e1, e2, e3, e4, e5] at h2
      cases h2
    rw [if_pos hL, if_pos h2]
  have h2' : w5 f 0 = true := by simpa using h2
  rw [hw] at h2'
  simp only [Bool.and_eq_true] at h2'
  obtain ⟨a1, a2, a3, a4, a5, _⟩ := h2'
  rw [if_neg h2]
  by_cases h3 : f.ttl < 0 ∨ 255 < f.ttl
  · have : inR f.ttl 0 255 = false := inR_not.2 (by omega)
    rw [if_pos (show word f.dst = false ∨ word f.src = false ∨ word f.ipSrc = false ∨ word f.ipDst = false ∨ word f.port = false ∨ f.ttl < 0 ∨ 255 < f.ttl by rcases h3 with h | h <;> simp [h]), if_pos (show (!inR f.ttl 0 255) = true by rw [this]; rfl)]
  have h3' : inR f.ttl 0 255 = true := inR_iff.2 (by omega)
  rw [if_neg (show ¬ (word f.dst = false ∨ word f.src = false ∨ word f.ipSrc = false ∨ word f.ipDst = false ∨ word f.port = false ∨ f.ttl < 0 ∨ 255 < f.ttl) by rw [a1, a2, a3, a4, a5]; simp; omega), if_neg (show ¬ ((!inR f.ttl 0 255) = true) by rw [h3']; simp)]
  have hp := word_iff.1 a5
  have e3 : (40 < f.body.size) = (decide ((f.body.size : Int) > 40) = true) := by simp; omega
  have e4 : (f.kind ≠ 3 ∧ (f.ttl ≠ 0 ∨ f.port ≠ 0 ∨ f.body.size ≠ 0)) = ((f.kind != 3 && (decide (f.ttl > 0) || decide (f.port > 0) || decide ((f.body.size : Int) > 0))) = true) := by
    simp only [Bool.and_eq_true, Bool.or_eq_true, bne_iff_ne, ne_eq, decide_eq_true_eq, eq_iff_iff]
    omega
  simp only [e3, e4]
set_option maxHeartbeats 2000000 in
theorem frameFault_T (f : Fr) : Fun Try.prog 53 [.agg ((encFr f).map .fv)] (.fv (.int .i64 (frameFault f))) := by
  have hb := frameFault_r f
  refine Fun.body tbl_ok Try.func53 rfl (by kernel_rfl) rfl rfl rfl ?_
  repeat' (first
    | (apply Ops.loc; (· rfl); (· rfl); (· rfl); (· first | exact .eff (.asg rfl) | exact .eff (.loadO rfl rfl rfl) | exact .eff (.fldO rfl rfl rfl) | exact .eff (.not rfl) | exact .callL rfl rfl rfl (by first | exact in_T _ _ _) rfl))
    | with_reducible refine WP.seq ?_
    | with_reducible apply WP.reg tbl_ok rfl
    | with_reducible refine Ops.nil ?_
    | with_reducible refine thenQ.nor ?_
    | with_reducible refine thenQ.ret ?_
    | with_reducible refine WP.block ?_
    | with_reducible refine WP.skip ?_
    | with_reducible refine WP.ret ?_
    | (refine WP.cond rfl ?_ ?_ <;> intro hcond)
    | (apply Ops.new; (· rfl); (· rfl); (· rfl); (· first | exact .eff (.box rfl) | exact .eff (.alloc rfl) | exact .eff (.bsliceS rfl rfl rfl rfl rfl) | exact .eff (.mkS rfl rfl rfl rfl (by omega) (by omega)) | exact .eff (.zeroS rfl rfl (by intro l hl; first | cases hl | exact ⟨_, by injection hl with hl; subst hl; rfl⟩) rfl rfl rfl)); (· first | rfl | (simp only [freshB, noRefH, OB.cells, refsL_fv, refsL_app]; rfl)))
    | fail)
  all_goals (try exact ([] : List Fp))
  · refine .f1 (.inl rfl) rfl ?_
    rw [hb, if_pos hcond]
  rw [if_neg (by rw [hcond]; simp)] at hb
  clear hcond
  refine WP.loop (ι := Nat) (fun k => ⟨[(1, .optr 1 0), (3, .osl 900), (4, .fv (.int .i64 k))], [(1, .box 58 ((encFr f).map .fv)), (900, .row 3 1 5 [.fv (.int .i64 f.dst), .fv (.int .i64 f.src), .fv (.int .i64 f.ipSrc), .fv (.int .i64 f.ipDst), .fv (.int .i64 f.port)])]⟩) (fun k => k ≤ 5 ∧ w5 f 0 = w5 f k) (fun k => 5 - k) 0 ⟨by omega, rfl⟩ ?_ ?_
  · skip
    refine St.to [(900, .id 19)] [] rfl rfl ?_ ?_ <;> (repeat' (first | exact trivial | with_reducible rfl | exact .any | exact .ptr rfl | exact .sl rfl | exact .ptr0 rfl | exact .sl0 rfl | exact AV.To.nil rfl | exact .frz rfl rfl rfl | exact .frb rfl rfl (by omega) rfl | exact .frp rfl rfl rfl | refine AV.To.agg ?_ | refine AV.To.tup ?_ | exact .le (.refl _) rfl | exact .le AV.Le.nil rfl | refine AV.To.frzE rfl ?_ ?_ rfl | refine AV.To.frbE rfl ?_ ?_ (by omega) rfl | refine .le (.of_eq ?_) rfl | exact AV.ToL.nil | refine AV.ToL.cons ?_ ?_ | refine .ofEq ?_ | exact OB.To.nil rfl | refine OB.To.row rfl rfl ?_ ?_ | refine OB.To.cut rfl rfl ?_ ?_ ?_ ?_ | refine OB.To.box rfl rfl ?_ | refine ⟨⟨_, rfl, ?_⟩, ?_⟩ | refine ⟨?_, ?_⟩ | fail))
  rintro k ⟨hk, hd⟩
  try dsimp only
  by_cases hlt : k < 5
  case neg =>
    have hek : k = 5 := by omega
    subst hek
    have hw : w5 f 0 = true := hd
    rw [hw, if_neg (by simp)] at hb
    repeat' (first
      | (apply Ops.loc; (· rfl); (· rfl); (· rfl); (· first | exact .eff (.mv rfl) | exact .eff (.asg rfl) | exact .eff (.loadO rfl rfl rfl) | exact .eff (.fldO rfl rfl rfl) | exact .eff (.lenO rfl rfl rfl) | exact .eff (.lenS rfl rfl) | exact .eff (.and rfl rfl rfl) | exact .eff (.not rfl) | exact .eff (.bin rfl rfl rfl) | exact .callL rfl rfl rfl (by first | exact in_T _ _ _) rfl))
      | with_reducible refine WP.seq ?_
      | with_reducible apply WP.reg tbl_ok rfl
      | with_reducible refine Ops.nil ?_
      | with_reducible refine thenQ.nor ?_
      | with_reducible refine thenQ.ex ?_
      | with_reducible refine thenQ.ret ?_
      | with_reducible refine blockQ.hit rfl ?_
      | with_reducible refine WP.skip ?_
      | with_reducible refine WP.exit ?_
      | with_reducible refine WP.ret ?_
      | refine WP.condF rfl ?_
      | (refine WP.cond rfl ?_ ?_ <;> intro hcond)
      | (apply Ops.gst; (· rfl); (· rfl); (· rfl); (· rfl); (· rfl); (· rfl); (· rfl); (· first | exact .b | exact .w); (· intro hc; repeat' (first | exact trivial | exact fun _ => hc | exact fun _ => hc.1 | exact fun _ => ⟨hc.1.1, hc.1.2⟩ | refine And.intro ?_ ?_)); (· intro hc; first | exact .eff (.mvG rfl) | exact .eff (.asg rfl) | exact .eff (.loadO rfl rfl rfl) | exact .eff (.fldO rfl rfl rfl) | exact .eff (.lenO rfl rfl rfl) | exact .eff (.lenS rfl rfl) | exact .eff (.and rfl rfl rfl) | exact .eff (.not rfl) | exact .eff (.bin rfl rfl rfl)); (· rfl); (· rfl))
      | (apply Ops.gor; (· rfl); (· rfl); (· rfl); (· rfl); (· rfl); (· rfl); (· rfl); (· exact (by first | exact .b | exact .w)); (· rfl); (· rfl); (· rfl); (· simp); (· intro hc; first | exact hc | exact hc.1); (· intro hc; exact ⟨fun h => h.2, fun h => ⟨hc, h⟩⟩))
      | fail)
    all_goals (try exact ([] : List Fp))
    all_goals
      refine .f1 (.inl rfl) rfl ?_
      rw [hb]
      simp only [*]
      rfl
  case pos =>
    have hat := w5_at (f := f) hlt
    repeat' (first
      | (apply Ops.loc; (· rfl); (· rfl); (· rfl); (· first | (exact .eff (.loadO rfl rfl (read5 hlt))) | exact .eff (.mv rfl) | exact .eff (.asg rfl) | (refine .eff (.add64 rfl rfl ?_ ?_) <;> omega) | exact .eff (.lenO rfl rfl rfl) | exact .eff (.not rfl) | exact .eff (.bin rfl rfl rfl) | exact .eff (.idxO rfl rfl rfl rfl (by omega) (by omega)) | exact .callL rfl rfl rfl (by first | exact in_T _ _ _) rfl))
      | with_reducible refine WP.seq ?_
      | with_reducible apply WP.reg tbl_ok rfl
      | with_reducible refine Ops.nil ?_
      | with_reducible refine thenQ.nor ?_
      | with_reducible refine thenQ.ret ?_
      | with_reducible refine blockQ.nor ?_
      | with_reducible refine blockQ.ret ?_
      | with_reducible refine WP.block ?_
      | with_reducible refine WP.skip ?_
      | with_reducible refine WP.ret ?_
      | (refine WP.condT (c := _) (condD rfl (by first | exact decide_eq_true (by omega) | exact bne_iff_ne.2 (by omega) | exact beq_iff_eq.2 (by omega) | (simp only [Bool.or_eq_true, Bool.and_eq_true, Bool.or_eq_false_iff, Bool.and_eq_false_iff, decide_eq_true_eq, decide_eq_false_iff_not, bne_iff_ne, beq_iff_eq, bne_eq_false_iff_eq, beq_eq_false_iff_ne, Bool.not_eq_true', Bool.not_eq_false', ne_eq]; omega))) ?_)
      | (refine WP.cond rfl ?_ ?_ <;> intro hcond)
      | fail)
    all_goals (try exact ([] : List Fp))
    · refine .f1 (.inl rfl) rfl ?_
      have : w5 f 0 = false := by rw [hd, hat]; simp at hcond; rw [show word (l5 f k) = false from hcond]; rfl
      rw [hb, if_pos this]
    · refine ⟨k + 1, ⟨by omega, ?_⟩, by omega, ?_⟩
      · simp at hcond
        rw [hd, hat, show word (l5 f k) = true from hcond]
        rfl
      · skip
        refine St.to [] [] rfl rfl ?_ ?_ <;> (repeat' (first | exact trivial | with_reducible rfl | exact .any | exact .ptr rfl | exact .sl rfl | exact .ptr0 rfl | exact .sl0 rfl | exact AV.To.nil rfl | exact .frz rfl rfl rfl | exact .frb rfl rfl (by omega) rfl | exact .frp rfl rfl rfl | refine AV.To.agg ?_ | refine AV.To.tup ?_ | exact .le (.refl _) rfl | exact .le AV.Le.nil rfl | refine AV.To.frzE rfl ?_ ?_ rfl | refine AV.To.frbE rfl ?_ ?_ (by omega) rfl | refine .le (.of_eq ?_) rfl | exact AV.ToL.nil | refine AV.ToL.cons ?_ ?_ | refine .ofEq ?_ | exact OB.To.nil rfl | refine OB.To.row rfl rfl ?_ ?_ | refine OB.To.cut rfl rfl ?_ ?_ ?_ ?_ | refine OB.To.box rfl rfl ?_ | refine ⟨⟨_, rfl, ?_⟩, ?_⟩ | refine ⟨?_, ?_⟩ | fail))
end Go.Proofs.Ytdbbmjdeeenlhaa
