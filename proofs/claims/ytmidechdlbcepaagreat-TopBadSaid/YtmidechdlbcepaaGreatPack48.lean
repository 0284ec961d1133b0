import Derived.Test.YtmidechdlbcepaaGreatPack36
import Derived.Test.YtmidechdlbcepaaGreatPack37
set_option linter.unusedSimpArgs false
set_option linter.unusedVariables false
namespace Go.Proofs.YtmidechdlbcepaaGreat
open Go.RowKit
set_option maxRecDepth 100000
set_option maxHeartbeats 4000000 in
theorem applyO_T (c : Cf) (a : De) (hl : c.Fit) : FunO Tryz.prog 58 [.agg ((encCf c).map .fv), .agg ((encDe a).map .fv)] [] (.tup [.agg [.osl 7, .osl 8, .osl 9], .fv (.int .i64 (applyE c a))]) [(7, .row 44 3 (applyR c a).ss.length (((applyR c a).ss.flatMap encSw).map .fv)), (8, .row 69 5 (applyR c a).ps.length (((applyR c a).ps.flatMap encPo).map .fv)), (9, .row 38 9 (applyR c a).acs.length (((applyR c a).acs.flatMap encAc).map .fv))] := by
  have hck := confCheck_T c hl.small
  refine FunO.bodyL tbl_ok Tryz.func58 rfl (by kernel_rfl) rfl rfl rfl ?_
  cases hm : cfMay c with
  | false =>
    rw [hm] at hck
    rw [applyE_bad hm, applyR_bad (by rw [applyE_bad hm]; decide)]
    repeat' (first | (apply X.loE; (· exact aR); (· first | exact .callL rfl rfl rfl (hck) rfl | exact bl (hck))) | refine X.loc ?_ | refine nx ?_ | refine X.cdT ?_ | refine X.cdF ?_ | refine cb ?_ ?_ | (refine cc ?_ ?_ <;> intro hcond) | (apply X.gsE; (· exact aR); (· exact aV); (· exact aW); (· intro hc; first | exact .callG rfl rfl rfl (hck) rfl | exact bg (hck)); (· exact aR)) | refine rb ?_ | refine nd ?_ | refine dk ?_ | fail)
    exact rq ⟨[(4, .optr 4 0), (5, .fv (.int .i64 8))], [(7, .row 44 3 0 []), (8, .row 69 5 0 []), (9, .row 38 9 0 []), (4, .box 26 [.osl 7, .osl 8, .osl 9])]⟩ (tq [(7, .nil), (8, .nil), (9, .nil)] [])
  | true =>
    rw [hm] at hck
    have hlen := cfMay_len hm
    have hcp := copy_T c hl
    have b1 := hlen.ss
    have b2 := hlen.ps
    have b3 := hlen.acs
    have e0 : applyE c a = if a.kind = 1 then swFault c a.sw else if a.kind = 2 then poFault c a.po else if a.kind = 3 then acFault c a.ac else if a.kind = 4 ∨ a.kind = 6 then (if idxB (fun p => p.id == a.n) c.ps < 0 then 6 else if a.kind = 6 ∧ inR a.m (-1) 5 = false then 2 else 0) else if a.kind = 5 then (if a.n < 0 ∨ (c.acs.length : Int) ≤ a.n then 6 else 0) else 3 := by
      rw [applyE, if_neg (by rw [hm]; decide)]
    by_cases k : a.kind = 1
    · rw [if_pos k] at e0
      have c1 := addSwitch_T c a.sw hl.small hlen.wf b1
      generalize swFault c a.sw = e at *
      by_cases he : e = 0
      · subst he
        have e5 : applyC c a = { c with ss := c.ss ++ [a.sw] } := by rw [applyC, if_pos k]
        rw [show applyR c a = { c with ss := c.ss ++ [a.sw] } from by rw [applyR_ok e0, e5], e0]
        repeat' (first | (apply X.loE; (· exact aR); (· first | exact .callL rfl rfl rfl (by first | exact hck | exact c1) rfl | exact bl (hck) | exact bl (c1))) | refine X.loc ?_ | refine nx ?_ | refine X.cdT ?_ | refine X.cdF ?_ | refine cb ?_ ?_ | (refine cc ?_ ?_ <;> intro hcond) | (apply X.gsE; (· exact aR); (· exact aV); (· exact aW); (· intro hc; first | exact .callG rfl rfl rfl (by first | exact hck | exact c1) rfl | exact bg (hck) | exact bg (c1)); (· exact aR)) | refine rb ?_ | refine X.c0 (hcp) ?_ | refine nd ?_ | refine dk ?_ | fail)
        refine .ofL (s' := ⟨[(4, .optr 4 0), (5, .fv (.int .i64 0))], [(7, .row 44 3 (c.ss ++ [a.sw]).length (((c.ss ++ [a.sw]).flatMap encSw).map .fv)), (8, .row 69 5 c.ps.length ((c.ps.flatMap encPo).map .fv)), (9, .row 38 9 c.acs.length ((c.acs.flatMap encAc).map .fv)), (4, .box 26 [.osl 7, .osl 8, .osl 9])]⟩) (by first | exact .inl rfl | exact .inr rfl) ?_ rfl rfl (by repeat' (first | exact trivial | refine ⟨⟨_, rfl, fun _ _ _ _ h => h⟩, ?_⟩))
        refine St.to [(7, .id 30), (8, .id 316), (9, .id 616)] [] rfl rfl ?_ ?_ <;> (repeat' (first | exact tA | refine t1 ?_ | exact tB | refine t2 ?_ ?_ | refine t3 ?_ | refine t4 ?_ ?_ | refine .ofEq ?_ | refine OB.To.cut rfl rfl ?_ ?_ ?_ ?_ | refine OB.To.box rfl rfl ?_ | refine ⟨⟨_, rfl, ?_⟩, ?_⟩ | refine ⟨?_, ?_⟩ | fail))
        all_goals first | omega | (simp; done) | (rw [List.length_eraseIdx, if_pos (by omega)]; done) | (simp only [List.flatMap_append, List.map_append]; rfl)
      · skip
        rw [applyR_bad (by rw [e0]; first | exact he | decide), e0]
        repeat' (first | (apply X.loE; (· exact aR); (· first | exact .callL rfl rfl rfl (by first | exact hck | exact c1) rfl | exact bl (hck) | exact bl (c1))) | refine X.loc ?_ | refine nx ?_ | refine X.cdT ?_ | refine X.cdF ?_ | refine cb ?_ ?_ | (refine cc ?_ ?_ <;> intro hcond) | (apply X.gsE; (· exact aR); (· exact aV); (· exact aW); (· intro hc; first | exact .callG rfl rfl rfl (by first | exact hck | exact c1) rfl | exact bg (hck) | exact bg (c1)); (· exact aR)) | refine rb ?_ | refine X.c0 (hcp) ?_ | refine nd ?_ | refine dk ?_ | fail)
        exact rq ⟨[(4, .optr 4 0), (5, .fv (.int .i64 e))], [(7, .row 44 3 0 []), (8, .row 69 5 0 []), (9, .row 38 9 0 []), (4, .box 26 [.osl 7, .osl 8, .osl 9])]⟩ (tq [(7, .nil), (8, .nil), (9, .nil)] [])
    have k1 := k
    clear k
    rw [if_neg k1] at e0
    by_cases k : a.kind = 2
    · rw [if_pos k] at e0
      have c1 := addPort_T c a.po hl.small hlen.wf b2
      generalize poFault c a.po = e at *
      by_cases he : e = 0
      · subst he
        have e5 : applyC c a = { c with ps := c.ps ++ [a.po] } := by rw [applyC, if_neg (by rw [k]; decide), if_pos k]
        rw [show applyR c a = { c with ps := c.ps ++ [a.po] } from by rw [applyR_ok e0, e5], e0]
        repeat' (first | (apply X.loE; (· exact aR); (· first | exact .callL rfl rfl rfl (by first | exact hck | exact c1) rfl | exact bl (hck) | exact bl (c1))) | refine X.loc ?_ | refine nx ?_ | refine X.cdT ?_ | refine X.cdF ?_ | refine cb ?_ ?_ | (refine cc ?_ ?_ <;> intro hcond) | (apply X.gsE; (· exact aR); (· exact aV); (· exact aW); (· intro hc; first | exact .callG rfl rfl rfl (by first | exact hck | exact c1) rfl | exact bg (hck) | exact bg (c1)); (· exact aR)) | refine rb ?_ | refine X.c0 (hcp) ?_ | refine nd ?_ | refine dk ?_ | fail)
        refine .ofL (s' := ⟨[(4, .optr 4 0), (5, .fv (.int .i64 0))], [(7, .row 44 3 c.ss.length ((c.ss.flatMap encSw).map .fv)), (8, .row 69 5 (c.ps ++ [a.po]).length (((c.ps ++ [a.po]).flatMap encPo).map .fv)), (9, .row 38 9 c.acs.length ((c.acs.flatMap encAc).map .fv)), (4, .box 26 [.osl 7, .osl 8, .osl 9])]⟩) (by first | exact .inl rfl | exact .inr rfl) ?_ rfl rfl (by repeat' (first | exact trivial | refine ⟨⟨_, rfl, fun _ _ _ _ h => h⟩, ?_⟩))
        refine St.to [(7, .id 16), (8, .id 43), (9, .id 616)] [] rfl rfl ?_ ?_ <;> (repeat' (first | exact tA | refine t1 ?_ | exact tB | refine t2 ?_ ?_ | refine t3 ?_ | refine t4 ?_ ?_ | refine .ofEq ?_ | refine OB.To.cut rfl rfl ?_ ?_ ?_ ?_ | refine OB.To.box rfl rfl ?_ | refine ⟨⟨_, rfl, ?_⟩, ?_⟩ | refine ⟨?_, ?_⟩ | fail))
        all_goals first | omega | (simp; done) | (rw [List.length_eraseIdx, if_pos (by omega)]; done) | (simp only [List.flatMap_append, List.map_append]; rfl)
      · skip
        rw [applyR_bad (by rw [e0]; first | exact he | decide), e0]
        repeat' (first | (apply X.loE; (· exact aR); (· first | exact .callL rfl rfl rfl (by first | exact hck | exact c1) rfl | exact bl (hck) | exact bl (c1))) | refine X.loc ?_ | refine nx ?_ | refine X.cdT ?_ | refine X.cdF ?_ | refine cb ?_ ?_ | (refine cc ?_ ?_ <;> intro hcond) | (apply X.gsE; (· exact aR); (· exact aV); (· exact aW); (· intro hc; first | exact .callG rfl rfl rfl (by first | exact hck | exact c1) rfl | exact bg (hck) | exact bg (c1)); (· exact aR)) | refine rb ?_ | refine X.c0 (hcp) ?_ | refine nd ?_ | refine dk ?_ | fail)
        exact rq ⟨[(4, .optr 4 0), (5, .fv (.int .i64 e))], [(7, .row 44 3 0 []), (8, .row 69 5 0 []), (9, .row 38 9 0 []), (4, .box 26 [.osl 7, .osl 8, .osl 9])]⟩ (tq [(7, .nil), (8, .nil), (9, .nil)] [])
    have k2 := k
    clear k
    rw [if_neg k2] at e0
    by_cases k : a.kind = 3
    · rw [if_pos k] at e0
      have c1 := addAcl_T c a.ac hl.small b3
      generalize acFault c a.ac = e at *
      by_cases he : e = 0
      · subst he
        have e5 : applyC c a = { c with acs := c.acs ++ [a.ac] } := by rw [applyC, if_neg (by rw [k]; decide), if_neg (by rw [k]; decide), if_pos k]
        rw [show applyR c a = { c with acs := c.acs ++ [a.ac] } from by rw [applyR_ok e0, e5], e0]
        repeat' (first | (apply X.loE; (· exact aR); (· first | exact .callL rfl rfl rfl (by first | exact hck | exact c1) rfl | exact bl (hck) | exact bl (c1))) | refine X.loc ?_ | refine nx ?_ | refine X.cdT ?_ | refine X.cdF ?_ | refine cb ?_ ?_ | (refine cc ?_ ?_ <;> intro hcond) | (apply X.gsE; (· exact aR); (· exact aV); (· exact aW); (· intro hc; first | exact .callG rfl rfl rfl (by first | exact hck | exact c1) rfl | exact bg (hck) | exact bg (c1)); (· exact aR)) | refine rb ?_ | refine X.c0 (hcp) ?_ | refine nd ?_ | refine dk ?_ | fail)
        refine .ofL (s' := ⟨[(4, .optr 4 0), (5, .fv (.int .i64 0))], [(7, .row 44 3 c.ss.length ((c.ss.flatMap encSw).map .fv)), (8, .row 69 5 c.ps.length ((c.ps.flatMap encPo).map .fv)), (9, .row 38 9 (c.acs ++ [a.ac]).length (((c.acs ++ [a.ac]).flatMap encAc).map .fv)), (4, .box 26 [.osl 7, .osl 8, .osl 9])]⟩) (by first | exact .inl rfl | exact .inr rfl) ?_ rfl rfl (by repeat' (first | exact trivial | refine ⟨⟨_, rfl, fun _ _ _ _ h => h⟩, ?_⟩))
        refine St.to [(7, .id 16), (8, .id 316), (9, .id 56)] [] rfl rfl ?_ ?_ <;> (repeat' (first | exact tA | refine t1 ?_ | exact tB | refine t2 ?_ ?_ | refine t3 ?_ | refine t4 ?_ ?_ | refine .ofEq ?_ | refine OB.To.cut rfl rfl ?_ ?_ ?_ ?_ | refine OB.To.box rfl rfl ?_ | refine ⟨⟨_, rfl, ?_⟩, ?_⟩ | refine ⟨?_, ?_⟩ | fail))
        all_goals first | omega | (simp; done) | (rw [List.length_eraseIdx, if_pos (by omega)]; done) | (simp only [List.flatMap_append, List.map_append]; rfl)
      · skip
        rw [applyR_bad (by rw [e0]; first | exact he | decide), e0]
        repeat' (first | (apply X.loE; (· exact aR); (· first | exact .callL rfl rfl rfl (by first | exact hck | exact c1) rfl | exact bl (hck) | exact bl (c1))) | refine X.loc ?_ | refine nx ?_ | refine X.cdT ?_ | refine X.cdF ?_ | refine cb ?_ ?_ | (refine cc ?_ ?_ <;> intro hcond) | (apply X.gsE; (· exact aR); (· exact aV); (· exact aW); (· intro hc; first | exact .callG rfl rfl rfl (by first | exact hck | exact c1) rfl | exact bg (hck) | exact bg (c1)); (· exact aR)) | refine rb ?_ | refine X.c0 (hcp) ?_ | refine nd ?_ | refine dk ?_ | fail)
        exact rq ⟨[(4, .optr 4 0), (5, .fv (.int .i64 e))], [(7, .row 44 3 0 []), (8, .row 69 5 0 []), (9, .row 38 9 0 []), (4, .box 26 [.osl 7, .osl 8, .osl 9])]⟩ (tq [(7, .nil), (8, .nil), (9, .nil)] [])
    have k3 := k
    clear k
    rw [if_neg k3] at e0
    by_cases k46 : a.kind = 4 ∨ a.kind = 6
    · rw [if_pos k46] at e0
      have c1 := port_T c a.n hl.small.2.1
      have hge := idxB_ge (fun p : Po => p.id == a.n) c.ps
      have hgen : ∃ x, x = idxB (fun p : Po => p.id == a.n) c.ps := ⟨_, rfl⟩
      obtain ⟨x, hx⟩ := hgen
      by_cases h0 : x < 0
      · rw [← hx, if_pos h0] at e0
        rw [← hx] at c1
        rcases k46 with k | k
        · skip
          rw [applyR_bad (by rw [e0]; first | exact he | decide), e0]
          repeat' (first | (apply X.loE; (· exact aR); (· first | exact .callL rfl rfl rfl (by first | exact hck | exact c1) rfl | exact bl (hck) | exact bl (c1))) | refine X.loc ?_ | refine nx ?_ | refine X.cdT ?_ | refine X.cdF ?_ | refine cb ?_ ?_ | (refine cc ?_ ?_ <;> intro hcond) | (apply X.gsE; (· exact aR); (· exact aV); (· exact aW); (· intro hc; first | exact .callG rfl rfl rfl (by first | exact hck | exact c1) rfl | exact bg (hck) | exact bg (c1)); (· exact aR)) | refine rb ?_ | refine X.c0 (hcp) ?_ | refine nd ?_ | refine dk ?_ | fail)
          exact rq ⟨[(4, .optr 4 0), (5, .fv (.int .i64 6))], [(7, .row 44 3 0 []), (8, .row 69 5 0 []), (9, .row 38 9 0 []), (4, .box 26 [.osl 7, .osl 8, .osl 9])]⟩ (tq [(7, .nil), (8, .nil), (9, .nil)] [])
        · skip
          rw [applyR_bad (by rw [e0]; first | exact he | decide), e0]
          repeat' (first | (apply X.loE; (· exact aR); (· first | exact .callL rfl rfl rfl (by first | exact hck | exact c1) rfl | exact bl (hck) | exact bl (c1))) | refine X.loc ?_ | refine nx ?_ | refine X.cdT ?_ | refine X.cdF ?_ | refine cb ?_ ?_ | (refine cc ?_ ?_ <;> intro hcond) | (apply X.gsE; (· exact aR); (· exact aV); (· exact aW); (· intro hc; first | exact .callG rfl rfl rfl (by first | exact hck | exact c1) rfl | exact bg (hck) | exact bg (c1)); (· exact aR)) | refine rb ?_ | refine X.c0 (hcp) ?_ | refine nd ?_ | refine dk ?_ | fail)
          exact rq ⟨[(4, .optr 4 0), (5, .fv (.int .i64 6))], [(7, .row 44 3 0 []), (8, .row 69 5 0 []), (9, .row 38 9 0 []), (4, .box 26 [.osl 7, .osl 8, .osl 9])]⟩ (tq [(7, .nil), (8, .nil), (9, .nil)] [])
      · obtain ⟨i, rfl⟩ : ∃ i : Nat, x = i := ⟨x.toNat, by omega⟩
        rw [← hx, if_neg h0] at e0
        rw [← hx] at c1 hge
        have hi : i < c.ps.length := by omega
        rcases k46 with k | k
        · rw [if_neg (by rw [k]; simp)] at e0
          have c2 := deletePo_T c.ps i ((i : Int) + 1) (by omega) hi hl.2.1
          have e5 : applyC c a = { c with ps := c.ps.eraseIdx i } := by rw [applyC, if_neg (by rw [k]; decide), if_neg (by rw [k]; decide), if_neg (by rw [k]; decide), if_pos k, ← hx, Int.toNat_natCast]
          rw [show applyR c a = { c with ps := c.ps.eraseIdx i } from by rw [applyR_ok e0, e5], e0]
          repeat' (first | (apply X.loE; (· exact aR); (· first | exact .callL rfl rfl rfl (by first | exact hck | exact c1) rfl | exact bl (hck) | exact bl (c1))) | refine X.loc ?_ | refine nx ?_ | refine X.cdT ?_ | refine X.cdF ?_ | refine cb ?_ ?_ | (refine cc ?_ ?_ <;> intro hcond) | (apply X.gsE; (· exact aR); (· exact aV); (· exact aW); (· intro hc; first | exact .callG rfl rfl rfl (by first | exact hck | exact c1) rfl | exact bg (hck) | exact bg (c1)); (· exact aR)) | refine rb ?_ | refine X.c0 (hcp) ?_ | refine X.c0 (c2) ?_ | refine nd ?_ | refine dk ?_ | fail)
          refine .ofL (s' := ⟨[(4, .optr 4 0), (5, .fv (.int .i64 0))], [(7, .row 44 3 c.ss.length ((c.ss.flatMap encSw).map .fv)), (8, .row 69 5 (c.ps.eraseIdx i).length (((c.ps.eraseIdx i).flatMap encPo).map .fv)), (9, .row 38 9 c.acs.length ((c.acs.flatMap encAc).map .fv)), (4, .box 26 [.osl 7, .osl 8, .osl 9])]⟩) (by first | exact .inl rfl | exact .inr rfl) ?_ rfl rfl (by repeat' (first | exact trivial | refine ⟨⟨_, rfl, fun _ _ _ _ h => h⟩, ?_⟩))
          refine St.to [(7, .id 16), (8, .id 84), (9, .id 616)] [] rfl rfl ?_ ?_ <;> (repeat' (first | exact tA | refine t1 ?_ | exact tB | refine t2 ?_ ?_ | refine t3 ?_ | refine t4 ?_ ?_ | refine .ofEq ?_ | refine OB.To.cut rfl rfl ?_ ?_ ?_ ?_ | refine OB.To.box rfl rfl ?_ | refine ⟨⟨_, rfl, ?_⟩, ?_⟩ | refine ⟨?_, ?_⟩ | fail))
          all_goals first | omega | (simp; done) | (rw [List.length_eraseIdx, if_pos (by omega)]; done) | (simp only [List.flatMap_append, List.map_append]; rfl)
        · cases hr : inR a.m (-1) 5 with
          | false =>
            rw [if_pos ⟨k, hr⟩] at e0
            have c2 := within_T a.m (-1) 5
            rw [hr] at c2
            rw [applyR_bad (by rw [e0]; first | exact he | decide), e0]
            repeat' (first | (apply X.loE; (· exact aR); (· first | exact .callL rfl rfl rfl (by first | exact hck | exact c1 | exact c2) rfl | exact bl (hck) | exact bl (c1) | exact bl (c2))) | refine X.loc ?_ | refine nx ?_ | refine X.cdT ?_ | refine X.cdF ?_ | refine cb ?_ ?_ | (refine cc ?_ ?_ <;> intro hcond) | (apply X.gsE; (· exact aR); (· exact aV); (· exact aW); (· intro hc; first | exact .callG rfl rfl rfl (by first | exact hck | exact c1 | exact c2) rfl | exact bg (hck) | exact bg (c1) | exact bg (c2)); (· exact aR)) | refine rb ?_ | refine X.c0 (hcp) ?_ | refine nd ?_ | refine dk ?_ | fail)
            exact rq ⟨[(4, .optr 4 0), (5, .fv (.int .i64 2))], [(7, .row 44 3 0 []), (8, .row 69 5 0 []), (9, .row 38 9 0 []), (4, .box 26 [.osl 7, .osl 8, .osl 9])]⟩ (tq [(7, .nil), (8, .nil), (9, .nil)] [])
          | true =>
            rw [if_neg (by rw [hr]; simp)] at e0
            have c2 := within_T a.m (-1) 5
            rw [hr] at c2
            have hset := po_modify c.ps i hi a.m
            have e5 : applyC c a = { c with ps := c.ps.modify i fun p => { p with ch := a.m } } := by rw [applyC, if_neg (by rw [k]; decide), if_neg (by rw [k]; decide), if_neg (by rw [k]; decide), if_neg (by rw [k]; decide), if_pos k, ← hx, Int.toNat_natCast]
            rw [show applyR c a = { c with ps := c.ps.modify i fun p => { p with ch := a.m } } from by rw [applyR_ok e0, e5], e0]
            repeat' (first | (apply X.loE; (· exact aR); (· first | exact .callL rfl rfl rfl (by first | exact hck | exact c1 | exact c2) rfl | exact bl (hck) | exact bl (c1) | exact bl (c2))) | refine X.loc ?_ | (apply X.stRE; (· exact aS); (· exact hset); (· exact aE)) | refine nx ?_ | refine X.cdT ?_ | refine X.cdF ?_ | refine cb ?_ ?_ | (refine cc ?_ ?_ <;> intro hcond) | (apply X.gsE; (· exact aR); (· exact aV); (· exact aW); (· intro hc; first | exact .callG rfl rfl rfl (by first | exact hck | exact c1 | exact c2) rfl | exact bg (hck) | exact bg (c1) | exact bg (c2)); (· exact aR)) | refine rb ?_ | refine X.c0 (hcp) ?_ | refine nd ?_ | refine dk ?_ | fail)
            refine .ofL (s' := ⟨[(4, .optr 4 0), (5, .fv (.int .i64 0))], [(7, .row 44 3 c.ss.length ((c.ss.flatMap encSw).map .fv)), (8, .row 69 5 (c.ps.modify i fun p => { p with ch := a.m }).length (((c.ps.modify i fun p => { p with ch := a.m }).flatMap encPo).map .fv)), (9, .row 38 9 c.acs.length ((c.acs.flatMap encAc).map .fv)), (4, .box 26 [.osl 7, .osl 8, .osl 9])]⟩) (by first | exact .inl rfl | exact .inr rfl) ?_ rfl rfl (by repeat' (first | exact trivial | refine ⟨⟨_, rfl, fun _ _ _ _ h => h⟩, ?_⟩))
            refine St.to [(7, .id 16), (8, .id 316), (9, .id 616)] [] rfl rfl ?_ ?_ <;> (repeat' (first | exact tA | refine t1 ?_ | exact tB | refine t2 ?_ ?_ | refine t3 ?_ | refine t4 ?_ ?_ | refine .ofEq ?_ | refine OB.To.cut rfl rfl ?_ ?_ ?_ ?_ | refine OB.To.box rfl rfl ?_ | refine ⟨⟨_, rfl, ?_⟩, ?_⟩ | refine ⟨?_, ?_⟩ | fail))
            all_goals first | omega | (simp; done) | (rw [List.length_eraseIdx, if_pos (by omega)]; done) | (simp only [List.flatMap_append, List.map_append]; rfl)
    rw [if_neg k46] at e0
    have k4 : a.kind ≠ 4 := fun h => k46 (.inl h)
    have k6 : a.kind ≠ 6 := fun h => k46 (.inr h)
    by_cases k : a.kind = 5
    · rw [if_pos k] at e0
      by_cases hn : a.n < 0 ∨ (c.acs.length : Int) ≤ a.n
      · rw [if_pos hn] at e0
        rw [applyR_bad (by rw [e0]; first | exact he | decide), e0]
        repeat' (first | (apply X.loE; (· exact aR); (· first | exact .callL rfl rfl rfl (hck) rfl | exact bl (hck))) | refine X.loc ?_ | refine nx ?_ | refine X.cdT ?_ | refine X.cdF ?_ | refine cb ?_ ?_ | (refine cc ?_ ?_ <;> intro hcond) | (apply X.gsE; (· exact aR); (· exact aV); (· exact aW); (· intro hc; first | exact .callG rfl rfl rfl (hck) rfl | exact bg (hck)); (· exact aR)) | refine rb ?_ | refine X.c0 (hcp) ?_ | refine nd ?_ | refine dk ?_ | fail)
        exact rq ⟨[(4, .optr 4 0), (5, .fv (.int .i64 6))], [(7, .row 44 3 0 []), (8, .row 69 5 0 []), (9, .row 38 9 0 []), (4, .box 26 [.osl 7, .osl 8, .osl 9])]⟩ (tq [(7, .nil), (8, .nil), (9, .nil)] [])
      · rw [if_neg hn] at e0
        obtain ⟨i, hi⟩ : ∃ i : Nat, a.n = i := ⟨a.n.toNat, by omega⟩
        have c2 := deleteAc_T c.acs i (a.n + 1) (by omega) (by omega) hl.2.2
        rw [← hi] at c2
        have e5 : applyC c a = { c with acs := c.acs.eraseIdx i } := by rw [applyC, if_neg (by rw [k]; decide), if_neg (by rw [k]; decide), if_neg (by rw [k]; decide), if_neg (by rw [k]; decide), if_neg (by rw [k]; decide), hi, Int.toNat_natCast]
        rw [show applyR c a = { c with acs := c.acs.eraseIdx i } from by rw [applyR_ok e0, e5], e0]
        repeat' (first | (apply X.loE; (· exact aR); (· first | exact .callL rfl rfl rfl (hck) rfl | exact bl (hck))) | refine X.loc ?_ | refine nx ?_ | refine X.cdT ?_ | refine X.cdF ?_ | refine cb ?_ ?_ | (refine cc ?_ ?_ <;> intro hcond) | (apply X.gsE; (· exact aR); (· exact aV); (· exact aW); (· intro hc; first | exact .callG rfl rfl rfl (hck) rfl | exact bg (hck)); (· exact aR)) | refine rb ?_ | refine X.c0 (hcp) ?_ | refine X.c0 (c2) ?_ | refine nd ?_ | refine dk ?_ | fail)
        refine .ofL (s' := ⟨[(4, .optr 4 0), (5, .fv (.int .i64 0))], [(7, .row 44 3 c.ss.length ((c.ss.flatMap encSw).map .fv)), (8, .row 69 5 c.ps.length ((c.ps.flatMap encPo).map .fv)), (9, .row 38 9 (c.acs.eraseIdx i).length (((c.acs.eraseIdx i).flatMap encAc).map .fv)), (4, .box 26 [.osl 7, .osl 8, .osl 9])]⟩) (by first | exact .inl rfl | exact .inr rfl) ?_ rfl rfl (by repeat' (first | exact trivial | refine ⟨⟨_, rfl, fun _ _ _ _ h => h⟩, ?_⟩))
        refine St.to [(7, .id 16), (8, .id 316), (9, .id 111)] [] rfl rfl ?_ ?_ <;> (repeat' (first | exact tA | refine t1 ?_ | exact tB | refine t2 ?_ ?_ | refine t3 ?_ | refine t4 ?_ ?_ | refine .ofEq ?_ | refine OB.To.cut rfl rfl ?_ ?_ ?_ ?_ | refine OB.To.box rfl rfl ?_ | refine ⟨⟨_, rfl, ?_⟩, ?_⟩ | refine ⟨?_, ?_⟩ | fail))
        all_goals first | omega | (simp; done) | (rw [List.length_eraseIdx, if_pos (by omega)]; done) | (simp only [List.flatMap_append, List.map_append]; rfl)
    · rw [if_neg k] at e0
      rw [applyR_bad (by rw [e0]; first | exact he | decide), e0]
      repeat' (first | (apply X.loE; (· exact aR); (· first | exact .callL rfl rfl rfl (hck) rfl | exact bl (hck))) | refine X.loc ?_ | refine nx ?_ | refine X.cdT ?_ | refine X.cdF ?_ | refine cb ?_ ?_ | (refine cc ?_ ?_ <;> intro hcond) | (apply X.gsE; (· exact aR); (· exact aV); (· exact aW); (· intro hc; first | exact .callG rfl rfl rfl (hck) rfl | exact bg (hck)); (· exact aR)) | refine rb ?_ | refine X.c0 (hcp) ?_ | refine nd ?_ | refine dk ?_ | fail)
      exact rq ⟨[(4, .optr 4 0), (5, .fv (.int .i64 3))], [(7, .row 44 3 0 []), (8, .row 69 5 0 []), (9, .row 38 9 0 []), (4, .box 26 [.osl 7, .osl 8, .osl 9])]⟩ (tq [(7, .nil), (8, .nil), (9, .nil)] [])
theorem scal_sw (l : List Sw) : ∀ u ∈ l.flatMap encSw, (AV.fv u).scal = true := by
  intro u hu
  obtain ⟨x, _, h⟩ := List.mem_flatMap.1 hu
  simp only [encSw, List.mem_cons, List.not_mem_nil, or_false] at h
  rcases h with rfl | rfl | rfl <;> rfl
theorem scal_po (l : List Po) : ∀ u ∈ l.flatMap encPo, (AV.fv u).scal = true := by
  intro u hu
  obtain ⟨x, _, h⟩ := List.mem_flatMap.1 hu
  simp only [encPo, List.mem_cons, List.not_mem_nil, or_false] at h
  rcases h with rfl | rfl | rfl | rfl | rfl <;> rfl
theorem scal_ac (l : List Ac) : ∀ u ∈ l.flatMap encAc, (AV.fv u).scal = true := by
  intro u hu
  obtain ⟨x, _, h⟩ := List.mem_flatMap.1 hu
  simp only [encAc, List.mem_cons, List.not_mem_nil, or_false] at h
  rcases h with rfl | rfl | rfl | rfl | rfl | rfl | rfl | rfl | rfl <;> rfl
theorem aCk {p : Prop} (h : p := by (refine ⟨?_, ?_, ?_, ?_, ?_, ?_, ?_, ?_, ?_, ?_, ?_⟩; (· skip; (repeat' (first | exact trivial | exact AV.ToL.nil | exact .ptr rfl | exact .sl rfl | exact AV.To.nil rfl | exact .le (.refl _) rfl | exact .frz rfl rfl rfl | exact .frp rfl rfl rfl | exact .le AV.Le.nil rfl | refine AV.To.agg ?_ | refine AV.To.fn ?_ | refine AV.ToL.cons ?_ ?_ | exact OB.To.nil rfl | refine OB.To.row rfl rfl rfl ?_ | refine OB.To.box rfl rfl ?_ | exact .ofEq rfl | refine ⟨?_, ?_⟩ | exact AV.To.cut rfl | fail))); (· skip; (repeat' (first | exact trivial | exact AV.ToL.nil | exact .ptr rfl | exact .sl rfl | exact AV.To.nil rfl | exact .le (.refl _) rfl | exact .frz rfl rfl rfl | exact .frp rfl rfl rfl | exact .le AV.Le.nil rfl | refine AV.To.agg ?_ | refine AV.To.fn ?_ | refine AV.ToL.cons ?_ ?_ | exact OB.To.nil rfl | refine OB.To.row rfl rfl rfl ?_ | refine OB.To.box rfl rfl ?_ | exact .ofEq rfl | refine ⟨?_, ?_⟩ | exact AV.To.cut rfl | fail))); (· rfl); (· rfl); (· skip; (repeat' (first | exact OwnRn.nil | apply OwnRn.cons rfl | apply OB.Rn.row | apply OB.Rn.box | exact AV.RnL.maps _ | exact AV.RnL.nil | exact AV.Rn.nil | exact AV.Rn.le rfl | exact AV.Rn.ptr rfl | exact AV.Rn.sl rfl | apply AV.RnL.cons | apply AV.Rn.agg | apply AV.Rn.tup | apply AV.Rn.fn | apply AV.RnL.app | (apply AV.RnL.mapsS; first | exact scal_sw _ | exact scal_po _ | exact scal_ac _) | fail))); (· skip; (repeat' (first | exact OwnRn.nil | apply OwnRn.cons rfl | apply OB.Rn.row | apply OB.Rn.box | exact AV.RnL.maps _ | exact AV.RnL.nil | exact AV.Rn.nil | exact AV.Rn.le rfl | exact AV.Rn.ptr rfl | exact AV.Rn.sl rfl | apply AV.RnL.cons | apply AV.Rn.agg | apply AV.Rn.tup | apply AV.Rn.fn | apply AV.RnL.app | (apply AV.RnL.mapsS; first | exact scal_sw _ | exact scal_po _ | exact scal_ac _) | fail))); (· rfl); (· rfl); (· exact (by first | exact (rfl : _ = []) | exact (rfl : _ = [_]) | exact (rfl : _ = [_, _]) | exact (rfl : _ = [_, _, _]) | exact (rfl : _ = [_, _, _, _]) | exact (rfl : _ = [_, _, _, _, _]) | exact (rfl : _ = [_, _, _, _, _, _]) | exact (rfl : _ = [_, _, _, _, _, _, _]) | exact (rfl : _ = [_, _, _, _, _, _, _, _]) | exact (rfl : _ = [_, _, _, _, _, _, _, _, _]) | exact (rfl : _ = [_, _, _, _, _, _, _, _, _, _]) | exact (rfl : _ = [_, _, _, _, _, _, _, _, _, _, _]) | exact (rfl : _ = [_, _, _, _, _, _, _, _, _, _, _, _]) | exact (rfl : _ = [_, _, _, _, _, _, _, _, _, _, _, _, _]) | exact (rfl : _ = [_, _, _, _, _, _, _, _, _, _, _, _, _, _]) | exact (rfl : _ = [_, _, _, _, _, _, _, _, _, _, _, _, _, _, _]) | exact (rfl : _ = [_, _, _, _, _, _, _, _, _, _, _, _, _, _, _, _]))); (· first | rfl | (simp only [freeNs, noRefH, OB.cells, refsL_fv, refsL_app]; rfl)); (· exact (by first | exact (rfl : _ = []) | exact (rfl : _ = [_]) | exact (rfl : _ = [_, _]) | exact (rfl : _ = [_, _, _]) | exact (rfl : _ = [_, _, _, _]) | exact (rfl : _ = [_, _, _, _, _]) | exact (rfl : _ = [_, _, _, _, _, _]) | exact (rfl : _ = [_, _, _, _, _, _, _]) | exact (rfl : _ = [_, _, _, _, _, _, _, _]) | exact (rfl : _ = [_, _, _, _, _, _, _, _, _]) | exact (rfl : _ = [_, _, _, _, _, _, _, _, _, _]) | exact (rfl : _ = [_, _, _, _, _, _, _, _, _, _, _]) | exact (rfl : _ = [_, _, _, _, _, _, _, _, _, _, _, _]) | exact (rfl : _ = [_, _, _, _, _, _, _, _, _, _, _, _, _]) | exact (rfl : _ = [_, _, _, _, _, _, _, _, _, _, _, _, _, _]) | exact (rfl : _ = [_, _, _, _, _, _, _, _, _, _, _, _, _, _, _]) | exact (rfl : _ = [_, _, _, _, _, _, _, _, _, _, _, _, _, _, _, _]))))) : p := h
set_option maxHeartbeats 8000000 in
theorem confO_T (l : List Rq) (m : Nat) (hok : ∀ r ∈ l, r.Ok) (hm : m ≤ 100) : FunO Tryz.prog 29 [.fv (slOf encRq l), .fv (.int .i64 (m : Int))] [] (.agg [.osl 7, .osl 8, .osl 9]) [(7, .row 44 3 (confOf l m).ss.length (((confOf l m).ss.flatMap encSw).map .fv)), (8, .row 69 5 (confOf l m).ps.length (((confOf l m).ps.flatMap encPo).map .fv)), (9, .row 38 9 (confOf l m).acs.length (((confOf l m).acs.flatMap encAc).map .fv))] := by
  refine FunO.bodyL tbl_ok Tryz.func29 rfl (by kernel_rfl) rfl rfl rfl ?_
  repeat' (first | refine X.loc ?_ | refine nx ?_ | refine X.cdT ?_ | refine X.cdF ?_ | refine cb ?_ ?_ | (refine cc ?_ ?_ <;> intro hcond) | refine rb ?_ | refine nd ?_ | refine dk ?_ | fail)
  refine WP.loop (ι := Nat) (fun k => ⟨[(0, .fv (slOf encRq l)), (1, .fv (.int .i64 (m : Int))), (4, .optr 4 0), (5, .optr 5 0), (13, .fv (.int .i64 k))], [(4, .box 26 [.nil, .nil, .nil]), (5, .box 26 [.osl 901, .osl 902, .osl 903]), (901, .row 44 3 (conf0 k).ss.length (((conf0 k).ss.flatMap encSw).map .fv)), (902, .row 69 5 (conf0 k).ps.length (((conf0 k).ps.flatMap encPo).map .fv)), (903, .row 38 9 (conf0 k).acs.length (((conf0 k).acs.flatMap encAc).map .fv))]⟩) (fun k => k ≤ 4) (fun k => 4 - k) 0 (by omega) ?_ ?_
  · exact tq [(901, .nil), (902, .nil), (903, .nil)] []
  rintro k hk
  try dsimp only
  by_cases hlt : k < 4
  case pos =>
    have hap := applyO_T (conf0 k) (baseA k) (conf0_ok k).fit
    have hst : conf0 (k + 1) = if applyE (conf0 k) (baseA k) = 0 then applyR (conf0 k) (baseA k) else conf0 k := rfl
    have hbase : baseA k = { de0 with kind := 1, sw := ⟨1 + (k : Int), 1 + (k : Int) / 3, ([200, 201, 0, 200] : List Int).getD k 0⟩ } := rfl
    generalize applyR (conf0 k) (baseA k) = R at *
    generalize applyE (conf0 k) (baseA k) = e at *
    generalize baseA k = B at *
    generalize conf0 k = C at *
    subst hbase
    by_cases he : e = 0
    · rw [if_pos he] at hst
      subst he
      repeat' (first | (apply X.loE; (· exact aR); (· first | exact .eff (.bsliceFS rfl rfl rfl rfl rfl rfl) | (exact .eff (.idxD (enc := encI) (l := [200, 201, 0, 200]) (0 : Int) rfl rfl rfl (fun _ => rfl) (show 0 ≤ _ ∧ _ < (4 : Int) by omega))))) | refine X.loc ?_ | (apply X.cal true; (· exact aR); (· exact hap); (· exact aCk)) | refine nx ?_ | refine X.cdT ?_ | refine X.cdF ?_ | refine cb ?_ ?_ | (refine cc ?_ ?_ <;> intro hcond) | (apply X.gsE; (· exact aR); (· exact aV); (· exact aW); (· intro hc; first | exact .eff (.bsliceFS rfl rfl rfl rfl rfl rfl) | (exact .eff (.idxD (enc := encI) (l := [200, 201, 0, 200]) (0 : Int) rfl rfl rfl (fun _ => rfl) (show 0 ≤ _ ∧ _ < (4 : Int) by omega)))); (· exact aR)) | refine rb ?_ | refine nd ?_ | refine dk ?_ | fail)
      refine ⟨k + 1, by omega, by omega, ?_⟩
      try dsimp only
      rw [hst]
      exact tq [(901, .id 29), (902, .id 329), (903, .id 629)] []
    · rw [if_neg he] at hst
      repeat' (first | (apply X.loE; (· exact aR); (· first | exact .eff (.bsliceFS rfl rfl rfl rfl rfl rfl) | (exact .eff (.idxD (enc := encI) (l := [200, 201, 0, 200]) (0 : Int) rfl rfl rfl (fun _ => rfl) (show 0 ≤ _ ∧ _ < (4 : Int) by omega))))) | refine X.loc ?_ | (apply X.cal true; (· exact aR); (· exact hap); (· exact aCk)) | refine nx ?_ | refine X.cdT ?_ | refine X.cdF ?_ | refine cb ?_ ?_ | (refine cc ?_ ?_ <;> intro hcond) | (apply X.gsE; (· exact aR); (· exact aV); (· exact aW); (· intro hc; first | exact .eff (.bsliceFS rfl rfl rfl rfl rfl rfl) | (exact .eff (.idxD (enc := encI) (l := [200, 201, 0, 200]) (0 : Int) rfl rfl rfl (fun _ => rfl) (show 0 ≤ _ ∧ _ < (4 : Int) by omega)))); (· exact aR)) | refine rb ?_ | refine nd ?_ | refine dk ?_ | fail)
      refine ⟨k + 1, by omega, by omega, ?_⟩
      try dsimp only
      rw [hst]
      exact tq [(901, .id 901), (902, .id 902), (903, .id 903)] []
  case neg =>
    obtain rfl : k = 4 := by omega
    have h0 := confOf_zero l
    generalize conf0 4 = C0 at *
    repeat' (first | refine X.loc ?_ | refine nx ?_ | refine X.cdT ?_ | refine X.cdF ?_ | refine cb ?_ ?_ | (refine cc ?_ ?_ <;> intro hcond) | refine rb ?_ | refine nd ?_ | refine dk ?_ | fail)
    refine WP.loop (ι := Nat) (fun k => ⟨[(0, .fv (slOf encRq l)), (1, .fv (.int .i64 (m : Int))), (4, .optr 4 0), (5, .optr 5 0), (9, .fv (.int .i64 k))], [(4, .box 26 [.nil, .nil, .nil]), (5, .box 26 [.osl 901, .osl 902, .osl 903]), (901, .row 44 3 (confOf l k).ss.length (((confOf l k).ss.flatMap encSw).map .fv)), (902, .row 69 5 (confOf l k).ps.length (((confOf l k).ps.flatMap encPo).map .fv)), (903, .row 38 9 (confOf l k).acs.length (((confOf l k).acs.flatMap encAc).map .fv))]⟩) (fun k => k ≤ l.length ∧ k ≤ m) (fun k => m - k) 0 (by omega) ?_ ?_
    · rw [h0]
      exact tq [(901, .id 901), (902, .id 902), (903, .id 903)] []
    rintro k ⟨hk, hkm⟩
    try dsimp only
    by_cases hlt : k < l.length ∧ k < m
    case neg =>
      rw [confOf_all (l := l) (k := k) (m := m) (by omega)]
      repeat' (first | refine X.loc ?_ | refine nx ?_ | refine X.cdT ?_ | refine X.cdF ?_ | refine cb ?_ ?_ | (refine cc ?_ ?_ <;> intro hcond) | refine rb ?_ | refine nd ?_ | refine dk ?_ | fail)
      exact rq ⟨[(4, .optr 4 0)], [(7, .row 44 3 (confOf l k).ss.length (((confOf l k).ss.flatMap encSw).map .fv)), (8, .row 69 5 (confOf l k).ps.length (((confOf l k).ps.flatMap encPo).map .fv)), (9, .row 38 9 (confOf l k).acs.length (((confOf l k).acs.flatMap encAc).map .fv)), (4, .box 26 [.osl 7, .osl 8, .osl 9])]⟩ (tq [(7, .id 901), (8, .id 902), (9, .id 903)] [])
    case pos =>
      obtain ⟨x, hx⟩ : ∃ x, l[k]? = some x := ⟨_, List.getElem?_eq_getElem hlt.1⟩
      have hch := change_T x (hok x (List.mem_of_getElem? hx))
      have hap := applyO_T (confOf l k) (changeOf x) (confOf_ok l k).fit
      have hst : confOf l (k + 1) = if applyE (confOf l k) (changeOf x) = 0 then applyR (confOf l k) (changeOf x) else confOf l k := confOf_succ hx
      generalize applyR (confOf l k) (changeOf x) = R at *
      generalize applyE (confOf l k) (changeOf x) = e at *
      generalize changeOf x = B at *
      generalize confOf l k = C at *
      by_cases he : e = 0
      · rw [if_pos he] at hst
        subst he
        repeat' (first | (apply X.loE; (· exact aR); (· first | exact .callL rfl rfl rfl (hch) rfl | exact bl (hch))) | refine X.loc ?_ | (apply X.cal true; (· exact aR); (· exact hap); (· exact aCk)) | refine nx ?_ | refine X.cdT ?_ | refine X.cdF ?_ | refine cb ?_ ?_ | (refine cc ?_ ?_ <;> intro hcond) | (apply X.gsE; (· exact aR); (· exact aV); (· exact aW); (· intro hc; first | exact .callG rfl rfl rfl (hch) rfl | exact bg (hch)); (· exact aR)) | refine rb ?_ | refine nd ?_ | refine dk ?_ | fail)
        refine ⟨k + 1, by omega, by omega, ?_⟩
        try dsimp only
        rw [hst]
        exact tq [(901, .id 54), (902, .id 354), (903, .id 654)] []
      · rw [if_neg he] at hst
        repeat' (first | (apply X.loE; (· exact aR); (· first | exact .callL rfl rfl rfl (hch) rfl | exact bl (hch))) | refine X.loc ?_ | (apply X.cal true; (· exact aR); (· exact hap); (· exact aCk)) | refine nx ?_ | refine X.cdT ?_ | refine X.cdF ?_ | refine cb ?_ ?_ | (refine cc ?_ ?_ <;> intro hcond) | (apply X.gsE; (· exact aR); (· exact aV); (· exact aW); (· intro hc; first | exact .callG rfl rfl rfl (hch) rfl | exact bg (hch)); (· exact aR)) | refine rb ?_ | refine nd ?_ | refine dk ?_ | fail)
        refine ⟨k + 1, by omega, by omega, ?_⟩
        try dsimp only
        rw [hst]
        exact tq [(901, .id 901), (902, .id 902), (903, .id 903)] []
end Go.Proofs.YtmidechdlbcepaaGreat