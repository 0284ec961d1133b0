import Derived.Test.YtmidechdlbcepaaGreatPack56
import Derived.Test.YtmidechdlbcepaaGreatPack54
set_option linter.unusedSimpArgs false
set_option linter.unusedVariables false
namespace Go.Proofs.YtmidechdlbcepaaGreat
open Go.RowKit
set_option maxRecDepth 100000
theorem CfOk.fitM {c : Cf} (h : CfOk c) : c.Fit := ⟨by have := h.sl; omega, by have := h.pl; omega, by have := h.al; omega⟩
theorem copyW_T (c : Cf) (hl : c.Fit) : Fun Tryz.prog 32 [.agg ((encCf c).map .fv)] (.agg ((encCf c).map .fv)) :=
  (copy_T c hl).froz [7, 8, 9] (.agg (.cons (.frz rfl rfl rfl) (.cons (.frz rfl rfl rfl) (.cons (.frz rfl rfl rfl) .nil))))
theorem setFabC (c d : Cf) (Fs : List (List Fl)) : setC ((encFab c Fs).map .fv) 0 ((encCf d).map .fv) = some ((encFab d Fs).map .fv) := by
  unfold encFab
  generalize Fs.map (slOf encFl) = r
  cases r with
  | nil => rfl
  | cons a r => rfl
set_option maxHeartbeats 8000000 in
theorem act_T (s : Fb) (a : De) (h : FbOk s) : FunO Tryz.prog 51 [.optr 1000 0, .agg ((encDe a).map .fv)] [(1000, fabB s.c (flsK s.K))] (.agg [.fv (.int .i64 (actR s a).code), .fv (slOf encAr (actR s a).come)]) [(1000, fabB (actS s a).c (flsK (actS s a).K))] := by
  obtain ⟨hc, hk, h6⟩ := h
  have hF := flsK_ok hk
  obtain ⟨e1, e2, e3⟩ := send_rep ⟨hc, hk, h6⟩ a.n a.fr
  refine FunO.bodyL tbl_ok Tryz.func51 rfl (by kernel_rfl) rfl rfl rfl ?_
  unfold actR actS fabB
  by_cases k7 : a.kind = 7
  · rw [if_pos k7, if_pos k7]
    by_cases hr : a.n < 0 ∨ 6 ≤ a.n
    · rw [if_pos hr, if_pos hr]
      obtain ⟨A0, A1, A2, A3, A4, A5, hA⟩ := six hF.len
      rw [hA]
      try dsimp only
      repeat' (first | refine X.loc ?_ | refine nx ?_ | refine X.cdT ?_ | refine X.cdF ?_ | refine cb ?_ ?_ | (refine cc ?_ ?_ <;> intro hcond) | refine rb ?_ | refine nd ?_ | refine dk ?_ | fail)
      exact rq ⟨[(4, .optr 4 0)], [(4, .box 55 [.fv (.int .i64 2), .fv (.sl [] 0)]), (1000, .box 88 ((encFab s.c [A0, A1, A2, A3, A4, A5]).map .fv))]⟩ (tq [] [])
    · rw [if_neg hr, if_neg hr]
      obtain ⟨n, hn⟩ := Int.eq_ofNat_of_zero_le (show 0 ≤ a.n by omega)
      have u1 := sync_T s.c (flsK s.K) a.n hc (by omega) hF
      have hs := flsK_set h6 (c := s.c) (n := n) (by omega)
      rw [hn, Int.toNat_natCast, hs] at u1
      rw [hn, Int.toNat_natCast]
      try dsimp only
      have hF2 := flsK_ok (hk.set hc n)
      obtain ⟨A0, A1, A2, A3, A4, A5, hA⟩ := six hF.len
      obtain ⟨B0, B1, B2, B3, B4, B5, hB⟩ := six hF2.len
      rw [hA, hB] at u1
      rw [hA, hB]
      unfold fabB at u1
      rw [← hn] at u1
      clear hs hF hF2 hA hB
      repeat' (first | refine X.loc ?_ | refine nx ?_ | refine X.cdT ?_ | refine X.cdF ?_ | refine cb ?_ ?_ | (refine cc ?_ ?_ <;> intro hcond) | refine rb ?_ | refine X.c0 (u1) ?_ | refine nd ?_ | refine dk ?_ | fail)
      exact rq ⟨[(4, .optr 4 0)], [(4, .box 55 [.fv (.int .i64 0), .fv (.sl [] 0)]), (1000, .box 88 ((encFab s.c [B0, B1, B2, B3, B4, B5]).map .fv))]⟩ (tq [] [])
  rw [if_neg k7, if_neg k7]
  by_cases k8 : a.kind = 8
  · rw [if_pos k8, if_pos k8]
    try dsimp only
    have u1 := send_T s.c (flsK s.K) a.n a.fr hc.pl hF.len e3
    rw [e1, e2] at u1
    generalize repE s.c a.n a.fr = e at *
    generalize repR s.c s.K a.n a.fr = R at *
    unfold fabB at u1
    obtain ⟨A0, A1, A2, A3, A4, A5, hA⟩ := six hF.len
    rw [hA] at u1 ⊢
    clear e1 e2 e3 hF hA
    repeat' (first | refine X.loc ?_ | refine nx ?_ | refine X.cdT ?_ | refine X.cdF ?_ | refine cb ?_ ?_ | (refine cc ?_ ?_ <;> intro hcond) | refine rb ?_ | refine X.c0 (u1) ?_ | refine nd ?_ | refine dk ?_ | fail)
    exact rq ⟨[(4, .optr 4 0)], [(4, .box 55 [.fv (.int .i64 e), .fv (slOf encAr R)]), (1000, .box 88 ((encFab s.c [A0, A1, A2, A3, A4, A5]).map .fv))]⟩ (tq [] [52])
  · rw [if_neg k8, if_neg k8]
    try dsimp only
    have c1 := apply_T s.c a hc.fitM
    obtain ⟨A0, A1, A2, A3, A4, A5, hA⟩ := six hF.len
    rw [hA]
    clear e1 e2 e3 hF hA
    unfold stepC
    by_cases h0 : applyE s.c a = 0
    · rw [if_pos h0, h0]
      rw [h0] at c1
      have s1 := setFabC s.c (applyR s.c a) [A0, A1, A2, A3, A4, A5]
      generalize applyR s.c a = d at *
      repeat' (first | (apply X.loE; (· exact aR); (· first | (exact .eff (.loadO rfl rfl (readFabC s.c _))) | exact .callL rfl rfl rfl (c1) rfl | exact bl (c1))) | refine X.loc ?_ | (apply X.stBE; (· exact aS); (· exact s1); (· exact aE)) | refine nx ?_ | refine X.cdT ?_ | refine X.cdF ?_ | refine cb ?_ ?_ | (refine cc ?_ ?_ <;> intro hcond) | (apply X.gsE; (· exact aR); (· exact aV); (· exact aW); (· intro hc; first | (exact .eff (.loadO rfl rfl (readFabC s.c _))) | exact .callG rfl rfl rfl (c1) rfl | exact bg (c1)); (· exact aR)) | refine rb ?_ | refine nd ?_ | refine dk ?_ | fail)
      exact rq ⟨[(4, .optr 4 0)], [(4, .box 55 [.fv (.int .i64 0), .fv (.sl [] 0)]), (1000, .box 88 ((encFab d [A0, A1, A2, A3, A4, A5]).map .fv))]⟩ (tq [] [])
    · rw [if_neg h0]
      generalize applyE s.c a = e at *
      generalize applyR s.c a = d at *
      repeat' (first | (apply X.loE; (· exact aR); (· first | (exact .eff (.loadO rfl rfl (readFabC s.c _))) | exact .callL rfl rfl rfl (c1) rfl | exact bl (c1))) | refine X.loc ?_ | refine nx ?_ | refine X.cdT ?_ | refine X.cdF ?_ | refine cb ?_ ?_ | (refine cc ?_ ?_ <;> intro hcond) | (apply X.gsE; (· exact aR); (· exact aV); (· exact aW); (· intro hc; first | (exact .eff (.loadO rfl rfl (readFabC s.c _))) | exact .callG rfl rfl rfl (c1) rfl | exact bg (c1)); (· exact aR)) | refine rb ?_ | refine nd ?_ | refine dk ?_ | fail)
      exact rq ⟨[(4, .optr 4 0)], [(4, .box 55 [.fv (.int .i64 e), .fv (.sl [] 0)]), (1000, .box 88 ((encFab s.c [A0, A1, A2, A3, A4, A5]).map .fv))]⟩ (tq [] [])
set_option maxHeartbeats 8000000 in
theorem run0s_T (l : List De) (hl : l.length < 9223372036854775807) : FunO Tryz.prog 25 [.fv (slOf encDe l)] [] (.tup [.osl 7, .agg ((encCf (scrC l)).map .fv), .fv (.int .i64 (scrE l))]) [(7, .row 55 2 (scrR l).length (((scrR l).flatMap encRep).map .fv))] := by
  refine FunO.bodyL tbl_ok Tryz.func25 rfl (by kernel_rfl) rfl rfl rfl ?_
  unfold scrC scrE scrR
  by_cases h3 : 300 < l.length
  · rw [if_pos h3, if_pos h3, if_pos h3]
    repeat' (first | refine X.loc ?_ | refine nx ?_ | refine X.cdT ?_ | refine X.cdF ?_ | refine cb ?_ ?_ | (refine cc ?_ ?_ <;> intro hcond) | refine rb ?_ | refine nd ?_ | refine dk ?_ | fail)
    exact rq ⟨[(2, .osl 7), (3, .optr 3 0), (4, .fv (.int .i64 1))], [(7, .row 55 2 0 []), (3, .box 26 ((encCf cf0).map .fv))]⟩ (tq [(7, .nil)] [])
  rw [if_neg h3, if_neg h3, if_neg h3]
  repeat' (first | refine X.loc ?_ | refine nx ?_ | refine X.cdT ?_ | refine X.cdF ?_ | refine cb ?_ ?_ | (refine cc ?_ ?_ <;> intro hcond) | refine rb ?_ | refine nd ?_ | refine dk ?_ | fail)
  refine WP.loop (ι := Nat) (fun k => ⟨[(3, .optr 3 0), (5, .optr 900 0), (6, .osl 901), (15, .fv (slOf encDe l)), (16, .fv (.int .i64 l.length)), (17, .fv (.int .i64 k))], [(3, .box 26 ((encCf cf0).map .fv)), (900, fabB (runS fb0 (l.take k)).c (flsK (runS fb0 (l.take k)).K)), (901, .row 55 2 (runR fb0 (l.take k)).length (((runR fb0 (l.take k)).flatMap encRep).map .fv))]⟩) (fun k => k ≤ l.length) (fun k => l.length - k) 0 (by omega) ?_ ?_
  · try dsimp only
    rw [List.take_zero]
    have e0 : (encFab (runS fb0 []).c (flsK (runS fb0 []).K)).map AV.fv = (encCf cf0).map AV.fv ++ [.fv (.sl [] 0), .fv (.sl [] 0), .fv (.sl [] 0), .fv (.sl [] 0), .fv (.sl [] 0), .fv (.sl [] 0)] := rfl
    unfold fabB
    rw [e0, show runR fb0 [] = [] from rfl]
    exact tq [(900, .id 14), (901, .nil)] []
  rintro k hk
  try dsimp only
  have hok := runS_ok fb0_ok (l.take k)
  have hrl := runR_len (l.take k) fb0
  rw [List.length_take] at hrl
  by_cases hlt : k < l.length
  case pos =>
    obtain ⟨x, hx⟩ : ∃ x, l[k]? = some x := ⟨_, List.getElem?_eq_getElem hlt⟩
    have u1 := act_T (runS fb0 (l.take k)) x hok
    have hsS : runS fb0 (l.take (k + 1)) = actS (runS fb0 (l.take k)) x := by rw [take_succ hx, runS_snoc]
    have hsR : runR fb0 (l.take (k + 1)) = runR fb0 (l.take k) ++ [actR (runS fb0 (l.take k)) x] := by rw [take_succ hx, runR_snoc]
    have hok2 := hok.act x
    generalize actR (runS fb0 (l.take k)) x = r at *
    generalize actS (runS fb0 (l.take k)) x = s2 at *
    generalize runS fb0 (l.take k) = s1 at *
    generalize runR fb0 (l.take k) = R at *
    obtain ⟨A0, A1, A2, A3, A4, A5, hA⟩ := six (flsK_ok hok.k).len
    obtain ⟨B0, B1, B2, B3, B4, B5, hB⟩ := six (flsK_ok hok2.k).len
    rw [hA, hB] at u1
    rw [hA]
    unfold fabB at u1 ⊢
    repeat' (first | (apply X.loE; (· exact aR); (· first | (exact .eff (.idxS rfl rfl rfl encDe_len hx)))) | refine X.loc ?_ | refine nx ?_ | refine X.cdT ?_ | refine X.cdF ?_ | refine cb ?_ ?_ | (refine cc ?_ ?_ <;> intro hcond) | (apply X.gsE; (· exact aR); (· exact aV); (· exact aW); (· intro hc; first | (exact .eff (.idxS rfl rfl rfl encDe_len hx))); (· exact aR)) | refine rb ?_ | refine X.c0 (u1) ?_ | refine nd ?_ | refine dk ?_ | fail)
    refine ⟨k + 1, by omega, by omega, ?_⟩
    try dsimp only
    rw [hsS, hsR, hB]
    refine St.to [(901, .id 26)] [] rfl rfl ?_ ?_ <;> (repeat' (first | exact tA | refine t1 ?_ | exact tB | refine t2 ?_ ?_ | refine t3 ?_ | refine t4 ?_ ?_ | refine .ofEq ?_ | refine OB.To.cut rfl rfl ?_ ?_ ?_ ?_ | refine OB.To.box rfl rfl ?_ | refine ⟨⟨_, rfl, ?_⟩, ?_⟩ | refine ⟨?_, ?_⟩ | fail))
    all_goals first | omega | (simp; done) | (simp only [List.flatMap_append, List.map_append]; rfl)
  case neg =>
    rw [List.take_of_length_le (by omega)] at hok ⊢
    have c1 := copyW_T (runS fb0 l).c hok.c.fitM
    generalize runR fb0 l = R at *
    obtain ⟨A0, A1, A2, A3, A4, A5, hA⟩ := six (flsK_ok hok.k).len
    rw [hA]
    generalize (runS fb0 l).c = c at *
    unfold fabB
    repeat' (first | (apply X.loE; (· exact aR); (· first | (exact .eff (.loadO rfl rfl (readFabC c _))) | exact .callL rfl rfl rfl (c1) rfl | exact bl (c1))) | refine X.loc ?_ | refine nx ?_ | refine X.cdT ?_ | refine X.cdF ?_ | refine cb ?_ ?_ | (refine cc ?_ ?_ <;> intro hcond) | (apply X.gsE; (· exact aR); (· exact aV); (· exact aW); (· intro hc; first | (exact .eff (.loadO rfl rfl (readFabC c _))) | exact .callG rfl rfl rfl (c1) rfl | exact bg (c1)); (· exact aR)) | refine rb ?_ | refine nd ?_ | refine dk ?_ | fail)
    exact rq ⟨[(2, .osl 7), (3, .optr 3 0), (4, .fv (.int .i64 0))], [(7, .row 55 2 R.length ((R.flatMap encRep).map .fv)), (3, .box 26 ((encCf c).map .fv))]⟩ (tq [(7, .id 901)] [])
theorem script_T (l : List De) (hl : l.length < 9223372036854775807) : Fun Tryz.prog 25 [.fv (slOf encDe l)] (.tup [.fv (slOf encRep (scrR l)), .agg ((encCf (scrC l)).map .fv), .fv (.int .i64 (scrE l))]) :=
  (run0s_T l hl).froz [7] (.tup (.cons (.frz rfl rfl rfl) (.cons (.le (.refl _) rfl) (.cons (.le (.refl _) rfl) .nil))))
theorem FunO.le {P : Program} {f : FuncId} {args : List AV} {own own1 own2 : Own} {r r' : AV} (h : FunO P f args own r own1) (hl : St.Le ⟨[(0, r)], own1⟩ ⟨[(0, r')], own2⟩) : FunO P f args own r' own2 := by
  refine ⟨h.1, fun σ Z w vs hI hrep => (h.2 σ Z w vs hI hrep).mono ?_⟩
  rintro e w' ⟨v, r0, own0, σ', Z', rfl, ⟨rfl, rfl⟩, hI', hr'⟩
  have hx : Rel 1 (ctx0 own σ Z w) ⟨[(0, r0)], own0⟩ ⟨#[v], []⟩ w' := ⟨rfl, rfl, σ', Z', hI', fun i a hi => by
    rw [lk_cons] at hi
    split at hi
    · rename_i e0
      subst e0
      obtain rfl := Option.some.inj hi
      exact hr'
    · simp [lk] at hi⟩
  obtain ⟨_, _, σ2, Z2, hI2, hT2⟩ := hl _ _ _ _ hx
  exact ⟨v, r', own2, σ2, Z2, rfl, ⟨rfl, rfl⟩, hI2, hT2 0 r' rfl⟩
theorem copyF_T (c : Cf) (hl : c.Fit) : Fun Tryz.prog 53 [.agg ((encCf c).map .fv)] (.agg ((encCf c).map .fv)) :=
  (copyR_T c hl).froz [7, 8, 9] (.agg (.cons (.frz rfl rfl rfl) (.cons (.frz rfl rfl rfl) (.cons (.frz rfl rfl rfl) .nil))))
theorem sentZ_T (K : Kn) (hK : KnOk K) (h6 : K.length = 6) (ch id : Int) (hch : 0 ≤ ch ∧ ch ≤ 5) (f : Fr) (hff : frameFault f = 0) : FunO Tryz.prog 50 [.osl 1000, .fv (.int .i64 ch), .fv (.int .i64 id), .agg ((encFr f).map .fv)] [(1000, .row 26 3 (ksOf K).length (((ksOf K).flatMap encCf).map .fv))] (.fv (slOf encAr (sentOfF K ch id f))) [(1000, .row 26 3 (ksOf K).length (((ksOf K).flatMap encCf).map .fv))] := by
  have h := sentOf_T K hK h6 ch id hch f hff
  generalize sentOfF K ch id f = O at *
  refine h.le ?_
  exact tq [] [7]
theorem setCf {l : List Cf} {i off : Nat} {x : Cf} (h : off = i * 3) (hi : i < l.length) : setC ((l.flatMap encCf).map .fv) off ((encCf x).map .fv) = some (((l.set i x).flatMap encCf).map .fv) := by
  subst h
  induction l generalizing i with
  | nil => simp at hi
  | cons y l ih =>
    cases i with
    | zero => simp [setC, encCf]
    | succ i =>
      have := ih (i := i) (by simpa using hi)
      rw [show (i + 1) * 3 = (i * 3) + 3 from by omega]
      simp only [List.flatMap_cons, List.map_append, List.set_cons_succ]
      show setC (AV.fv (slOf encSw y.ss) :: AV.fv (slOf encPo y.ps) :: AV.fv (slOf encAc y.acs) :: (l.flatMap encCf).map AV.fv) _ _ = _
      simp only [setC]
      rw [this]
      rfl
theorem ksOf_len (K : Kn) : (ksOf K).length = K.length := List.length_map ..
theorem toL_rep {φ : List (Nat × Whence)} {F : List Nat} {H : Own} {R : List Rep} {c : Int} {bs : List AV} (hb : bs = [.fv (.int .i64 c), .nil]) : AV.ToL φ F H ((R.flatMap encRep).map AV.fv ++ bs) (((R ++ [(⟨c, []⟩ : Rep)]).flatMap encRep).map .fv) := by
  subst hb
  rw [List.flatMap_append, List.map_append]
  exact .app (.maps rfl) (.cons (.le (.refl _) rfl) (.cons (.le .nil rfl) .nil))
set_option maxHeartbeats 16000000 in
theorem scriptOf0_T (l : List De) (hl : l.length < 9223372036854775807) : FunO Tryz.prog 26 [.fv (slOf encDe l)] [] (.tup [.osl 7, .agg ((encCf (scrC l)).map .fv), .fv (.int .i64 (scrE l))]) [(7, .row 55 2 (scrR l).length (((scrR l).flatMap encRep).map .fv))] := by
  refine FunO.bodyL tbl_ok Tryz.func26 rfl (by kernel_rfl) rfl rfl rfl ?_
  unfold scrC scrE scrR
  by_cases h3 : 300 < l.length
  · rw [if_pos h3, if_pos h3, if_pos h3]
    repeat' (first | refine X.loc ?_ | refine nx ?_ | refine X.cdT ?_ | refine X.cdF ?_ | refine cb ?_ ?_ | (refine cc ?_ ?_ <;> intro hcond) | refine rb ?_ | refine nd ?_ | refine dk ?_ | fail)
    exact rq ⟨[(2, .osl 7), (3, .optr 3 0), (4, .fv (.int .i64 1))], [(7, .row 55 2 0 []), (3, .box 26 ((encCf cf0).map .fv))]⟩ (tq [(7, .nil)] [])
  rw [if_neg h3, if_neg h3, if_neg h3]
  repeat' (first | refine X.loc ?_ | (refine X.new ?_ (hE := .eff (.mkS (n := 6) rfl rfl rfl rfl (by omega) (by omega)))) | refine nx ?_ | refine X.cdT ?_ | refine X.cdF ?_ | refine cb ?_ ?_ | (refine cc ?_ ?_ <;> intro hcond) | refine rb ?_ | refine nd ?_ | refine dk ?_ | fail)
  refine WP.loop (ι := Nat) (fun k => ⟨[(0, .fv (slOf encDe l)), (3, .optr 3 0), (5, .optr 900 0), (6, .osl 901), (7, .osl 902), (8, .fv (.int .i64 k))], [(3, .box 26 ((encCf cf0).map .fv)), (900, .box 26 ((encCf (runS fb0 (l.take k)).c).map .fv)), (901, .row 26 3 (ksOf (runS fb0 (l.take k)).K).length (((ksOf (runS fb0 (l.take k)).K).flatMap encCf).map .fv)), (902, .row 55 2 (runR fb0 (l.take k)).length (((runR fb0 (l.take k)).flatMap encRep).map .fv))]⟩) (fun k => k ≤ l.length) (fun k => l.length - k) 0 (by omega) ?_ ?_
  · try dsimp only
    rw [List.take_zero, show runR fb0 [] = [] from rfl, show runS fb0 [] = fb0 from rfl]
    have e0 : ((ksOf fb0.K).flatMap encCf).map AV.fv = (List.replicate 6 [AV.fv (.sl [] 0), AV.fv (.sl [] 0), AV.fv (.sl [] 0)]).flatten := rfl
    rw [e0, show (ksOf fb0.K).length = 6 from rfl]
    exact tq [(900, .id 5), (901, .id 20), (902, .nil)] []
  rintro k hk
  try dsimp only
  have hok := runS_ok fb0_ok (l.take k)
  have hrl := runR_len (l.take k) fb0
  rw [List.length_take] at hrl
  by_cases hlt : k < l.length
  case neg =>
    rw [List.take_of_length_le (by omega)]
    generalize runR fb0 l = R at *
    generalize runS fb0 l = s at *
    repeat' (first | refine X.loc ?_ | refine nx ?_ | refine X.cdT ?_ | refine X.cdF ?_ | refine cb ?_ ?_ | (refine cc ?_ ?_ <;> intro hcond) | refine rb ?_ | refine nd ?_ | refine dk ?_ | fail)
    exact rq ⟨[(2, .osl 7), (3, .optr 3 0), (4, .fv (.int .i64 0))], [(7, .row 55 2 R.length ((R.flatMap encRep).map .fv)), (3, .box 26 ((encCf s.c).map .fv))]⟩ (tq [(7, .id 902)] [])
  case pos =>
    obtain ⟨x, hx⟩ : ∃ x, l[k]? = some x := ⟨_, List.getElem?_eq_getElem hlt⟩
    have hsS : runS fb0 (l.take (k + 1)) = actS (runS fb0 (l.take k)) x := by rw [take_succ hx, runS_snoc]
    have hsR : runR fb0 (l.take (k + 1)) = runR fb0 (l.take k) ++ [actR (runS fb0 (l.take k)) x] := by rw [take_succ hx, runR_snoc]
    generalize runS fb0 (l.take k) = s at *
    generalize runR fb0 (l.take k) = R at *
    have hkl := ksOf_len s.K
    have h6 := hok.six
    unfold actR at hsR
    unfold actS at hsS
    by_cases k7 : x.kind = 7
    · rw [if_pos k7] at hsS hsR
      have c1 := in_T x.n 0 5
      by_cases hr : x.n < 0 ∨ 6 ≤ x.n
      · rw [if_pos hr] at hsS hsR
        rw [show inR x.n 0 5 = false by rw [Bool.eq_false_iff]; intro h; have := inR_iff.1 h; omega] at c1
        repeat' (first | (apply X.loE; (· exact aR); (· first | (exact .eff (.idxS rfl rfl rfl encDe_len hx)) | exact .callL rfl rfl rfl (c1) rfl | exact bl (c1))) | refine X.loc ?_ | refine nx ?_ | refine X.cdT ?_ | refine X.cdF ?_ | refine cb ?_ ?_ | (refine cc ?_ ?_ <;> intro hcond) | (apply X.gsE; (· exact aR); (· exact aV); (· exact aW); (· intro hc; first | (exact .eff (.idxS rfl rfl rfl encDe_len hx)) | exact .callG rfl rfl rfl (c1) rfl | exact bg (c1)); (· exact aR)) | refine rb ?_ | refine nd ?_ | refine dk ?_ | fail)
        refine ⟨k + 1, by omega, by omega, ?_⟩
        try dsimp only
        rw [hsS, hsR]
        refine St.to [(902, .id 93)] [] rfl rfl ?_ ?_ <;> (repeat' (first | exact toL_rep rfl | exact tA | refine t1 ?_ | exact tB | refine t2 ?_ ?_ | refine t3 ?_ | refine t4 ?_ ?_ | refine .ofEq ?_ | refine OB.To.cut rfl rfl ?_ ?_ ?_ ?_ | refine OB.To.box rfl rfl ?_ | refine ⟨⟨_, rfl, ?_⟩, ?_⟩ | refine ⟨?_, ?_⟩ | fail))
        all_goals first | omega | (simp; done) | (simp only [List.flatMap_append, List.map_append]; rfl)
      · rw [if_neg hr] at hsS hsR
        rw [show inR x.n 0 5 = true from inR_iff.2 (by omega)] at c1
        have c2 := copyF_T s.c hok.c.fitM
        obtain ⟨n, hn⟩ := Int.eq_ofNat_of_zero_le (show 0 ≤ x.n by omega)
        rw [hn, Int.toNat_natCast] at hsS
        have e1 : ksOf (s.K.set n (some s.c)) = (ksOf s.K).set n s.c := List.map_set ..
        have hset := setCf (l := ksOf s.K) (i := n) (off := x.n.toNat * 3) (x := s.c) (by omega) (by omega)
        repeat' (first | (apply X.loE; (· exact aR); (· first | (exact .eff (.idxS rfl rfl rfl encDe_len hx)) | exact .callL rfl rfl rfl (by first | exact c1 | exact c2) rfl | exact bl (c1) | exact bl (c2))) | refine X.loc ?_ | (apply X.stRE; (· exact aS); (· exact hset); (· exact aE)) | refine nx ?_ | refine X.cdT ?_ | refine X.cdF ?_ | refine cb ?_ ?_ | (refine cc ?_ ?_ <;> intro hcond) | (apply X.gsE; (· exact aR); (· exact aV); (· exact aW); (· intro hc; first | (exact .eff (.idxS rfl rfl rfl encDe_len hx)) | exact .callG rfl rfl rfl (by first | exact c1 | exact c2) rfl | exact bg (c1) | exact bg (c2)); (· exact aR)) | refine rb ?_ | refine nd ?_ | refine dk ?_ | fail)
        refine ⟨k + 1, by omega, by omega, ?_⟩
        try dsimp only
        rw [hsS, hsR, e1, List.length_set]
        refine St.to [(902, .id 93)] [] rfl rfl ?_ ?_ <;> (repeat' (first | exact toL_rep rfl | exact tA | refine t1 ?_ | exact tB | refine t2 ?_ ?_ | refine t3 ?_ | refine t4 ?_ ?_ | refine .ofEq ?_ | refine OB.To.cut rfl rfl ?_ ?_ ?_ ?_ | refine OB.To.box rfl rfl ?_ | refine ⟨⟨_, rfl, ?_⟩, ?_⟩ | refine ⟨?_, ?_⟩ | fail))
        all_goals first | omega | (simp; done) | (simp only [List.flatMap_append, List.map_append]; rfl)
    rw [if_neg k7] at hsS hsR
    by_cases k8 : x.kind = 8
    · rw [if_pos k8] at hsS hsR
      unfold repE repR at hsR
      have c1 := portOf_T s.c x.n hok.c.small
      have ep : (s.c.ps.find? fun p => p.id == x.n) = poAt s.c x.n := rfl
      rw [po_any, ep] at c1
      have c3 := frameFault_T x.fr
      cases hpo : poAt s.c x.n with
      | none =>
        rw [hpo] at c1 hsR
        simp only [Option.getD_some, Option.getD_none, Option.isSome_some, Option.isSome_none] at c1
        try dsimp only at hsR
        repeat' (first | (apply X.loE; (· exact aR); (· first | (exact .eff (.idxS rfl rfl rfl encDe_len hx)) | exact .callL rfl rfl rfl (c1) rfl | exact bl (c1))) | refine X.loc ?_ | refine nx ?_ | refine X.cdT ?_ | refine X.cdF ?_ | refine cb ?_ ?_ | (refine cc ?_ ?_ <;> intro hcond) | (apply X.gsE; (· exact aR); (· exact aV); (· exact aW); (· intro hc; first | (exact .eff (.idxS rfl rfl rfl encDe_len hx)) | exact .callG rfl rfl rfl (c1) rfl | exact bg (c1)); (· exact aR)) | refine rb ?_ | refine nd ?_ | refine dk ?_ | fail)
        refine ⟨k + 1, by omega, by omega, ?_⟩
        try dsimp only
        rw [hsS, hsR]
        refine St.to [(902, .id 93)] [] rfl rfl ?_ ?_ <;> (repeat' (first | exact toL_rep rfl | exact tA | refine t1 ?_ | exact tB | refine t2 ?_ ?_ | refine t3 ?_ | refine t4 ?_ ?_ | refine .ofEq ?_ | refine OB.To.cut rfl rfl ?_ ?_ ?_ ?_ | refine OB.To.box rfl rfl ?_ | refine ⟨⟨_, rfl, ?_⟩, ?_⟩ | refine ⟨?_, ?_⟩ | fail))
        all_goals first | omega | (simp; done) | (simp only [List.flatMap_append, List.map_append]; rfl)
      | some q =>
        rw [hpo] at c1 hsR
        simp only [Option.getD_some, Option.getD_none, Option.isSome_some, Option.isSome_none] at c1
        try dsimp only at hsR
        have hq := (hok.c.pg q (poAt_mem hpo).1).1
        unfold PoR at hq
        by_cases h0 : q.ch < 0
        · rw [if_pos h0, if_pos h0] at hsR
          repeat' (first | (apply X.loE; (· exact aR); (· first | (exact .eff (.idxS rfl rfl rfl encDe_len hx)) | exact .callL rfl rfl rfl (c1) rfl | exact bl (c1))) | refine X.loc ?_ | refine nx ?_ | refine X.cdT ?_ | refine X.cdF ?_ | refine cb ?_ ?_ | (refine cc ?_ ?_ <;> intro hcond) | (apply X.gsE; (· exact aR); (· exact aV); (· exact aW); (· intro hc; first | (exact .eff (.idxS rfl rfl rfl encDe_len hx)) | exact .callG rfl rfl rfl (c1) rfl | exact bg (c1)); (· exact aR)) | refine rb ?_ | refine nd ?_ | refine dk ?_ | fail)
          refine ⟨k + 1, by omega, by omega, ?_⟩
          try dsimp only
          rw [hsS, hsR]
          refine St.to [(902, .id 93)] [] rfl rfl ?_ ?_ <;> (repeat' (first | exact toL_rep rfl | exact tA | refine t1 ?_ | exact tB | refine t2 ?_ ?_ | refine t3 ?_ | refine t4 ?_ ?_ | refine .ofEq ?_ | refine OB.To.cut rfl rfl ?_ ?_ ?_ ?_ | refine OB.To.box rfl rfl ?_ | refine ⟨⟨_, rfl, ?_⟩, ?_⟩ | refine ⟨?_, ?_⟩ | fail))
          all_goals first | omega | (simp; done) | (simp only [List.flatMap_append, List.map_append]; rfl)
        rw [if_neg h0, if_neg h0] at hsR
        by_cases hff : frameFault x.fr = 0
        · rw [if_neg (show ¬ frameFault x.fr ≠ 0 by omega), hff] at hsR
          rw [hff] at c3
          have u1 := sentZ_T s.K hok.k hok.six q.ch x.n (by omega) x.fr hff
          generalize sentOfF s.K q.ch x.n x.fr = O at *
          repeat' (first | (apply X.loE; (· exact aR); (· first | (exact .eff (.idxS rfl rfl rfl encDe_len hx)) | exact .callL rfl rfl rfl (by first | exact c1 | exact c3) rfl | exact bl (c1) | exact bl (c3))) | refine X.loc ?_ | refine nx ?_ | refine X.cdT ?_ | refine X.cdF ?_ | refine cb ?_ ?_ | (refine cc ?_ ?_ <;> intro hcond) | (apply X.gsE; (· exact aR); (· exact aV); (· exact aW); (· intro hc; first | (exact .eff (.idxS rfl rfl rfl encDe_len hx)) | exact .callG rfl rfl rfl (by first | exact c1 | exact c3) rfl | exact bg (c1) | exact bg (c3)); (· exact aR)) | refine rb ?_ | refine X.c0 (u1) ?_ | refine nd ?_ | refine dk ?_ | fail)
          refine ⟨k + 1, by omega, by omega, ?_⟩
          try dsimp only
          rw [hsS, hsR]
          refine St.to [(902, .id 93)] [] rfl rfl ?_ ?_ <;> (repeat' (first | exact toL_rep rfl | exact tA | refine t1 ?_ | exact tB | refine t2 ?_ ?_ | refine t3 ?_ | refine t4 ?_ ?_ | refine .ofEq ?_ | refine OB.To.cut rfl rfl ?_ ?_ ?_ ?_ | refine OB.To.box rfl rfl ?_ | refine ⟨⟨_, rfl, ?_⟩, ?_⟩ | refine ⟨?_, ?_⟩ | fail))
          all_goals first | omega | (simp; done) | (simp only [List.flatMap_append, List.map_append]; rfl)
        · rw [if_pos hff] at hsR
          generalize frameFault x.fr = e at *
          repeat' (first | (apply X.loE; (· exact aR); (· first | (exact .eff (.idxS rfl rfl rfl encDe_len hx)) | exact .callL rfl rfl rfl (by first | exact c1 | exact c3) rfl | exact bl (c1) | exact bl (c3))) | refine X.loc ?_ | refine nx ?_ | refine X.cdT ?_ | refine X.cdF ?_ | refine cb ?_ ?_ | (refine cc ?_ ?_ <;> intro hcond) | (apply X.gsE; (· exact aR); (· exact aV); (· exact aW); (· intro hc; first | (exact .eff (.idxS rfl rfl rfl encDe_len hx)) | exact .callG rfl rfl rfl (by first | exact c1 | exact c3) rfl | exact bg (c1) | exact bg (c3)); (· exact aR)) | refine rb ?_ | refine nd ?_ | refine dk ?_ | fail)
          refine ⟨k + 1, by omega, by omega, ?_⟩
          try dsimp only
          rw [hsS, hsR]
          refine St.to [(902, .id 93)] [] rfl rfl ?_ ?_ <;> (repeat' (first | exact toL_rep rfl | exact tA | refine t1 ?_ | exact tB | refine t2 ?_ ?_ | refine t3 ?_ | refine t4 ?_ ?_ | refine .ofEq ?_ | refine OB.To.cut rfl rfl ?_ ?_ ?_ ?_ | refine OB.To.box rfl rfl ?_ | refine ⟨⟨_, rfl, ?_⟩, ?_⟩ | refine ⟨?_, ?_⟩ | fail))
          all_goals first | omega | (simp; done) | (simp only [List.flatMap_append, List.map_append]; rfl)
    · rw [if_neg k8] at hsS hsR
      have c1 := appliedOf_T s.c x hok.c.fitM
      unfold stepC at hsS
      by_cases h0 : applyE s.c x = 0
      · rw [if_pos h0] at hsS
        rw [h0] at c1 hsR
        generalize applyR s.c x = d at *
        repeat' (first | (apply X.loE; (· exact aR); (· first | (exact .eff (.idxS rfl rfl rfl encDe_len hx)) | exact .callL rfl rfl rfl (c1) rfl | exact bl (c1))) | refine X.loc ?_ | refine nx ?_ | refine X.cdT ?_ | refine X.cdF ?_ | refine cb ?_ ?_ | (refine cc ?_ ?_ <;> intro hcond) | (apply X.gsE; (· exact aR); (· exact aV); (· exact aW); (· intro hc; first | (exact .eff (.idxS rfl rfl rfl encDe_len hx)) | exact .callG rfl rfl rfl (c1) rfl | exact bg (c1)); (· exact aR)) | refine rb ?_ | refine nd ?_ | refine dk ?_ | fail)
        refine ⟨k + 1, by omega, by omega, ?_⟩
        try dsimp only
        rw [hsS, hsR]
        refine St.to [(902, .id 93)] [] rfl rfl ?_ ?_ <;> (repeat' (first | exact toL_rep rfl | exact tA | refine t1 ?_ | exact tB | refine t2 ?_ ?_ | refine t3 ?_ | refine t4 ?_ ?_ | refine .ofEq ?_ | refine OB.To.cut rfl rfl ?_ ?_ ?_ ?_ | refine OB.To.box rfl rfl ?_ | refine ⟨⟨_, rfl, ?_⟩, ?_⟩ | refine ⟨?_, ?_⟩ | fail))
        all_goals first | omega | (simp; done) | (simp only [List.flatMap_append, List.map_append]; rfl)
      · rw [if_neg h0] at hsS
        generalize applyE s.c x = e at *
        generalize applyR s.c x = d at *
        repeat' (first | (apply X.loE; (· exact aR); (· first | (exact .eff (.idxS rfl rfl rfl encDe_len hx)) | exact .callL rfl rfl rfl (c1) rfl | exact bl (c1))) | refine X.loc ?_ | refine nx ?_ | refine X.cdT ?_ | refine X.cdF ?_ | refine cb ?_ ?_ | (refine cc ?_ ?_ <;> intro hcond) | (apply X.gsE; (· exact aR); (· exact aV); (· exact aW); (· intro hc; first | (exact .eff (.idxS rfl rfl rfl encDe_len hx)) | exact .callG rfl rfl rfl (c1) rfl | exact bg (c1)); (· exact aR)) | refine rb ?_ | refine nd ?_ | refine dk ?_ | fail)
        refine ⟨k + 1, by omega, by omega, ?_⟩
        try dsimp only
        rw [hsS, hsR]
        refine St.to [(902, .id 93)] [] rfl rfl ?_ ?_ <;> (repeat' (first | exact toL_rep rfl | exact tA | refine t1 ?_ | exact tB | refine t2 ?_ ?_ | refine t3 ?_ | refine t4 ?_ ?_ | refine .ofEq ?_ | refine OB.To.cut rfl rfl ?_ ?_ ?_ ?_ | refine OB.To.box rfl rfl ?_ | refine ⟨⟨_, rfl, ?_⟩, ?_⟩ | refine ⟨?_, ?_⟩ | fail))
        all_goals first | omega | (simp; done) | (simp only [List.flatMap_append, List.map_append]; rfl)
theorem scriptOf_T (l : List De) (hl : l.length < 9223372036854775807) : Fun Tryz.prog 26 [.fv (slOf encDe l)] (.tup [.fv (slOf encRep (scrR l)), .agg ((encCf (scrC l)).map .fv), .fv (.int .i64 (scrE l))]) :=
  (scriptOf0_T l hl).froz [7] (.tup (.cons (.frz rfl rfl rfl) (.cons (.le (.refl _) rfl) (.cons (.le (.refl _) rfl) .nil))))
end Go.Proofs.YtmidechdlbcepaaGreat
namespace Go.Proofs.YtmidechdlbcepaaGreat
open Go.ChangeShapes Go.WideShapes Go.ChangeAt Go.RowKit
set_option maxRecDepth 100000
theorem sameConf_T (c : Cf) (hl : c.Small) : Fun Tryz.prog 27 [.agg ((encCf c).map .fv), .agg ((encCf c).map .fv)] (.fv (.bool true)) := by
  have hl1 := hl.1
  have hl2 := hl.2.1
  have hl3 := hl.2.2
  refine Fun.body tbl_ok Tryz.func27 rfl (by kernel_rfl) rfl rfl rfl ?_
  repeat' (first | refine X.loc ?_ | refine nx ?_ | refine X.cdT ?_ | refine X.cdF ?_ | refine cb ?_ ?_ | (refine cc ?_ ?_ <;> intro hcond) | refine rb ?_ | refine nd ?_ | refine dk ?_ | fail)
  · exfalso
    simp at hcond
  clear hcond
  refine WP.loop (ι := Nat) (fun k => ⟨[(2, .optr 2 0), (3, .optr 3 0), (4, .fv (.bool false)), (5, .fv (.int .i64 k))], [(2, .box 26 ((encCf c).map .fv)), (3, .box 26 ((encCf c).map .fv))]⟩) (fun k => k ≤ c.ss.length) (fun k => c.ss.length - k) 0 (by omega) ?_ ?_
  · exact tq [] []
  rintro k hk
  try dsimp only
  by_cases hlt : k < c.ss.length
  case pos =>
    obtain ⟨x, hx⟩ : ∃ x, c.ss[k]? = some x := ⟨_, List.getElem?_eq_getElem hlt⟩
    repeat' (first | (apply X.loE; (· exact aR); (· first | (exact .eff (.idxS rfl rfl rfl encSw_len hx)))) | refine X.loc ?_ | refine nx ?_ | refine X.cdT ?_ | refine X.cdF ?_ | refine cb ?_ ?_ | (refine cc ?_ ?_ <;> intro hcond) | (apply X.gsE; (· exact aR); (· exact aV); (· exact aW); (· intro hc; first | (exact .eff (.idxS rfl rfl rfl encSw_len hx))); (· exact aR)) | refine rb ?_ | refine nd ?_ | refine dk ?_ | fail)
    · exfalso
      simp [beqL, beqV] at hcond
    · refine ⟨k + 1, by omega, by omega, ?_⟩
      exact tq [] []
  repeat' (first | refine X.loc ?_ | refine nx ?_ | refine X.cdT ?_ | refine X.cdF ?_ | refine cb ?_ ?_ | (refine cc ?_ ?_ <;> intro hcond) | refine rb ?_ | refine nd ?_ | refine dk ?_ | fail)
  refine WP.loop (ι := Nat) (fun k => ⟨[(2, .optr 2 0), (3, .optr 3 0), (4, .fv (.bool false)), (6, .fv (.int .i64 k))], [(2, .box 26 ((encCf c).map .fv)), (3, .box 26 ((encCf c).map .fv))]⟩) (fun k => k ≤ c.ps.length) (fun k => c.ps.length - k) 0 (by omega) ?_ ?_
  · exact tq [] []
  rintro k hk
  try dsimp only
  by_cases hlt : k < c.ps.length
  case pos =>
    obtain ⟨x, hx⟩ : ∃ x, c.ps[k]? = some x := ⟨_, List.getElem?_eq_getElem hlt⟩
    repeat' (first | (apply X.loE; (· exact aR); (· first | (exact .eff (.idxS rfl rfl rfl encPo_len hx)))) | refine X.loc ?_ | refine nx ?_ | refine X.cdT ?_ | refine X.cdF ?_ | refine cb ?_ ?_ | (refine cc ?_ ?_ <;> intro hcond) | (apply X.gsE; (· exact aR); (· exact aV); (· exact aW); (· intro hc; first | (exact .eff (.idxS rfl rfl rfl encPo_len hx))); (· exact aR)) | refine rb ?_ | refine nd ?_ | refine dk ?_ | fail)
    · exfalso
      simp [beqL, beqV] at hcond
    · refine ⟨k + 1, by omega, by omega, ?_⟩
      exact tq [] []
  repeat' (first | refine X.loc ?_ | refine nx ?_ | refine X.cdT ?_ | refine X.cdF ?_ | refine cb ?_ ?_ | (refine cc ?_ ?_ <;> intro hcond) | refine rb ?_ | refine nd ?_ | refine dk ?_ | fail)
  refine WP.loop (ι := Nat) (fun k => ⟨[(2, .optr 2 0), (3, .optr 3 0), (4, .fv (.bool false)), (7, .fv (.int .i64 k))], [(2, .box 26 ((encCf c).map .fv)), (3, .box 26 ((encCf c).map .fv))]⟩) (fun k => k ≤ c.acs.length) (fun k => c.acs.length - k) 0 (by omega) ?_ ?_
  · exact tq [] []
  rintro k hk
  try dsimp only
  by_cases hlt : k < c.acs.length
  case pos =>
    obtain ⟨x, hx⟩ : ∃ x, c.acs[k]? = some x := ⟨_, List.getElem?_eq_getElem hlt⟩
    repeat' (first | (apply X.loE; (· exact aR); (· first | (exact .eff (.idxS rfl rfl rfl encAc_len hx)))) | refine X.loc ?_ | refine nx ?_ | refine X.cdT ?_ | refine X.cdF ?_ | refine cb ?_ ?_ | (refine cc ?_ ?_ <;> intro hcond) | (apply X.gsE; (· exact aR); (· exact aV); (· exact aW); (· intro hc; first | (exact .eff (.idxS rfl rfl rfl encAc_len hx))); (· exact aR)) | refine rb ?_ | refine nd ?_ | refine dk ?_ | fail)
    · exfalso
      simp [beqL, beqV] at hcond
    · refine ⟨k + 1, by omega, by omega, ?_⟩
      exact tq [] []
  repeat' (first | refine X.loc ?_ | refine nx ?_ | refine X.cdT ?_ | refine X.cdF ?_ | refine cb ?_ ?_ | (refine cc ?_ ?_ <;> intro hcond) | refine rb ?_ | refine nd ?_ | refine dk ?_ | fail)
  exact .f1 (.inl rfl) rfl rfl
theorem actR_len {s : Fb} (h : FbOk s) (a : De) : (actR s a).come.length ≤ 80000 := by
  unfold actR
  split
  · simp
  · split
    · dsimp only
      unfold repR
      split
      · simp
      · split
        · simp
        · split
          · simp
          · exact sentOfF_len h.k _ _ _
    · simp
theorem runR_come : ∀ (l : List De) {s : Fb}, FbOk s → ∀ x ∈ runR s l, x.come.length ≤ 80000
  | [], _, _, x, hx => by simp [runR] at hx
  | a :: l, s, h, x, hx => by
    rw [runR] at hx
    rcases List.mem_cons.1 hx with rfl | hx
    · exact actR_len h a
    · exact runR_come l (h.act a) x hx
theorem scrR_come (l : List De) : ∀ x ∈ scrR l, x.come.length ≤ 80000 := fun x hx => by
  unfold scrR at hx
  split at hx
  · simp at hx
  · exact runR_come l fb0_ok x hx
theorem scrR_len (l : List De) : (scrR l).length ≤ 300 := by
  unfold scrR
  split
  · simp
  · rw [runR_len]; omega
theorem scrC_ok (l : List De) : CfOk (scrC l) := by
  unfold scrC
  split
  · exact CfOk.nil
  · exact (runS_ok fb0_ok l).c
set_option maxHeartbeats 4000000 in
theorem fabricRuns_T (l : List De) (hl : l.length * 232 ≤ 140737488355328) : Fun Tryz.prog 8 [.fv (slOf encDe l)] (.fv (.bool true)) := by
  have u1 : FunO Tryz.prog 25 [.fv (slOf encDe l)] [] (.tup [.fv (slOf encRep (scrR l)), .agg ((encCf (scrC l)).map .fv), .fv (.int .i64 (scrE l))]) [] := script_T l (by omega)
  have c2 := scriptOf_T l (by omega)
  have c3 := sameConf_T (scrC l) (scrC_ok l).small
  have hR := scrR_come l
  have hRl := scrR_len l
  generalize scrR l = R at *
  generalize scrC l = c at *
  generalize scrE l = e at *
  refine Fun.body tbl_ok Tryz.func8 rfl (by kernel_rfl) rfl rfl rfl ?_
  have hX : ([] ++ (l.flatMap encDe).map AV.fv) = (l.flatMap encDe).map AV.fv := rfl
  repeat' (first | (apply X.loE; (· exact aR); (· first | exact .callL rfl rfl rfl (by first | exact c2 | exact c3) rfl | exact bl (c2) | exact bl (c3))) | refine X.loc ?_ | (refine X.cdF ?_ rfl (by simp; done)) | refine nx ?_ | refine X.cdT ?_ | refine X.cdF ?_ | refine cb ?_ ?_ | (refine cc ?_ ?_ <;> intro hcond) | (apply X.gsE; (· exact aR); (· exact aV); (· exact aW); (· intro hc; first | exact .callG rfl rfl rfl (by first | exact c2 | exact c3) rfl | exact bg (c2) | exact bg (c3)); (· exact aR)) | refine rb ?_ | (apply X.cal false; (· exact aR); (· exact u1); (· (refine ⟨?_, ?_, ?_, ?_, ?_, ?_, ?_, ?_, ?_, ?_, ?_⟩; (· skip; (repeat' (first | exact trivial | exact AV.ToL.nil | exact .ptr rfl | exact .sl rfl | exact AV.To.nil rfl | exact .le (.refl _) rfl | exact .frz rfl rfl rfl | exact .frp rfl rfl rfl | exact .le AV.Le.nil rfl | exact AV.To.frzE rfl (by first | rfl | omega | (simp; done)) (by first | assumption | (simp only [List.flatMap_append, List.map_append]; rfl)) rfl | refine AV.To.agg ?_ | refine AV.To.fn ?_ | refine AV.ToL.cons ?_ ?_ | exact OB.To.nil rfl | refine OB.To.row rfl rfl rfl ?_ | refine OB.To.box rfl rfl ?_ | exact .ofEq rfl | refine ⟨?_, ?_⟩ | exact AV.To.cut rfl | fail))); (· skip; (repeat' (first | exact trivial | exact AV.ToL.nil | exact .ptr rfl | exact .sl rfl | exact AV.To.nil rfl | exact .le (.refl _) rfl | exact .frz rfl rfl rfl | exact .frp rfl rfl rfl | exact .le AV.Le.nil rfl | exact AV.To.frzE rfl (by first | rfl | omega | (simp; done)) (by first | assumption | (simp only [List.flatMap_append, List.map_append]; rfl)) rfl | refine AV.To.agg ?_ | refine AV.To.fn ?_ | refine AV.ToL.cons ?_ ?_ | exact OB.To.nil rfl | refine OB.To.row rfl rfl rfl ?_ | refine OB.To.box rfl rfl ?_ | exact .ofEq rfl | refine ⟨?_, ?_⟩ | exact AV.To.cut rfl | fail))); (· rfl); (· rfl); (· skip; (repeat' (first | exact OwnRn.nil | apply OwnRn.cons rfl | apply OB.Rn.row | apply OB.Rn.box | exact AV.RnL.maps _ | exact AV.RnL.nil | exact AV.Rn.nil | exact AV.Rn.le rfl | exact AV.Rn.ptr rfl | exact AV.Rn.sl rfl | apply AV.RnL.cons | apply AV.Rn.agg | apply AV.Rn.tup | apply AV.Rn.fn | apply AV.RnL.app | apply AV.RnL.mapsS | fail))); (· skip; (repeat' (first | exact OwnRn.nil | apply OwnRn.cons rfl | apply OB.Rn.row | apply OB.Rn.box | exact AV.RnL.maps _ | exact AV.RnL.nil | exact AV.Rn.nil | exact AV.Rn.le rfl | exact AV.Rn.ptr rfl | exact AV.Rn.sl rfl | apply AV.RnL.cons | apply AV.Rn.agg | apply AV.Rn.tup | apply AV.Rn.fn | apply AV.RnL.app | apply AV.RnL.mapsS | fail))); (· rfl); (· rfl); (· exact (by first | exact (rfl : _ = []) | exact (rfl : _ = [_]) | exact (rfl : _ = [_, _]) | exact (rfl : _ = [_, _, _]) | exact (rfl : _ = [_, _, _, _]) | exact (rfl : _ = [_, _, _, _, _]) | exact (rfl : _ = [_, _, _, _, _, _]) | exact (rfl : _ = [_, _, _, _, _, _, _]) | exact (rfl : _ = [_, _, _, _, _, _, _, _]) | exact (rfl : _ = [_, _, _, _, _, _, _, _, _]) | exact (rfl : _ = [_, _, _, _, _, _, _, _, _, _]) | exact (rfl : _ = [_, _, _, _, _, _, _, _, _, _, _]) | exact (rfl : _ = [_, _, _, _, _, _, _, _, _, _, _, _]) | exact (rfl : _ = [_, _, _, _, _, _, _, _, _, _, _, _, _]) | exact (rfl : _ = [_, _, _, _, _, _, _, _, _, _, _, _, _, _]) | exact (rfl : _ = [_, _, _, _, _, _, _, _, _, _, _, _, _, _, _]) | exact (rfl : _ = [_, _, _, _, _, _, _, _, _, _, _, _, _, _, _, _]))); (· first | rfl | (simp only [freeNs, noRefH, OB.cells, refsL_fv, refsL_app]; rfl)); (· exact (by first | exact (rfl : _ = []) | exact (rfl : _ = [_]) | exact (rfl : _ = [_, _]) | exact (rfl : _ = [_, _, _]) | exact (rfl : _ = [_, _, _, _]) | exact (rfl : _ = [_, _, _, _, _]) | exact (rfl : _ = [_, _, _, _, _, _]) | exact (rfl : _ = [_, _, _, _, _, _, _]) | exact (rfl : _ = [_, _, _, _, _, _, _, _]) | exact (rfl : _ = [_, _, _, _, _, _, _, _, _]) | exact (rfl : _ = [_, _, _, _, _, _, _, _, _, _]) | exact (rfl : _ = [_, _, _, _, _, _, _, _, _, _, _]) | exact (rfl : _ = [_, _, _, _, _, _, _, _, _, _, _, _]) | exact (rfl : _ = [_, _, _, _, _, _, _, _, _, _, _, _, _]) | exact (rfl : _ = [_, _, _, _, _, _, _, _, _, _, _, _, _, _]) | exact (rfl : _ = [_, _, _, _, _, _, _, _, _, _, _, _, _, _, _]) | exact (rfl : _ = [_, _, _, _, _, _, _, _, _, _, _, _, _, _, _, _])))))) | refine nd ?_ | refine dk ?_ | fail)
  refine WP.loop (ι := Nat) (fun k => ⟨[(2, .fv (.bool false)), (3, .fv (slOf encRep R)), (6, .fv (slOf encRep R)), (9, .fv (.int .i64 k))], []⟩) (fun k => k ≤ R.length) (fun k => R.length - k) 0 (by omega) ?_ ?_
  · exact tq [] []
  rintro k hk
  try dsimp only
  by_cases hlt : k < R.length
  case neg =>
    repeat' (first | refine X.loc ?_ | refine nx ?_ | refine X.cdT ?_ | refine X.cdF ?_ | refine cb ?_ ?_ | (refine cc ?_ ?_ <;> intro hcond) | refine rb ?_ | refine nd ?_ | refine dk ?_ | fail)
    exact .f1 (.inl rfl) rfl rfl
  case pos =>
    obtain ⟨x, hx⟩ : ∃ x, R[k]? = some x := ⟨_, List.getElem?_eq_getElem hlt⟩
    have c4 := sameCome_T x.come (by have := hR x (List.mem_of_getElem? hx); omega)
    repeat' (first | (apply X.loE; (· exact aR); (· first | (exact .eff (.idxS rfl rfl rfl encRep_len hx)) | exact .callL rfl rfl rfl (c4) rfl | exact bl (c4))) | refine X.loc ?_ | (refine X.cdT ?_ rfl (by exact decide_eq_true (by omega))) | (refine X.cdF ?_ rfl (by simp; done)) | refine nx ?_ | refine X.cdT ?_ | refine X.cdF ?_ | refine cb ?_ ?_ | (refine cc ?_ ?_ <;> intro hcond) | (apply X.gsE; (· exact aR); (· exact aV); (· exact aW); (· intro hc; first | (exact .eff (.idxS rfl rfl rfl encRep_len hx)) | exact .callG rfl rfl rfl (c4) rfl | exact bg (c4)); (· exact aR)) | refine rb ?_ | refine nd ?_ | refine dk ?_ | fail)
    refine ⟨k + 1, by omega, by omega, ?_⟩
    try dsimp only
    exact tq [] []
theorem act_cellsOf : Tryz.prog.cellsOf 74 = 28 := by kernel_rfl
theorem act_bytes : Tryz.prog.bytesOf 74 = 232 := by kernel_rfl
theorem fabricRuns_open {H : Type} {enc : TypeId × Value → H} (W : World) (base : Nat) {v0 : Value} {d0 : DataW H} {p0 : List MemPlace} (hv0 : Value.okWide Tryz.prog W .any base 49 v0)
    (h0 : DataW.Trod enc Tryz.prog W 0 (fun _ => true) true 49 v0 d0 p0) (hs0 : SizedCl Tryz.prog 49 d0) : Calls Tryz.prog 8 #[v0] W fun e W' => e = .returned (.bool true) ∧ Below W.heap.size W W' := by
  obtain ⟨l, _, hl, hr⟩ := open_sl_arg (Ok := fun _ : De => True) Tryz.underlying49 act_leaves act_cellsOf rfl (by omega) act_bytes (fun cs h => let ⟨a, ha⟩ := de_of_ok h; ⟨a, trivial, ha⟩) hv0 h0 hs0
  exact (fabricRuns_T l (by simp only [reachBytes] at hl; omega)).yes ⟨hr, trivial⟩
end Go.Proofs.YtmidechdlbcepaaGreat