import Derived.Test.YtmidechdlbcepaaGreatPack51
import Derived.Test.YtmidechdlbcepaaGreatPack33
import Derived.Test.YtmidechdlbcepaaGreatPack47
import Derived.Test.YtmidechdlbcepaaGreatPack37
import Derived.Test.YtmidechdlbcepaaGreatPack36
set_option linter.unusedSimpArgs false
set_option linter.unusedVariables false
namespace Go.Proofs.YtmidechdlbcepaaGreat
open Go.RowKit
set_option maxRecDepth 100000

set_option maxHeartbeats 1000000 in
theorem eqAr_T (l : List Ar) (hl : l.length < 9223372036854775807) : Fun Tryz.prog 22 [.fv (slOf encAr l), .fv (slOf encAr l)] (.fv (.bool true)) := by
  refine Fun.body tbl_ok Tryz.func22 rfl (by kernel_rfl) rfl rfl rfl ?_
  repeat' (first | refine X.loc ?_ | refine nx ?_ | refine cb ?_ ?_ | (refine cc ?_ ?_ <;> intro hcond) | refine rb ?_ | refine nd ?_ | refine dk ?_ | fail)
  · exfalso
    simp at hcond
  refine WP.loop (ι := Nat) (fun k => ⟨[(0, .fv (slOf encAr l)), (1, .fv (slOf encAr l)), (12, .fv (.int .i64 l.length)), (13, .fv (.int .i64 k))], []⟩) (fun k => k ≤ l.length) (fun k => l.length - k) 0 (by omega) ?_ ?_
  · exact lq
  rintro k hk
  try dsimp only
  by_cases hlt : k < l.length
  case neg =>
    repeat' (first | refine X.loc ?_ | refine nx ?_ | refine X.cdT ?_ | refine X.cdF ?_ | refine cb ?_ ?_ | (refine cc ?_ ?_ <;> intro hcond) | refine rb ?_ | refine nd ?_ | refine dk ?_ | fail)
    refine .f1 (.inl rfl) rfl rfl
  case pos =>
    obtain ⟨x, hx⟩ : ∃ x, l[k]? = some x := ⟨_, List.getElem?_eq_getElem hlt⟩
    repeat' (first | refine X.loc ?_ | refine nx ?_ | refine X.cdT ?_ | refine X.cdF ?_ | refine cb ?_ ?_ | (refine cc ?_ ?_ <;> intro hcond) | refine rb ?_ | refine nd ?_ | refine dk ?_ | fail)
    · exfalso
      simp [beqL, beqV] at hcond
    · refine ⟨k + 1, by omega, by omega, ?_⟩
      exact lq

theorem set6 {K : Kn} (h : K.length = 6) (c : Cf) : ((((((K.set 0 (some c)).set 1 (some c)).set 2 (some c)).set 3 (some c)).set 4 (some c)).set 5 (some c)) = K6 c := by
  match K, h with
  | [a0, a1, a2, a3, a4, a5], _ => rfl
theorem allA_is : allA = [deSy 0, deSy 1, deSy 2, deSy 3, deSy 4, deSy 5] := rfl
theorem act_sync (s : Fb) {n : Nat} (hn : n < 6) : actS s (deSy n) = ⟨s.c, s.K.set n (some s.c)⟩ := by
  have h7 : (deSy (n : Int)).kind = 7 := rfl
  have hk : (deSy (n : Int)).n = (n : Int) := rfl
  unfold actS
  rw [if_pos h7, hk, if_neg (by omega), Int.toNat_natCast]
theorem runS_all {s : Fb} (h : s.K.length = 6) : runS s allA = ⟨s.c, K6 s.c⟩ := by
  rw [allA_is]
  show actS (actS (actS (actS (actS (actS s (deSy (0 : Nat))) (deSy (1 : Nat))) (deSy (2 : Nat))) (deSy (3 : Nat))) (deSy (4 : Nat))) (deSy (5 : Nat)) = _
  rw [act_sync s (by omega), act_sync _ (by omega), act_sync _ (by omega), act_sync _ (by omega), act_sync _ (by omega), act_sync _ (by omega)]
  dsimp only
  rw [set6 h]
theorem settled {c : Cf} (hc : CfOk c) (id : Int) (f : Fr) : actR ⟨c, K6 c⟩ (deSe id f) = ⟨delE c id f, delR c id f⟩ := by
  have h7 : (deSe id f).kind ≠ 7 := by show (8 : Int) ≠ 7; decide
  have h8 : (deSe id f).kind = 8 := rfl
  unfold actR
  rw [if_neg h7, if_pos h8]
  show (⟨repE c id f, repR c (K6 c) id f⟩ : Rep) = _
  unfold repE repR delE delR
  rw [if_neg (by rw [cfMay_iff.2 hc]; simp), if_neg (by rw [cfMay_iff.2 hc]; simp)]
  cases poAt c id with
  | none => rfl
  | some q => rfl
def addedB (l : List De) (n : Int) : Bool := l.any fun a => a.kind == 2 && a.po.id == n
theorem step_ids {c : Cf} {a : De} {p : Po} (h : p ∈ (stepC c a).ps) : (∃ q ∈ c.ps, q.id = p.id) ∨ (a.kind = 2 ∧ p.id = a.po.id) := by
  rcases stepC_ps h with h2 | ⟨h2, rfl⟩ | ⟨q, hq, rfl⟩
  · exact .inl ⟨p, h2, rfl⟩
  · exact .inr ⟨h2, rfl⟩
  · exact .inl ⟨q, hq, rfl⟩
structure Added (l : List De) (s : Fb) : Prop where
  c : ∀ p ∈ s.c.ps, addedB l p.id = true
  k : ∀ x, some x ∈ s.K → ∀ p ∈ x.ps, addedB l p.id = true
theorem added_snoc {l : List De} {n : Int} (a : De) (h : addedB l n = true) : addedB (l ++ [a]) n = true := by
  unfold addedB at *
  rw [List.any_append, h, Bool.true_or]
theorem Added.step {l : List De} {s : Fb} (h : Added l s) (a : De) : Added (l ++ [a]) (actS s a) := by
  unfold actS
  split
  · split
    · exact ⟨fun p hp => added_snoc a (h.c p hp), fun x hx p hp => added_snoc a (h.k x hx p hp)⟩
    · refine ⟨fun p hp => added_snoc a (h.c p hp), fun x hx p hp => ?_⟩
      rcases List.mem_or_eq_of_mem_set hx with hx | hx
      · exact added_snoc a (h.k x hx p hp)
      · obtain rfl := Option.some.inj hx
        exact added_snoc a (h.c p hp)
  · split
    · exact ⟨fun p hp => added_snoc a (h.c p hp), fun x hx p hp => added_snoc a (h.k x hx p hp)⟩
    · refine ⟨fun p hp => ?_, fun x hx p hp => added_snoc a (h.k x hx p hp)⟩
      rcases step_ids hp with ⟨q, hq, e⟩ | ⟨hk, e⟩
      · rw [← e]
        exact added_snoc a (h.c q hq)
      · unfold addedB
        rw [List.any_append]
        simp [hk, e]
theorem Added.run : ∀ (m l : List De) {s : Fb}, Added l s → Added (l ++ m) (runS s m)
  | [], l, s, h => by rw [List.append_nil]; exact h
  | a :: m, l, s, h => by
    have := Added.run m (l ++ [a]) (h.step a)
    rw [List.append_assoc] at this
    exact this
theorem CfOk.fitM {c : Cf} (h : CfOk c) : c.Fit := ⟨by have := h.sl; omega, by have := h.pl; omega, by have := h.al; omega⟩
theorem copyW_T (c : Cf) (hl : c.Fit) : Fun Tryz.prog 32 [.agg ((encCf c).map .fv)] (.agg ((encCf c).map .fv)) :=
  (copy_T c hl).froz [7, 8, 9] (.agg (.cons (.frz rfl rfl rfl) (.cons (.frz rfl rfl rfl) (.cons (.frz rfl rfl rfl) .nil))))
theorem setFabC (c d : Cf) (Fs : List (List Fl)) : setC ((encFab c Fs).map .fv) 0 ((encCf d).map .fv) = some ((encFab d Fs).map .fv) := by
  unfold encFab
  generalize Fs.map (slOf encFl) = r
  cases r with
  | nil => rfl
  | cons a r => rfl
set_option maxHeartbeats 8000000 in
theorem act_T (s : Fb) (a : De) (h : FbOk s) : FunO Tryz.prog 51 [.optr 1000 0, .agg ((encDe a).map .fv)] [(1000, fabB s.c (flsK s.K))] (.agg [.fv (.int .i64 (actR s a).code), .fv (slOf encAr (actR s a).come)]) [(1000, fabB (actS s a).c (flsK (actS s a).K))] := by
  obtain ⟨hc, hk, h6⟩ := h
  have hF := flsK_ok hk
  obtain ⟨e1, e2, e3⟩ := send_rep ⟨hc, hk, h6⟩ a.n a.fr
  refine FunO.bodyL tbl_ok Tryz.func51 rfl (by kernel_rfl) rfl rfl rfl ?_
  unfold actR actS fabB
  by_cases k7 : a.kind = 7
  · rw [if_pos k7, if_pos k7]
    by_cases hr : a.n < 0 ∨ 6 ≤ a.n
    · rw [if_pos hr, if_pos hr]
      obtain ⟨A0, A1, A2, A3, A4, A5, hA⟩ := six hF.len
      rw [hA]
      try dsimp only
      repeat' (first | refine X.loc ?_ | refine nx ?_ | refine X.cdT ?_ | refine X.cdF ?_ | refine cb ?_ ?_ | (refine cc ?_ ?_ <;> intro hcond) | refine rb ?_ | refine nd ?_ | refine dk ?_ | fail)
      exact rq ⟨[(4, .optr 4 0)], [(4, .box 55 [.fv (.int .i64 2), .fv (.sl [] 0)]), (1000, .box 88 ((encFab s.c [A0, A1, A2, A3, A4, A5]).map .fv))]⟩ (tq [] [])
    · rw [if_neg hr, if_neg hr]
      obtain ⟨n, hn⟩ := Int.eq_ofNat_of_zero_le (show 0 ≤ a.n by omega)
      have u1 := sync_T s.c (flsK s.K) a.n hc (by omega) hF
      have hs := flsK_set h6 (c := s.c) (n := n) (by omega)
      rw [hn, Int.toNat_natCast, hs] at u1
      rw [hn, Int.toNat_natCast]
      try dsimp only
      have hF2 := flsK_ok (hk.set hc n)
      obtain ⟨A0, A1, A2, A3, A4, A5, hA⟩ := six hF.len
      obtain ⟨B0, B1, B2, B3, B4, B5, hB⟩ := six hF2.len
      rw [hA, hB] at u1
      rw [hA, hB]
      unfold fabB at u1
      rw [← hn] at u1
      clear hs hF hF2 hA hB
      repeat' (first | refine X.loc ?_ | refine nx ?_ | refine X.cdT ?_ | refine X.cdF ?_ | refine cb ?_ ?_ | (refine cc ?_ ?_ <;> intro hcond) | refine rb ?_ | refine X.c0 (u1) ?_ | refine nd ?_ | refine dk ?_ | fail)
      exact rq ⟨[(4, .optr 4 0)], [(4, .box 55 [.fv (.int .i64 0), .fv (.sl [] 0)]), (1000, .box 88 ((encFab s.c [B0, B1, B2, B3, B4, B5]).map .fv))]⟩ (tq [] [])
  rw [if_neg k7, if_neg k7]
  by_cases k8 : a.kind = 8
  · rw [if_pos k8, if_pos k8]
    try dsimp only
    have u1 := send_T s.c (flsK s.K) a.n a.fr hc.pl hF.len e3
    rw [e1, e2] at u1
    generalize repE s.c a.n a.fr = e at *
    generalize repR s.c s.K a.n a.fr = R at *
    unfold fabB at u1
    obtain ⟨A0, A1, A2, A3, A4, A5, hA⟩ := six hF.len
    rw [hA] at u1 ⊢
    clear e1 e2 e3 hF hA
    repeat' (first | refine X.loc ?_ | refine nx ?_ | refine X.cdT ?_ | refine X.cdF ?_ | refine cb ?_ ?_ | (refine cc ?_ ?_ <;> intro hcond) | refine rb ?_ | refine X.c0 (u1) ?_ | refine nd ?_ | refine dk ?_ | fail)
    exact rq ⟨[(4, .optr 4 0)], [(4, .box 55 [.fv (.int .i64 e), .fv (slOf encAr R)]), (1000, .box 88 ((encFab s.c [A0, A1, A2, A3, A4, A5]).map .fv))]⟩ (tq [] [52])
  · rw [if_neg k8, if_neg k8]
    try dsimp only
    have c1 := apply_T s.c a hc.fitM
    obtain ⟨A0, A1, A2, A3, A4, A5, hA⟩ := six hF.len
    rw [hA]
    clear e1 e2 e3 hF hA
    unfold stepC
    by_cases h0 : applyE s.c a = 0
    · rw [if_pos h0, h0]
      rw [h0] at c1
      have s1 := setFabC s.c (applyR s.c a) [A0, A1, A2, A3, A4, A5]
      generalize applyR s.c a = d at *
      repeat' (first | (apply X.loE; (· exact aR); (· first | (exact .eff (.loadO rfl rfl (readFabC s.c _))) | exact .callL rfl rfl rfl (c1) rfl | exact bl (c1))) | refine X.loc ?_ | (apply X.stBE; (· exact aS); (· exact s1); (· exact aE)) | refine nx ?_ | refine X.cdT ?_ | refine X.cdF ?_ | refine cb ?_ ?_ | (refine cc ?_ ?_ <;> intro hcond) | (apply X.gsE; (· exact aR); (· exact aV); (· exact aW); (· intro hc; first | (exact .eff (.loadO rfl rfl (readFabC s.c _))) | exact .callG rfl rfl rfl (c1) rfl | exact bg (c1)); (· exact aR)) | refine rb ?_ | refine nd ?_ | refine dk ?_ | fail)
      exact rq ⟨[(4, .optr 4 0)], [(4, .box 55 [.fv (.int .i64 0), .fv (.sl [] 0)]), (1000, .box 88 ((encFab d [A0, A1, A2, A3, A4, A5]).map .fv))]⟩ (tq [] [])
    · rw [if_neg h0]
      generalize applyE s.c a = e at *
      generalize applyR s.c a = d at *
      repeat' (first | (apply X.loE; (· exact aR); (· first | (exact .eff (.loadO rfl rfl (readFabC s.c _))) | exact .callL rfl rfl rfl (c1) rfl | exact bl (c1))) | refine X.loc ?_ | refine nx ?_ | refine X.cdT ?_ | refine X.cdF ?_ | refine cb ?_ ?_ | (refine cc ?_ ?_ <;> intro hcond) | (apply X.gsE; (· exact aR); (· exact aV); (· exact aW); (· intro hc; first | (exact .eff (.loadO rfl rfl (readFabC s.c _))) | exact .callG rfl rfl rfl (c1) rfl | exact bg (c1)); (· exact aR)) | refine rb ?_ | refine nd ?_ | refine dk ?_ | fail)
      exact rq ⟨[(4, .optr 4 0)], [(4, .box 55 [.fv (.int .i64 e), .fv (.sl [] 0)]), (1000, .box 88 ((encFab s.c [A0, A1, A2, A3, A4, A5]).map .fv))]⟩ (tq [] [])
set_option maxHeartbeats 8000000 in
theorem run0s_T (l : List De) (hl : l.length < 9223372036854775807) : FunO Tryz.prog 25 [.fv (slOf encDe l)] [] (.tup [.osl 7, .agg ((encCf (scrC l)).map .fv), .fv (.int .i64 (scrE l))]) [(7, .row 55 2 (scrR l).length (((scrR l).flatMap encRep).map .fv))] := by
  refine FunO.bodyL tbl_ok Tryz.func25 rfl (by kernel_rfl) rfl rfl rfl ?_
  unfold scrC scrE scrR
  by_cases h3 : 300 < l.length
  · rw [if_pos h3, if_pos h3, if_pos h3]
    repeat' (first | refine X.loc ?_ | refine nx ?_ | refine X.cdT ?_ | refine X.cdF ?_ | refine cb ?_ ?_ | (refine cc ?_ ?_ <;> intro hcond) | refine rb ?_ | refine nd ?_ | refine dk ?_ | fail)
    exact rq ⟨[(2, .osl 7), (3, .optr 3 0), (4, .fv (.int .i64 1))], [(7, .row 55 2 0 []), (3, .box 26 ((encCf cf0).map .fv))]⟩ (tq [(7, .nil)] [])
  rw [if_neg h3, if_neg h3, if_neg h3]
  repeat' (first | refine X.loc ?_ | refine nx ?_ | refine X.cdT ?_ | refine X.cdF ?_ | refine cb ?_ ?_ | (refine cc ?_ ?_ <;> intro hcond) | refine rb ?_ | refine nd ?_ | refine dk ?_ | fail)
  refine WP.loop (ι := Nat) (fun k => ⟨[(3, .optr 3 0), (5, .optr 900 0), (6, .osl 901), (15, .fv (slOf encDe l)), (16, .fv (.int .i64 l.length)), (17, .fv (.int .i64 k))], [(3, .box 26 ((encCf cf0).map .fv)), (900, fabB (runS fb0 (l.take k)).c (flsK (runS fb0 (l.take k)).K)), (901, .row 55 2 (runR fb0 (l.take k)).length (((runR fb0 (l.take k)).flatMap encRep).map .fv))]⟩) (fun k => k ≤ l.length) (fun k => l.length - k) 0 (by omega) ?_ ?_
  · try dsimp only
    rw [List.take_zero]
    have e0 : (encFab (runS fb0 []).c (flsK (runS fb0 []).K)).map AV.fv = (encCf cf0).map AV.fv ++ [.fv (.sl [] 0), .fv (.sl [] 0), .fv (.sl [] 0), .fv (.sl [] 0), .fv (.sl [] 0), .fv (.sl [] 0)] := rfl
    unfold fabB
    rw [e0, show runR fb0 [] = [] from rfl]
    exact tq [(900, .id 14), (901, .nil)] []
  rintro k hk
  try dsimp only
  have hok := runS_ok fb0_ok (l.take k)
  have hrl := runR_len (l.take k) fb0
  rw [List.length_take] at hrl
  by_cases hlt : k < l.length
  case pos =>
    obtain ⟨x, hx⟩ : ∃ x, l[k]? = some x := ⟨_, List.getElem?_eq_getElem hlt⟩
    have u1 := act_T (runS fb0 (l.take k)) x hok
    have hsS : runS fb0 (l.take (k + 1)) = actS (runS fb0 (l.take k)) x := by rw [take_succ hx, runS_snoc]
    have hsR : runR fb0 (l.take (k + 1)) = runR fb0 (l.take k) ++ [actR (runS fb0 (l.take k)) x] := by rw [take_succ hx, runR_snoc]
    have hok2 := hok.act x
    generalize actR (runS fb0 (l.take k)) x = r at *
    generalize actS (runS fb0 (l.take k)) x = s2 at *
    generalize runS fb0 (l.take k) = s1 at *
    generalize runR fb0 (l.take k) = R at *
    obtain ⟨A0, A1, A2, A3, A4, A5, hA⟩ := six (flsK_ok hok.k).len
    obtain ⟨B0, B1, B2, B3, B4, B5, hB⟩ := six (flsK_ok hok2.k).len
    rw [hA, hB] at u1
    rw [hA]
    unfold fabB at u1 ⊢
    repeat' (first | (apply X.loE; (· exact aR); (· first | (exact .eff (.idxS rfl rfl rfl encDe_len hx)))) | refine X.loc ?_ | refine nx ?_ | refine X.cdT ?_ | refine X.cdF ?_ | refine cb ?_ ?_ | (refine cc ?_ ?_ <;> intro hcond) | (apply X.gsE; (· exact aR); (· exact aV); (· exact aW); (· intro hc; first | (exact .eff (.idxS rfl rfl rfl encDe_len hx))); (· exact aR)) | refine rb ?_ | refine X.c0 (u1) ?_ | refine nd ?_ | refine dk ?_ | fail)
    refine ⟨k + 1, by omega, by omega, ?_⟩
    try dsimp only
    rw [hsS, hsR, hB]
    refine St.to [(901, .id 26)] [] rfl rfl ?_ ?_ <;> (repeat' (first | exact tA | refine t1 ?_ | exact tB | refine t2 ?_ ?_ | refine t3 ?_ | refine t4 ?_ ?_ | refine .ofEq ?_ | refine OB.To.cut rfl rfl ?_ ?_ ?_ ?_ | refine OB.To.box rfl rfl ?_ | refine ⟨⟨_, rfl, ?_⟩, ?_⟩ | refine ⟨?_, ?_⟩ | fail))
    all_goals first | omega | (simp; done) | (simp only [List.flatMap_append, List.map_append]; rfl)
  case neg =>
    rw [List.take_of_length_le (by omega)] at hok ⊢
    have c1 := copyW_T (runS fb0 l).c hok.c.fitM
    generalize runR fb0 l = R at *
    obtain ⟨A0, A1, A2, A3, A4, A5, hA⟩ := six (flsK_ok hok.k).len
    rw [hA]
    generalize (runS fb0 l).c = c at *
    unfold fabB
    repeat' (first | (apply X.loE; (· exact aR); (· first | (exact .eff (.loadO rfl rfl (readFabC c _))) | exact .callL rfl rfl rfl (c1) rfl | exact bl (c1))) | refine X.loc ?_ | refine nx ?_ | refine X.cdT ?_ | refine X.cdF ?_ | refine cb ?_ ?_ | (refine cc ?_ ?_ <;> intro hcond) | (apply X.gsE; (· exact aR); (· exact aV); (· exact aW); (· intro hc; first | (exact .eff (.loadO rfl rfl (readFabC c _))) | exact .callG rfl rfl rfl (c1) rfl | exact bg (c1)); (· exact aR)) | refine rb ?_ | refine nd ?_ | refine dk ?_ | fail)
    exact rq ⟨[(2, .osl 7), (3, .optr 3 0), (4, .fv (.int .i64 0))], [(7, .row 55 2 R.length ((R.flatMap encRep).map .fv)), (3, .box 26 ((encCf c).map .fv))]⟩ (tq [(7, .id 901)] [])
theorem script_T (l : List De) (hl : l.length < 9223372036854775807) : Fun Tryz.prog 25 [.fv (slOf encDe l)] (.tup [.fv (slOf encRep (scrR l)), .agg ((encCf (scrC l)).map .fv), .fv (.int .i64 (scrE l))]) :=
  (run0s_T l hl).froz [7] (.tup (.cons (.frz rfl rfl rfl) (.cons (.le (.refl _) rfl) (.cons (.le (.refl _) rfl) .nil))))
end Go.Proofs.YtmidechdlbcepaaGreat