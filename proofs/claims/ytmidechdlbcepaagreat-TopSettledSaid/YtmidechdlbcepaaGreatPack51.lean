import Derived.Test.YtmidechdlbcepaaGreatPack50
import Derived.Test.YtmidechdlbcepaaGreatPack47
import Derived.Test.YtmidechdlbcepaaGreatPack36
set_option linter.unusedSimpArgs false
set_option linter.unusedVariables false
namespace Go.Proofs.YtmidechdlbcepaaGreat
open Go.RowKit
set_option maxRecDepth 100000
theorem set6 {K : Kn} (h : K.length = 6) (c : Cf) : ((((((K.set 0 (some c)).set 1 (some c)).set 2 (some c)).set 3 (some c)).set 4 (some c)).set 5 (some c)) = K6 c := by
  match K, h with
  | [a0, a1, a2, a3, a4, a5], _ => rfl
theorem allA_is : allA = [deSy 0, deSy 1, deSy 2, deSy 3, deSy 4, deSy 5] := rfl
theorem act_sync (s : Fb) {n : Nat} (hn : n < 6) : actS s (deSy n) = ⟨s.c, s.K.set n (some s.c)⟩ := by
  have h7 : (deSy (n : Int)).kind = 7 := rfl
  have hk : (deSy (n : Int)).n = (n : Int) := rfl
  unfold actS
  rw [if_pos h7, hk, if_neg (by omega), Int.toNat_natCast]
theorem runS_all {s : Fb} (h : s.K.length = 6) : runS s allA = ⟨s.c, K6 s.c⟩ := by
  rw [allA_is]
  show actS (actS (actS (actS (actS (actS s (deSy (0 : Nat))) (deSy (1 : Nat))) (deSy (2 : Nat))) (deSy (3 : Nat))) (deSy (4 : Nat))) (deSy (5 : Nat)) = _
  rw [act_sync s (by omega), act_sync _ (by omega), act_sync _ (by omega), act_sync _ (by omega), act_sync _ (by omega), act_sync _ (by omega)]
  dsimp only
  rw [set6 h]
theorem settled {c : Cf} (hc : CfOk c) (id : Int) (f : Fr) : actR ⟨c, K6 c⟩ (deSe id f) = ⟨delE c id f, delR c id f⟩ := by
  have h7 : (deSe id f).kind ≠ 7 := by show (8 : Int) ≠ 7; decide
  have h8 : (deSe id f).kind = 8 := rfl
  unfold actR
  rw [if_neg h7, if_pos h8]
  show (⟨repE c id f, repR c (K6 c) id f⟩ : Rep) = _
  unfold repE repR delE delR
  rw [if_neg (by rw [cfMay_iff.2 hc]; simp), if_neg (by rw [cfMay_iff.2 hc]; simp)]
  cases poAt c id with
  | none => rfl
  | some q => rfl
def addedB (l : List De) (n : Int) : Bool := l.any fun a => a.kind == 2 && a.po.id == n
theorem step_ids {c : Cf} {a : De} {p : Po} (h : p ∈ (stepC c a).ps) : (∃ q ∈ c.ps, q.id = p.id) ∨ (a.kind = 2 ∧ p.id = a.po.id) := by
  rcases stepC_ps h with h2 | ⟨h2, rfl⟩ | ⟨q, hq, rfl⟩
  · exact .inl ⟨p, h2, rfl⟩
  · exact .inr ⟨h2, rfl⟩
  · exact .inl ⟨q, hq, rfl⟩
structure Added (l : List De) (s : Fb) : Prop where
  c : ∀ p ∈ s.c.ps, addedB l p.id = true
  k : ∀ x, some x ∈ s.K → ∀ p ∈ x.ps, addedB l p.id = true
theorem added_snoc {l : List De} {n : Int} (a : De) (h : addedB l n = true) : addedB (l ++ [a]) n = true := by
  unfold addedB at *
  rw [List.any_append, h, Bool.true_or]
theorem Added.step {l : List De} {s : Fb} (h : Added l s) (a : De) : Added (l ++ [a]) (actS s a) := by
  unfold actS
  split
  · split
    · exact ⟨fun p hp => added_snoc a (h.c p hp), fun x hx p hp => added_snoc a (h.k x hx p hp)⟩
    · refine ⟨fun p hp => added_snoc a (h.c p hp), fun x hx p hp => ?_⟩
      rcases List.mem_or_eq_of_mem_set hx with hx | hx
      · exact added_snoc a (h.k x hx p hp)
      · obtain rfl := Option.some.inj hx
        exact added_snoc a (h.c p hp)
  · split
    · exact ⟨fun p hp => added_snoc a (h.c p hp), fun x hx p hp => added_snoc a (h.k x hx p hp)⟩
    · refine ⟨fun p hp => ?_, fun x hx p hp => added_snoc a (h.k x hx p hp)⟩
      rcases step_ids hp with ⟨q, hq, e⟩ | ⟨hk, e⟩
      · rw [← e]
        exact added_snoc a (h.c q hq)
      · unfold addedB
        rw [List.any_append]
        simp [hk, e]
theorem Added.run : ∀ (m l : List De) {s : Fb}, Added l s → Added (l ++ m) (runS s m)
  | [], l, s, h => by rw [List.append_nil]; exact h
  | a :: m, l, s, h => by
    have := Added.run m (l ++ [a]) (h.step a)
    rw [List.append_assoc] at this
    exact this
theorem added0 (l : List De) : Added l (runS fb0 l) := by
  have := Added.run l [] (s := fb0) ⟨fun p hp => by simp [fb0, cf0] at hp, fun x hx p hp => by simp [fb0] at hx⟩
  exact this
theorem stale {l : List De} {a : De} {x : Ar} (hx : x ∈ (actR (runS fb0 l) a).come) : a.kind = 8 ∧ addedB l x.port = true ∧ x.is.kind ≠ 1 := by
  have hok := runS_ok fb0_ok l
  have had := added0 l
  unfold actR at hx
  split at hx
  · simp at hx
  · split at hx
    · rename_i h8
      refine ⟨h8, ?_⟩
      dsimp only at hx
      unfold repR at hx
      split at hx
      · simp at hx
      · rename_i q hpo
        split at hx
        · simp at hx
        · rename_i h0
          split at hx
          · simp at hx
          · rename_i hff
            have hff0 : frameFault a.fr = 0 := by
              by_cases h : frameFault a.fr = 0
              · exact h
              · exact absurd h (by simpa using hff)
            obtain ⟨hq, _⟩ := poAt_mem hpo
            have hqr := (hok.c.pg q hq).1
            unfold PoR at hqr
            obtain ⟨g, hg, hx⟩ := sent_led hx
            have hgo := led_ok (hok.k.cf q.ch) (by omega) hff0 hg
            have hport := arrG_port hx
            obtain ⟨_, _, _, hkind, p2, hp2, hpo2, _, _⟩ := hgo
            constructor
            · rw [hport]
              obtain ⟨hp3, hid3⟩ := poAt_mem hpo2
              rw [← hid3]
              unfold cfAt cfK at hp3
              cases hK : (runS fb0 l).K.getD q.ch.toNat none with
              | none =>
                rw [hK] at hp3
                simp [cf0] at hp3
              | some c2 =>
                rw [hK] at hp3
                refine had.k c2 ?_ p2 hp3
                rw [List.getD_eq_getElem?_getD] at hK
                cases hK2 : (runS fb0 l).K[q.ch.toNat]? with
                | none => rw [hK2] at hK; cases hK
                | some y =>
                  rw [hK2] at hK
                  have : y = some c2 := hK
                  rw [← this]
                  exact List.mem_of_getElem? hK2
            · have : x.is = g.is := by
                unfold arrG at hx
                split at hx
                · split at hx
                  · obtain rfl := List.mem_singleton.1 hx
                    rfl
                  · simp at hx
                · simp at hx
              rw [this]
              omega
    · simp at hx
theorem CfOk.fitM {c : Cf} (h : CfOk c) : c.Fit := ⟨by have := h.sl; omega, by have := h.pl; omega, by have := h.al; omega⟩
theorem copyW_T (c : Cf) (hl : c.Fit) : Fun Tryz.prog 32 [.agg ((encCf c).map .fv)] (.agg ((encCf c).map .fv)) :=
  (copy_T c hl).froz [7, 8, 9] (.agg (.cons (.frz rfl rfl rfl) (.cons (.frz rfl rfl rfl) (.cons (.frz rfl rfl rfl) .nil))))
theorem setFabC (c d : Cf) (Fs : List (List Fl)) : setC ((encFab c Fs).map .fv) 0 ((encCf d).map .fv) = some ((encFab d Fs).map .fv) := by
  unfold encFab
  generalize Fs.map (slOf encFl) = r
  cases r with
  | nil => rfl
  | cons a r => rfl
set_option maxHeartbeats 8000000 in
theorem act_T (s : Fb) (a : De) (h : FbOk s) : FunO Tryz.prog 51 [.optr 1000 0, .agg ((encDe a).map .fv)] [(1000, fabB s.c (flsK s.K))] (.agg [.fv (.int .i64 (actR s a).code), .fv (slOf encAr (actR s a).come)]) [(1000, fabB (actS s a).c (flsK (actS s a).K))] := by
  obtain ⟨hc, hk, h6⟩ := h
  have hF := flsK_ok hk
  obtain ⟨e1, e2, e3⟩ := send_rep ⟨hc, hk, h6⟩ a.n a.fr
  refine FunO.bodyL tbl_ok Tryz.func51 rfl (by kernel_rfl) rfl rfl rfl ?_
  unfold actR actS fabB
  by_cases k7 : a.kind = 7
  · rw [if_pos k7, if_pos k7]
    by_cases hr : a.n < 0 ∨ 6 ≤ a.n
    · rw [if_pos hr, if_pos hr]
      obtain ⟨A0, A1, A2, A3, A4, A5, hA⟩ := six hF.len
      rw [hA]
      try dsimp only
      repeat' (first | refine X.loc ?_ | refine nx ?_ | refine X.cdT ?_ | refine X.cdF ?_ | refine cb ?_ ?_ | (refine cc ?_ ?_ <;> intro hcond) | refine rb ?_ | refine nd ?_ | refine dk ?_ | fail)
      exact rq ⟨[(4, .optr 4 0)], [(4, .box 55 [.fv (.int .i64 2), .fv (.sl [] 0)]), (1000, .box 88 ((encFab s.c [A0, A1, A2, A3, A4, A5]).map .fv))]⟩ (tq [] [])
    · rw [if_neg hr, if_neg hr]
      obtain ⟨n, hn⟩ := Int.eq_ofNat_of_zero_le (show 0 ≤ a.n by omega)
      have u1 := sync_T s.c (flsK s.K) a.n hc (by omega) hF
      have hs := flsK_set h6 (c := s.c) (n := n) (by omega)
      rw [hn, Int.toNat_natCast, hs] at u1
      rw [hn, Int.toNat_natCast]
      try dsimp only
      have hF2 := flsK_ok (hk.set hc n)
      obtain ⟨A0, A1, A2, A3, A4, A5, hA⟩ := six hF.len
      obtain ⟨B0, B1, B2, B3, B4, B5, hB⟩ := six hF2.len
      rw [hA, hB] at u1
      rw [hA, hB]
      unfold fabB at u1
      rw [← hn] at u1
      clear hs hF hF2 hA hB
      repeat' (first | refine X.loc ?_ | refine nx ?_ | refine X.cdT ?_ | refine X.cdF ?_ | refine cb ?_ ?_ | (refine cc ?_ ?_ <;> intro hcond) | refine rb ?_ | refine X.c0 (u1) ?_ | refine nd ?_ | refine dk ?_ | fail)
      exact rq ⟨[(4, .optr 4 0)], [(4, .box 55 [.fv (.int .i64 0), .fv (.sl [] 0)]), (1000, .box 88 ((encFab s.c [B0, B1, B2, B3, B4, B5]).map .fv))]⟩ (tq [] [])
  rw [if_neg k7, if_neg k7]
  by_cases k8 : a.kind = 8
  · rw [if_pos k8, if_pos k8]
    try dsimp only
    have u1 := send_T s.c (flsK s.K) a.n a.fr hc.pl hF.len e3
    rw [e1, e2] at u1
    generalize repE s.c a.n a.fr = e at *
    generalize repR s.c s.K a.n a.fr = R at *
    unfold fabB at u1
    obtain ⟨A0, A1, A2, A3, A4, A5, hA⟩ := six hF.len
    rw [hA] at u1 ⊢
    clear e1 e2 e3 hF hA
    repeat' (first | refine X.loc ?_ | refine nx ?_ | refine X.cdT ?_ | refine X.cdF ?_ | refine cb ?_ ?_ | (refine cc ?_ ?_ <;> intro hcond) | refine rb ?_ | refine X.c0 (u1) ?_ | refine nd ?_ | refine dk ?_ | fail)
    exact rq ⟨[(4, .optr 4 0)], [(4, .box 55 [.fv (.int .i64 e), .fv (slOf encAr R)]), (1000, .box 88 ((encFab s.c [A0, A1, A2, A3, A4, A5]).map .fv))]⟩ (tq [] [52])
  · rw [if_neg k8, if_neg k8]
    try dsimp only
    have c1 := apply_T s.c a hc.fitM
    obtain ⟨A0, A1, A2, A3, A4, A5, hA⟩ := six hF.len
    rw [hA]
    clear e1 e2 e3 hF hA
    unfold stepC
    by_cases h0 : applyE s.c a = 0
    · rw [if_pos h0, h0]
      rw [h0] at c1
      have s1 := setFabC s.c (applyR s.c a) [A0, A1, A2, A3, A4, A5]
      generalize applyR s.c a = d at *
      repeat' (first | (apply X.loE; (· exact aR); (· first | (exact .eff (.loadO rfl rfl (readFabC s.c _))) | exact .callL rfl rfl rfl (c1) rfl | exact bl (c1))) | refine X.loc ?_ | (apply X.stBE; (· exact aS); (· exact s1); (· exact aE)) | refine nx ?_ | refine X.cdT ?_ | refine X.cdF ?_ | refine cb ?_ ?_ | (refine cc ?_ ?_ <;> intro hcond) | (apply X.gsE; (· exact aR); (· exact aV); (· exact aW); (· intro hc; first | (exact .eff (.loadO rfl rfl (readFabC s.c _))) | exact .callG rfl rfl rfl (c1) rfl | exact bg (c1)); (· exact aR)) | refine rb ?_ | refine nd ?_ | refine dk ?_ | fail)
      exact rq ⟨[(4, .optr 4 0)], [(4, .box 55 [.fv (.int .i64 0), .fv (.sl [] 0)]), (1000, .box 88 ((encFab d [A0, A1, A2, A3, A4, A5]).map .fv))]⟩ (tq [] [])
    · rw [if_neg h0]
      generalize applyE s.c a = e at *
      generalize applyR s.c a = d at *
      repeat' (first | (apply X.loE; (· exact aR); (· first | (exact .eff (.loadO rfl rfl (readFabC s.c _))) | exact .callL rfl rfl rfl (c1) rfl | exact bl (c1))) | refine X.loc ?_ | refine nx ?_ | refine X.cdT ?_ | refine X.cdF ?_ | refine cb ?_ ?_ | (refine cc ?_ ?_ <;> intro hcond) | (apply X.gsE; (· exact aR); (· exact aV); (· exact aW); (· intro hc; first | (exact .eff (.loadO rfl rfl (readFabC s.c _))) | exact .callG rfl rfl rfl (c1) rfl | exact bg (c1)); (· exact aR)) | refine rb ?_ | refine nd ?_ | refine dk ?_ | fail)
      exact rq ⟨[(4, .optr 4 0)], [(4, .box 55 [.fv (.int .i64 e), .fv (.sl [] 0)]), (1000, .box 88 ((encFab s.c [A0, A1, A2, A3, A4, A5]).map .fv))]⟩ (tq [] [])
set_option maxHeartbeats 8000000 in
theorem run0s_T (l : List De) (hl : l.length < 9223372036854775807) : FunO Tryz.prog 25 [.fv (slOf encDe l)] [] (.tup [.osl 7, .agg ((encCf (scrC l)).map .fv), .fv (.int .i64 (scrE l))]) [(7, .row 55 2 (scrR l).length (((scrR l).flatMap encRep).map .fv))] := by
  refine FunO.bodyL tbl_ok Tryz.func25 rfl (by kernel_rfl) rfl rfl rfl ?_
  unfold scrC scrE scrR
  by_cases h3 : 300 < l.length
  · rw [if_pos h3, if_pos h3, if_pos h3]
    repeat' (first | refine X.loc ?_ | refine nx ?_ | refine X.cdT ?_ | refine X.cdF ?_ | refine cb ?_ ?_ | (refine cc ?_ ?_ <;> intro hcond) | refine rb ?_ | refine nd ?_ | refine dk ?_ | fail)
    exact rq ⟨[(2, .osl 7), (3, .optr 3 0), (4, .fv (.int .i64 1))], [(7, .row 55 2 0 []), (3, .box 26 ((encCf cf0).map .fv))]⟩ (tq [(7, .nil)] [])
  rw [if_neg h3, if_neg h3, if_neg h3]
  repeat' (first | refine X.loc ?_ | refine nx ?_ | refine X.cdT ?_ | refine X.cdF ?_ | refine cb ?_ ?_ | (refine cc ?_ ?_ <;> intro hcond) | refine rb ?_ | refine nd ?_ | refine dk ?_ | fail)
  refine WP.loop (ι := Nat) (fun k => ⟨[(3, .optr 3 0), (5, .optr 900 0), (6, .osl 901), (15, .fv (slOf encDe l)), (16, .fv (.int .i64 l.length)), (17, .fv (.int .i64 k))], [(3, .box 26 ((encCf cf0).map .fv)), (900, fabB (runS fb0 (l.take k)).c (flsK (runS fb0 (l.take k)).K)), (901, .row 55 2 (runR fb0 (l.take k)).length (((runR fb0 (l.take k)).flatMap encRep).map .fv))]⟩) (fun k => k ≤ l.length) (fun k => l.length - k) 0 (by omega) ?_ ?_
  · try dsimp only
    rw [List.take_zero]
    have e0 : (encFab (runS fb0 []).c (flsK (runS fb0 []).K)).map AV.fv = (encCf cf0).map AV.fv ++ [.fv (.sl [] 0), .fv (.sl [] 0), .fv (.sl [] 0), .fv (.sl [] 0), .fv (.sl [] 0), .fv (.sl [] 0)] := rfl
    unfold fabB
    rw [e0, show runR fb0 [] = [] from rfl]
    exact tq [(900, .id 14), (901, .nil)] []
  rintro k hk
  try dsimp only
  have hok := runS_ok fb0_ok (l.take k)
  have hrl := runR_len (l.take k) fb0
  rw [List.length_take] at hrl
  by_cases hlt : k < l.length
  case pos =>
    obtain ⟨x, hx⟩ : ∃ x, l[k]? = some x := ⟨_, List.getElem?_eq_getElem hlt⟩
    have u1 := act_T (runS fb0 (l.take k)) x hok
    have hsS : runS fb0 (l.take (k + 1)) = actS (runS fb0 (l.take k)) x := by rw [take_succ hx, runS_snoc]
    have hsR : runR fb0 (l.take (k + 1)) = runR fb0 (l.take k) ++ [actR (runS fb0 (l.take k)) x] := by rw [take_succ hx, runR_snoc]
    have hok2 := hok.act x
    generalize actR (runS fb0 (l.take k)) x = r at *
    generalize actS (runS fb0 (l.take k)) x = s2 at *
    generalize runS fb0 (l.take k) = s1 at *
    generalize runR fb0 (l.take k) = R at *
    obtain ⟨A0, A1, A2, A3, A4, A5, hA⟩ := six (flsK_ok hok.k).len
    obtain ⟨B0, B1, B2, B3, B4, B5, hB⟩ := six (flsK_ok hok2.k).len
    rw [hA, hB] at u1
    rw [hA]
    unfold fabB at u1 ⊢
    repeat' (first | (apply X.loE; (· exact aR); (· first | (exact .eff (.idxS rfl rfl rfl encDe_len hx)))) | refine X.loc ?_ | refine nx ?_ | refine X.cdT ?_ | refine X.cdF ?_ | refine cb ?_ ?_ | (refine cc ?_ ?_ <;> intro hcond) | (apply X.gsE; (· exact aR); (· exact aV); (· exact aW); (· intro hc; first | (exact .eff (.idxS rfl rfl rfl encDe_len hx))); (· exact aR)) | refine rb ?_ | refine X.c0 (u1) ?_ | refine nd ?_ | refine dk ?_ | fail)
    refine ⟨k + 1, by omega, by omega, ?_⟩
    try dsimp only
    rw [hsS, hsR, hB]
    refine St.to [(901, .id 26)] [] rfl rfl ?_ ?_ <;> (repeat' (first | exact tA | refine t1 ?_ | exact tB | refine t2 ?_ ?_ | refine t3 ?_ | refine t4 ?_ ?_ | refine .ofEq ?_ | refine OB.To.cut rfl rfl ?_ ?_ ?_ ?_ | refine OB.To.box rfl rfl ?_ | refine ⟨⟨_, rfl, ?_⟩, ?_⟩ | refine ⟨?_, ?_⟩ | fail))
    all_goals first | omega | (simp; done) | (simp only [List.flatMap_append, List.map_append]; rfl)
  case neg =>
    rw [List.take_of_length_le (by omega)] at hok ⊢
    have c1 := copyW_T (runS fb0 l).c hok.c.fitM
    generalize runR fb0 l = R at *
    obtain ⟨A0, A1, A2, A3, A4, A5, hA⟩ := six (flsK_ok hok.k).len
    rw [hA]
    generalize (runS fb0 l).c = c at *
    unfold fabB
    repeat' (first | (apply X.loE; (· exact aR); (· first | (exact .eff (.loadO rfl rfl (readFabC c _))) | exact .callL rfl rfl rfl (c1) rfl | exact bl (c1))) | refine X.loc ?_ | refine nx ?_ | refine X.cdT ?_ | refine X.cdF ?_ | refine cb ?_ ?_ | (refine cc ?_ ?_ <;> intro hcond) | (apply X.gsE; (· exact aR); (· exact aV); (· exact aW); (· intro hc; first | (exact .eff (.loadO rfl rfl (readFabC c _))) | exact .callG rfl rfl rfl (c1) rfl | exact bg (c1)); (· exact aR)) | refine rb ?_ | refine nd ?_ | refine dk ?_ | fail)
    exact rq ⟨[(2, .osl 7), (3, .optr 3 0), (4, .fv (.int .i64 0))], [(7, .row 55 2 R.length ((R.flatMap encRep).map .fv)), (3, .box 26 ((encCf c).map .fv))]⟩ (tq [(7, .id 901)] [])
theorem script_T (l : List De) (hl : l.length < 9223372036854775807) : Fun Tryz.prog 25 [.fv (slOf encDe l)] (.tup [.fv (slOf encRep (scrR l)), .agg ((encCf (scrC l)).map .fv), .fv (.int .i64 (scrE l))]) :=
  (run0s_T l hl).froz [7] (.tup (.cons (.frz rfl rfl rfl) (.cons (.le (.refl _) rfl) (.cons (.le (.refl _) rfl) .nil))))
theorem scr_lenE (l : List De) : scrE l = 0 → (scrR l).length = l.length := by
  unfold scrE scrR
  split
  · intro h; cases h
  · intro _; exact runR_len l fb0
theorem scr_len (l : List De) : (scrR l).length ≤ 300 := by
  unfold scrR
  split
  · simp
  · rw [runR_len]; omega
set_option maxHeartbeats 4000000 in
theorem topRun_T (l : List De) (hl : l.length ≤ 140737488355328) : Fun Tryz.prog 35 [.fv (slOf encDe l)] (.tup [.fv (slOf encRep (scrR l)), .agg ((encCf (scrC l)).map .fv), .fv (.int .i64 (scrE l))]) := by
  have c1 := script_T l (by omega)
  have hE := scr_lenE l
  have hl2 := scr_len l
  generalize scrR l = R at *
  generalize scrC l = c at *
  generalize scrE l = e at *
  have hb : (e == 0 && (R.length : Int) != (l.length : Int)) = false := by
    rw [Bool.and_eq_false_iff]
    by_cases h : e = 0
    · right
      rw [bne_eq_false_iff_eq, hE h]
    · left
      exact beq_eq_false_iff_ne.2 h
  refine Fun.body tbl_ok Tryz.func35 rfl (by kernel_rfl) rfl rfl rfl ?_
  repeat' (first | (apply X.loE; (· exact aR); (· first | exact .callL rfl rfl rfl (c1) rfl | exact bl (c1))) | refine X.loc ?_ | (refine X.cdF ?_ rfl hb) | refine nx ?_ | refine X.cdT ?_ | refine X.cdF ?_ | refine cb ?_ ?_ | (refine cc ?_ ?_ <;> intro hcond) | (apply X.gsE; (· exact aR); (· exact aV); (· exact aW); (· intro hc; first | exact .callG rfl rfl rfl (c1) rfl | exact bg (c1)); (· exact aR)) | refine rb ?_ | refine nd ?_ | refine dk ?_ | fail)
  refine .le (s' := ⟨[(2, .fv (slOf encRep R)), (3, .optr 3 0), (4, .fv (.int .i64 e))], [(3, .box 26 ((encCf c).map .fv))]⟩) ?_ (.fun (.inl rfl) rfl rfl)
  exact tq [] []
set_option maxHeartbeats 8000000 in
theorem wanted_T (c : Cf) (hc : CfOk c) : FunO Tryz.prog 39 [.agg ((encCf c).map .fv)] [] (.osl 7) [(7, .row 74 28 (wantA c).length (((wantA c).flatMap encDe).map .fv))] := by
  have h1 := hc.sl
  have h2 := hc.pl
  have h3 := hc.al
  have hW : wantA c = c.ss.map deSw ++ c.ps.map dePo ++ c.acs.map deAc := rfl
  refine FunO.bodyL tbl_ok Tryz.func39 rfl (by kernel_rfl) rfl rfl rfl ?_
  repeat' (first | refine X.loc ?_ | refine nx ?_ | refine X.cdT ?_ | refine X.cdF ?_ | refine cb ?_ ?_ | (refine cc ?_ ?_ <;> intro hcond) | refine rb ?_ | refine nd ?_ | refine dk ?_ | fail)
  refine WP.loop (ι := Nat) (fun k => ⟨[(1, .optr 1 0), (3, .osl 900), (11, .fv (slOf encSw c.ss)), (12, .fv (.int .i64 c.ss.length)), (13, .fv (.int .i64 k))], [(1, .box 26 ((encCf c).map .fv)), (900, .row 74 28 ((c.ss.take k).map deSw).length ((((c.ss.take k).map deSw).flatMap encDe).map .fv))]⟩) (fun k => k ≤ c.ss.length) (fun k => c.ss.length - k) 0 (by omega) ?_ ?_
  · try dsimp only
    rw [List.take_zero, List.map_nil]
    exact tq [(900, .nil)] []
  rintro k hk
  try dsimp only
  by_cases hlt : k < c.ss.length
  case pos =>
    obtain ⟨x, hx⟩ : ∃ x, c.ss[k]? = some x := ⟨_, List.getElem?_eq_getElem hlt⟩
    have hs : ((c.ss.take (k + 1)).map deSw) = ((c.ss.take k).map deSw) ++ [deSw x] := by
      rw [List.take_add_one, hx, List.map_append]
      rfl
    have hQ : ((c.ss.take k).map deSw).length ≤ 200 := by
      simp only [List.length_append, List.length_map, List.length_take]
      omega
    generalize ((c.ss.take k).map deSw) = Q at *
    repeat' (first | (apply X.loE; (· exact aR); (· first | (exact .eff (.idxS rfl rfl rfl encSw_len hx)))) | refine X.loc ?_ | refine nx ?_ | refine X.cdT ?_ | refine X.cdF ?_ | refine cb ?_ ?_ | (refine cc ?_ ?_ <;> intro hcond) | (apply X.gsE; (· exact aR); (· exact aV); (· exact aW); (· intro hc; first | (exact .eff (.idxS rfl rfl rfl encSw_len hx))); (· exact aR)) | refine rb ?_ | refine nd ?_ | refine dk ?_ | fail)
    refine ⟨k + 1, by omega, by omega, ?_⟩
    try dsimp only
    rw [hs]
    refine St.to [(900, .id 21)] [] rfl rfl ?_ ?_ <;> (repeat' (first | exact tA | refine t1 ?_ | exact tB | refine t2 ?_ ?_ | refine t3 ?_ | refine t4 ?_ ?_ | refine .ofEq ?_ | refine OB.To.cut rfl rfl ?_ ?_ ?_ ?_ | refine OB.To.box rfl rfl ?_ | refine ⟨⟨_, rfl, ?_⟩, ?_⟩ | refine ⟨?_, ?_⟩ | fail))
    all_goals first | omega | (simp; done) | (simp only [List.flatMap_append, List.map_append]; rfl)
  rw [List.take_of_length_le (by omega)]
  have hQl : (c.ss.map deSw).length ≤ 200 := by
    simp only [List.length_append, List.length_map]
    omega
  repeat' (first | refine X.loc ?_ | refine nx ?_ | refine X.cdT ?_ | refine X.cdF ?_ | refine cb ?_ ?_ | (refine cc ?_ ?_ <;> intro hcond) | refine rb ?_ | refine nd ?_ | refine dk ?_ | fail)
  refine WP.loop (ι := Nat) (fun k => ⟨[(1, .optr 1 0), (3, .osl 901), (24, .fv (slOf encPo c.ps)), (25, .fv (.int .i64 c.ps.length)), (26, .fv (.int .i64 k))], [(1, .box 26 ((encCf c).map .fv)), (901, .row 74 28 (c.ss.map deSw ++ (c.ps.take k).map dePo).length (((c.ss.map deSw ++ (c.ps.take k).map dePo).flatMap encDe).map .fv))]⟩) (fun k => k ≤ c.ps.length) (fun k => c.ps.length - k) 0 (by omega) ?_ ?_
  · try dsimp only
    rw [List.take_zero, List.map_nil, List.append_nil]
    exact tq [(901, .id 900)] []
  rintro k hk
  try dsimp only
  by_cases hlt : k < c.ps.length
  case pos =>
    obtain ⟨x, hx⟩ : ∃ x, c.ps[k]? = some x := ⟨_, List.getElem?_eq_getElem hlt⟩
    have hs : (c.ss.map deSw ++ (c.ps.take (k + 1)).map dePo) = (c.ss.map deSw ++ (c.ps.take k).map dePo) ++ [dePo x] := by
      rw [List.take_add_one, hx, List.map_append, ← List.append_assoc]
      rfl
    have hQ : (c.ss.map deSw ++ (c.ps.take k).map dePo).length ≤ 200 := by
      simp only [List.length_append, List.length_map, List.length_take]
      omega
    generalize (c.ss.map deSw ++ (c.ps.take k).map dePo) = Q at *
    repeat' (first | (apply X.loE; (· exact aR); (· first | (exact .eff (.idxS rfl rfl rfl encPo_len hx)))) | refine X.loc ?_ | refine nx ?_ | refine X.cdT ?_ | refine X.cdF ?_ | refine cb ?_ ?_ | (refine cc ?_ ?_ <;> intro hcond) | (apply X.gsE; (· exact aR); (· exact aV); (· exact aW); (· intro hc; first | (exact .eff (.idxS rfl rfl rfl encPo_len hx))); (· exact aR)) | refine rb ?_ | refine nd ?_ | refine dk ?_ | fail)
    refine ⟨k + 1, by omega, by omega, ?_⟩
    try dsimp only
    rw [hs]
    refine St.to [(901, .id 34)] [] rfl rfl ?_ ?_ <;> (repeat' (first | exact tA | refine t1 ?_ | exact tB | refine t2 ?_ ?_ | refine t3 ?_ | refine t4 ?_ ?_ | refine .ofEq ?_ | refine OB.To.cut rfl rfl ?_ ?_ ?_ ?_ | refine OB.To.box rfl rfl ?_ | refine ⟨⟨_, rfl, ?_⟩, ?_⟩ | refine ⟨?_, ?_⟩ | fail))
    all_goals first | omega | (simp; done) | (simp only [List.flatMap_append, List.map_append]; rfl)
  rw [List.take_of_length_le (by omega)]
  have hQl : (c.ss.map deSw ++ c.ps.map dePo).length ≤ 200 := by
    simp only [List.length_append, List.length_map]
    omega
  repeat' (first | refine X.loc ?_ | refine nx ?_ | refine X.cdT ?_ | refine X.cdF ?_ | refine cb ?_ ?_ | (refine cc ?_ ?_ <;> intro hcond) | refine rb ?_ | refine nd ?_ | refine dk ?_ | fail)
  refine WP.loop (ι := Nat) (fun k => ⟨[(1, .optr 1 0), (3, .osl 902), (37, .fv (slOf encAc c.acs)), (38, .fv (.int .i64 c.acs.length)), (39, .fv (.int .i64 k))], [(1, .box 26 ((encCf c).map .fv)), (902, .row 74 28 (c.ss.map deSw ++ c.ps.map dePo ++ (c.acs.take k).map deAc).length (((c.ss.map deSw ++ c.ps.map dePo ++ (c.acs.take k).map deAc).flatMap encDe).map .fv))]⟩) (fun k => k ≤ c.acs.length) (fun k => c.acs.length - k) 0 (by omega) ?_ ?_
  · try dsimp only
    rw [List.take_zero, List.map_nil, List.append_nil]
    exact tq [(902, .id 901)] []
  rintro k hk
  try dsimp only
  by_cases hlt : k < c.acs.length
  case pos =>
    obtain ⟨x, hx⟩ : ∃ x, c.acs[k]? = some x := ⟨_, List.getElem?_eq_getElem hlt⟩
    have hs : (c.ss.map deSw ++ c.ps.map dePo ++ (c.acs.take (k + 1)).map deAc) = (c.ss.map deSw ++ c.ps.map dePo ++ (c.acs.take k).map deAc) ++ [deAc x] := by
      rw [List.take_add_one, hx, List.map_append, ← List.append_assoc]
      rfl
    have hQ : (c.ss.map deSw ++ c.ps.map dePo ++ (c.acs.take k).map deAc).length ≤ 200 := by
      simp only [List.length_append, List.length_map, List.length_take]
      omega
    generalize (c.ss.map deSw ++ c.ps.map dePo ++ (c.acs.take k).map deAc) = Q at *
    repeat' (first | (apply X.loE; (· exact aR); (· first | (exact .eff (.idxS rfl rfl rfl encAc_len hx)))) | refine X.loc ?_ | refine nx ?_ | refine X.cdT ?_ | refine X.cdF ?_ | refine cb ?_ ?_ | (refine cc ?_ ?_ <;> intro hcond) | (apply X.gsE; (· exact aR); (· exact aV); (· exact aW); (· intro hc; first | (exact .eff (.idxS rfl rfl rfl encAc_len hx))); (· exact aR)) | refine rb ?_ | refine nd ?_ | refine dk ?_ | fail)
    refine ⟨k + 1, by omega, by omega, ?_⟩
    try dsimp only
    rw [hs]
    refine St.to [(902, .id 47)] [] rfl rfl ?_ ?_ <;> (repeat' (first | exact tA | refine t1 ?_ | exact tB | refine t2 ?_ ?_ | refine t3 ?_ | refine t4 ?_ ?_ | refine .ofEq ?_ | refine OB.To.cut rfl rfl ?_ ?_ ?_ ?_ | refine OB.To.box rfl rfl ?_ | refine ⟨⟨_, rfl, ?_⟩, ?_⟩ | refine ⟨?_, ?_⟩ | fail))
    all_goals first | omega | (simp; done) | (simp only [List.flatMap_append, List.map_append]; rfl)
  rw [List.take_of_length_le (by omega), ← hW]
  have hQl : (wantA c).length ≤ 200 := by
    simp only [wantA, List.length_append, List.length_map]
    omega
  repeat' (first | refine X.loc ?_ | refine nx ?_ | refine X.cdT ?_ | refine X.cdF ?_ | refine cb ?_ ?_ | (refine cc ?_ ?_ <;> intro hcond) | refine rb ?_ | refine nd ?_ | refine dk ?_ | fail)
  generalize wantA c = W at *
  exact rq ⟨[(2, .osl 7)], [(7, .row 74 28 W.length ((W.flatMap encDe).map .fv))]⟩ (tq [(7, .id 902)] [])
end Go.Proofs.YtmidechdlbcepaaGreat