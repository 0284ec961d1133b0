import Derived.Test.YtmidechdlbcepaaGreatPack53
import Derived.Test.YtmidechdlbcepaaGreatPack45
set_option linter.unusedSimpArgs false
set_option linter.unusedVariables false
namespace Go.Proofs.YtmidechdlbcepaaGreat
open Go.RowKit
set_option maxRecDepth 100000
def encFab (c : Cf) (Fs : List (List Fl)) : List FV := encCf c ++ Fs.map (slOf encFl)
def fabB (c : Cf) (Fs : List (List Fl)) : OB := .box 88 ((encFab c Fs).map .fv)
theorem fab_drop {c : Cf} {Fs : List (List Fl)} {n : Nat} {L : List Fl} (h : Fs[n]? = some L) : (encFab c Fs).drop (3 + n) = slOf encFl L :: (Fs.drop (n + 1)).map (slOf encFl) := by
  have hlt := (List.getElem?_eq_some_iff.1 h).1
  have h3 : (encCf c).length = 3 := rfl
  have e : encFab c Fs = encCf c ++ Fs.map (slOf encFl) := rfl
  rw [e]
  generalize encCf c = A at *
  rw [List.drop_append, List.drop_of_length_le (by omega), List.nil_append, show 3 + n - A.length = n by omega, ← List.map_drop, List.drop_eq_getElem_cons hlt, (List.getElem?_eq_some_iff.1 h).2]
  rfl
theorem readFab {c : Cf} {Fs : List (List Fl)} {n off : Nat} {L : List Fl} (h : off = 3 + n) (hx : Fs[n]? = some L) : readA tbl 85 off ((encFab c Fs).map .fv) = some (.fv (slOf encFl L)) := by
  subst h
  have hlt := (List.getElem?_eq_some_iff.1 hx).1
  unfold readA
  rw [dropO_mk (by rw [List.length_map, encFab, List.length_append, List.length_map]; show 3 + n ≤ 3 + Fs.length; omega), ← List.map_drop, fab_drop hx]
  generalize (Fs.drop (n + 1)).map (slOf encFl) = r
  cases r with
  | nil => rfl
  | cons a r => rfl
theorem readFabC (c : Cf) (Fs : List (List Fl)) : readA tbl 26 0 ((encFab c Fs).map .fv) = some (.agg ((encCf c).map .fv)) := by
  unfold encFab
  generalize Fs.map (slOf encFl) = r
  cases r with
  | nil => rfl
  | cons a r => rfl
theorem readFabP (c : Cf) (Fs : List (List Fl)) : readA tbl 23 1 ((encFab c Fs).map .fv) = some (.fv (slOf encPo c.ps)) := by
  unfold encFab
  generalize Fs.map (slOf encFl) = r
  cases r with
  | nil => rfl
  | cons a r => rfl
theorem setFab {c : Cf} {Fs : List (List Fl)} {n off : Nat} {L : List Fl} (h : off = 3 + n) (hn : n < Fs.length) : setC ((encFab c Fs).map .fv) off [.fv (slOf encFl L)] = some ((encFab c (Fs.set n L)).map .fv) := by
  subst h
  rw [setC_mk (by rw [List.length_map, encFab, List.length_append, List.length_map]; show 3 + n + 1 ≤ 3 + Fs.length; omega)]
  congr 1
  unfold encFab
  rw [List.map_append, List.map_append]
  have h3 : ((encCf c).map AV.fv).length = 3 := rfl
  generalize (encCf c).map AV.fv = A at *
  have e1 : (A ++ (Fs.map (slOf encFl)).map AV.fv).take (3 + n) = A ++ ((Fs.map (slOf encFl)).map AV.fv).take n := by
    rw [List.take_append, List.take_of_length_le (by omega), show 3 + n - A.length = n by omega]
  have e2 : (A ++ (Fs.map (slOf encFl)).map AV.fv).drop (3 + n + 1) = ((Fs.map (slOf encFl)).map AV.fv).drop (n + 1) := by
    rw [List.drop_append, List.drop_of_length_le (by omega), List.nil_append, show 3 + n + 1 - A.length = n + 1 by omega]
  show (A ++ (Fs.map (slOf encFl)).map AV.fv).take (3 + n) ++ [AV.fv (slOf encFl L)] ++ (A ++ (Fs.map (slOf encFl)).map AV.fv).drop (3 + n + 1) = _
  rw [e1, e2, List.append_assoc, List.append_assoc]
  congr 1
  rw [List.set_eq_take_append_cons_drop, if_pos hn]
  simp
theorem six {α : Type} {l : List α} (h : l.length = 6) : ∃ a b c d e f, l = [a, b, c, d, e, f] := by
  match l, h with
  | [a, b, c, d, e, f], _ => exact ⟨a, b, c, d, e, f, rfl⟩
structure FlsOk (Fs : List (List Fl)) : Prop where
  len : Fs.length = 6
  room : ∀ L ∈ Fs, Room L
  strict : ∀ L ∈ Fs, StrictF L
  short : ∀ L ∈ Fs, L.length ≤ 1100
theorem FlsOk.set {Fs : List (List Fl)} (h : FlsOk Fs) {c : Cf} (hc : CfOk c) {ch : Int} (hch : 0 ≤ ch ∧ ch ≤ 5) : FlsOk (Fs.set ch.toNat (compF_ c ch)) := by
  have key : ∀ {P : List Fl → Prop}, (∀ L ∈ Fs, P L) → P (compF_ c ch) → ∀ L ∈ Fs.set ch.toNat (compF_ c ch), P L := fun h1 h2 L hL => by
    rcases List.mem_or_eq_of_mem_set hL with h | rfl
    · exact h1 L h
    · exact h2
  exact ⟨by rw [List.length_set]; exact h.len, key h.room (comp_room hc hch), key h.strict (comp_strict c ch), key h.short (comp_len hc)⟩
set_option maxHeartbeats 8000000 in
theorem sync_T (c : Cf) (Fs : List (List Fl)) (ch : Int) (hc : CfOk c) (hch : 0 ≤ ch ∧ ch ≤ 5) (hF : FlsOk Fs) : FunO Tryz.prog 45 [.optr 1000 0, .fv (.int .i64 ch)] [(1000, fabB c Fs)] (.fv (.int .i64 0)) [(1000, fabB c (Fs.set ch.toNat (compF_ c ch)))] := by
  have c1 := compile_T c ch hc.small
  rw [compR_ok hc hch, compE_ok hc hch] at c1
  have h6 := hF.len
  obtain ⟨n, rfl⟩ := Int.eq_ofNat_of_zero_le hch.1
  obtain ⟨L, hL⟩ : ∃ L, Fs[n]? = some L := ⟨_, List.getElem?_eq_getElem (by omega)⟩
  have hLm := List.mem_of_getElem? hL
  have hr := hF.room L hLm
  have hs := hF.strict L hLm
  have hsh := hF.short L hLm
  have hr2 := comp_room hc hch
  have hs2 := comp_strict c n
  have hsh2 := comp_len (ch := n) hc
  have hp := patch_lead hs hs2
  generalize compF_ c n = M at *
  have c2 := diff_T L M hr hr2
  have rc := leftF_room (b := L) hr2
  have rg := leftF_room (b := M) hr
  have hl1 := left_len hs hs2
  have hc1 : (leftF M L).length ≤ M.length := by
    have h1 := List.length_filter_le (fun x => !hasF L x) (sortedF M)
    have h2 := sortedF_len M
    unfold leftF
    omega
  have c3 := patchF_T L (leftF M L) (leftF L M) hr rg rc.fit (by omega)
  rw [hp] at c3
  generalize leftF M L = come at *
  generalize leftF L M = gone at *
  refine FunO.bodyL tbl_ok Tryz.func45 rfl (by kernel_rfl) rfl rfl rfl ?_
  unfold fabB
  have s1 := setFab (c := c) (Fs := Fs) (n := n) (off := 3 + (n : Int).toNat * 1) (L := M) (by omega) (by omega)
  repeat' (first | (apply X.loE; (· exact aR); (· first | (exact .eff (.loadO rfl rfl (readFabC c Fs))) | (exact .eff (.loadO rfl rfl (readFab (n := n) (by omega) hL))) | exact .callL rfl rfl rfl (by first | exact c1 | exact c2 | exact c3) rfl | exact bl (c1) | exact bl (c2) | exact bl (c3))) | refine X.loc ?_ | (apply X.stBE; (· exact aS); (· exact s1); (· exact aE)) | refine nx ?_ | refine X.cdT ?_ | refine X.cdF ?_ | refine cb ?_ ?_ | (refine cc ?_ ?_ <;> intro hcond) | (apply X.gsE; (· exact aR); (· exact aV); (· exact aW); (· intro hc; first | (exact .eff (.loadO rfl rfl (readFabC c Fs))) | (exact .eff (.loadO rfl rfl (readFab (n := n) (by omega) hL))) | exact .callG rfl rfl rfl (by first | exact c1 | exact c2 | exact c3) rfl | exact bg (c1) | exact bg (c2) | exact bg (c3)); (· exact aR)) | refine rb ?_ | refine nd ?_ | refine dk ?_ | fail)
  exact rq ⟨[(4, .fv (.int .i64 0))], [(1000, .box 88 ((encFab c (Fs.set n M)).map .fv))]⟩ (tq [] [])
structure RunOk (Fs : List (List Fl)) (ch : Int) (p : Pk) : Prop where
  at5 : 0 ≤ ch ∧ ch ≤ 5
  ff : flowsFault (flAt Fs ch) = 0
  pf : packetFault p = 0
  fr : ∀ s ∈ ranOf (flAt Fs ch) p, frameFault (frOfP s.p) = 0
  len : (ranOf (flAt Fs ch) p).length ≤ 1000
structure HopOk (Fs : List (List Fl)) (s : Snt) : Prop where
  net : 0 ≤ s.p.f8 ∧ s.p.f8 ≤ 65535
  to : 0 ≤ s.p.f9 ∧ s.p.f9 ≤ 65535
  run : RunOk Fs s.n (pkOf (frOfP s.p) 0 s.p.f8 s.p.f9)
theorem flAt_get {Fs : List (List Fl)} (h6 : Fs.length = 6) {n : Nat} (hn : n ≤ 5) : Fs[n]? = some (flAt Fs n) := by
  unfold flAt
  rw [Int.toNat_natCast, List.getD_eq_getElem?_getD, List.getElem?_eq_getElem (by omega)]
  rfl
theorem outA_len (s : Snt) : (outA s).length ≤ 1 := by
  unfold outA
  split <;> simp
set_option maxHeartbeats 8000000 in
theorem run0_T (c : Cf) (Fs : List (List Fl)) (ch : Int) (p : Pk) (h6 : Fs.length = 6) (hR : RunOk Fs ch p) : FunO Tryz.prog 76 [.optr 1000 0, .fv (.int .i64 ch), .agg ((encPk p).map .fv), .fv (.bool false)] [(1000, fabB c Fs)] (.tup [.osl 7, .fv (.int .i64 0)]) [(7, .row 41 9 (runF0 (flAt Fs ch) p).length (((runF0 (flAt Fs ch) p).flatMap encAr).map .fv)), (1000, fabB c Fs)] := by
  obtain ⟨hch, hff, hpf, hfr, hlen⟩ := hR
  obtain ⟨n, rfl⟩ := Int.eq_ofNat_of_zero_le hch.1
  have hL := flAt_get h6 (n := n) (by omega)
  have c1 := flowRun_T (flAt Fs n) p
  rw [(ran_ok hff hpf).1, (ran_ok hff hpf).2] at c1
  unfold runF0
  generalize flAt Fs n = L at *
  generalize ranOf L p = S at *
  refine FunO.bodyL tbl_ok Tryz.func76 rfl (by kernel_rfl) rfl rfl rfl ?_
  unfold fabB
  repeat' (first | (apply X.loE; (· exact aR); (· first | (exact .eff (.loadO rfl rfl (readFab (n := n) (by omega) hL))) | exact .callL rfl rfl rfl (c1) rfl | exact bl (c1))) | refine X.loc ?_ | refine nx ?_ | refine X.cdT ?_ | refine X.cdF ?_ | refine cb ?_ ?_ | (refine cc ?_ ?_ <;> intro hcond) | (apply X.gsE; (· exact aR); (· exact aV); (· exact aW); (· intro hc; first | (exact .eff (.loadO rfl rfl (readFab (n := n) (by omega) hL))) | exact .callG rfl rfl rfl (c1) rfl | exact bg (c1)); (· exact aR)) | refine rb ?_ | refine nd ?_ | refine dk ?_ | fail)
  refine WP.loop (ι := Nat) (fun k => ⟨[(0, .optr 1000 0), (3, .fv (.bool false)), (12, .osl 900), (32, .fv (slOf encSnt S)), (33, .fv (.int .i64 S.length)), (34, .fv (.int .i64 k))], [(1000, .box 88 ((encFab c Fs).map .fv)), (900, .row 41 9 ((S.take k).flatMap outA).length ((((S.take k).flatMap outA).flatMap encAr).map .fv))]⟩) (fun k => k ≤ S.length) (fun k => S.length - k) 0 (by omega) ?_ ?_
  · try dsimp only
    rw [List.take_zero, List.flatMap_nil]
    exact tq [(900, .nil)] []
  rintro k hk
  try dsimp only
  by_cases hlt : k < S.length
  case neg =>
    rw [List.take_of_length_le (by omega)]
    generalize S.flatMap outA = O at *
    repeat' (first | refine X.loc ?_ | refine nx ?_ | refine X.cdT ?_ | refine X.cdF ?_ | refine cb ?_ ?_ | (refine cc ?_ ?_ <;> intro hcond) | refine rb ?_ | refine nd ?_ | refine dk ?_ | fail)
    exact rq ⟨[(8, .osl 7), (9, .fv (.int .i64 0))], [(7, .row 41 9 O.length ((O.flatMap encAr).map .fv)), (1000, .box 88 ((encFab c Fs).map .fv))]⟩ (tq [(7, .id 900)] [])
  case pos =>
    obtain ⟨x, hx⟩ : ∃ x, S[k]? = some x := ⟨_, List.getElem?_eq_getElem hlt⟩
    have c2 := pframe_T x.p
    have hxf := hfr x (List.mem_of_getElem? hx)
    have e2 : frR x.p = frOfP x.p := by unfold frR; rw [if_neg (by omega)]
    rw [hxf, e2] at c2
    have hs := flat_succ [] outA hx
    have hOl := flat_len_le outA_len hlen k
    rw [List.nil_append, List.nil_append] at hs
    generalize (S.take k).flatMap outA = O at *
    by_cases h5 : x.kind = 5
    · rw [outA, if_pos h5] at hs
      repeat' (first | (apply X.loE; (· exact aR); (· first | (exact .eff (.idxS rfl rfl rfl encSnt_len hx)) | exact .callL rfl rfl rfl (c2) rfl | exact bl (c2))) | refine X.loc ?_ | refine nx ?_ | refine X.cdT ?_ | refine X.cdF ?_ | refine cb ?_ ?_ | (refine cc ?_ ?_ <;> intro hcond) | (apply X.gsE; (· exact aR); (· exact aV); (· exact aW); (· intro hc; first | (exact .eff (.idxS rfl rfl rfl encSnt_len hx)) | exact .callG rfl rfl rfl (c2) rfl | exact bg (c2)); (· exact aR)) | refine rb ?_ | refine nd ?_ | refine dk ?_ | fail)
      refine ⟨k + 1, by omega, by omega, ?_⟩
      try dsimp only
      rw [hs]
      refine St.to [(900, .id 56)] [] rfl rfl ?_ ?_ <;> (repeat' (first | exact tA | refine t1 ?_ | exact tB | refine t2 ?_ ?_ | refine t3 ?_ | refine t4 ?_ ?_ | refine .ofEq ?_ | refine OB.To.cut rfl rfl ?_ ?_ ?_ ?_ | refine OB.To.box rfl rfl ?_ | refine ⟨⟨_, rfl, ?_⟩, ?_⟩ | refine ⟨?_, ?_⟩ | fail))
      all_goals first | omega | (simp; done) | (simp only [List.flatMap_append, List.map_append]; rfl)
    · rw [outA, if_neg h5, List.append_nil] at hs
      repeat' (first | (apply X.loE; (· exact aR); (· first | (exact .eff (.idxS rfl rfl rfl encSnt_len hx)) | exact .callL rfl rfl rfl (c2) rfl | exact bl (c2))) | refine X.loc ?_ | refine nx ?_ | refine X.cdT ?_ | refine X.cdF ?_ | refine cb ?_ ?_ | (refine cc ?_ ?_ <;> intro hcond) | (apply X.gsE; (· exact aR); (· exact aV); (· exact aW); (· intro hc; first | (exact .eff (.idxS rfl rfl rfl encSnt_len hx)) | exact .callG rfl rfl rfl (c2) rfl | exact bg (c2)); (· exact aR)) | refine rb ?_ | refine nd ?_ | refine dk ?_ | fail)
      refine ⟨k + 1, by omega, by omega, ?_⟩
      try dsimp only
      rw [hs]
      exact tq [] []
set_option maxHeartbeats 8000000 in
theorem tunnel_T (c : Cf) (Fs : List (List Fl)) (s : Snt) (h6 : Fs.length = 6) (hff : frameFault (frOfP s.p) = 0) (hH : HopOk Fs s) : FunO Tryz.prog 106 [.optr 1000 0, .agg ((encSnt s).map .fv), .agg ((encFr (frOfP s.p)).map .fv)] [(1000, fabB c Fs)] (.tup [.osl 7, .fv (.int .i64 0)]) [(7, .row 41 9 (runF0 (flAt Fs s.n) (pkOf (frOfP s.p) 0 s.p.f8 s.p.f9)).length (((runF0 (flAt Fs s.n) (pkOf (frOfP s.p) 0 s.p.f8 s.p.f9)).flatMap encAr).map .fv)), (1000, fabB c Fs)] := by
  obtain ⟨hn, ht, hR⟩ := hH
  have u1 := run0_T c Fs s.n _ h6 hR
  have hpf := hR.pf
  obtain ⟨w1, w2, w3, w4, w5⟩ : wrapFault s.p.f8 s.p.f9 (frOfP s.p) = 0 ∧ unwFault (wrapR s.p.f8 s.p.f9 (frOfP s.p)) = 0 ∧ ((unwN (wrapR s.p.f8 s.p.f9 (frOfP s.p)) : Nat) : Int) = s.p.f8 ∧ ((unwT (wrapR s.p.f8 s.p.f9 (frOfP s.p)) : Nat) : Int) = s.p.f9 ∧ unwR (wrapR s.p.f8 s.p.f9 (frOfP s.p)) = frOfP s.p := by
    obtain ⟨a, ha⟩ := Int.eq_ofNat_of_zero_le hn.1
    obtain ⟨b, hb⟩ := Int.eq_ofNat_of_zero_le ht.1
    have ha5 : a ≤ 65535 := by omega
    have hb5 : b ≤ 65535 := by omega
    obtain ⟨h1, h2, h3, h4, h5, _⟩ := unw_wrap hff (n := a) (t := b) ha5 hb5
    rw [ha, hb]
    exact ⟨h1, h2, by rw [h3], by rw [h4], h5⟩
  have c1 := wrap_T s.p.f8 s.p.f9 (frOfP s.p)
  have hwl : (wrapR s.p.f8 s.p.f9 (frOfP s.p)).length ≤ 140737488355328 := by
    have := (frMay hff).body
    unfold wrapR
    split
    · simp
    · simp only [List.length_append, bytesF_len, be, List.length_cons, List.length_nil]
      omega
  have c2 := unwrap_T (wrapR s.p.f8 s.p.f9 (frOfP s.p)) _ rfl hwl
  rw [w1] at c1
  rw [w2, w3, w4, w5] at c2
  have c3 := packet_T (frOfP s.p) 0 s.p.f8 s.p.f9
  have e3 : pkE (frOfP s.p) 0 s.p.f8 s.p.f9 = 0 := by unfold pkE; rw [if_neg (by omega), hpf]
  have e4 : pkR (frOfP s.p) 0 s.p.f8 s.p.f9 = pkOf (frOfP s.p) 0 s.p.f8 s.p.f9 := by unfold pkR; rw [if_neg (by omega)]
  rw [e3, e4] at c3
  clear w1 w2 w3 w4 w5 hwl
  generalize runF0 (flAt Fs s.n) (pkOf (frOfP s.p) 0 s.p.f8 s.p.f9) = O at *
  generalize wrapR s.p.f8 s.p.f9 (frOfP s.p) = W at *
  refine FunO.bodyL tbl_ok Tryz.func106 rfl (by kernel_rfl) rfl rfl rfl ?_
  unfold fabB
  unfold fabB at u1
  obtain ⟨L0, L1, L2, L3, L4, L5, rfl⟩ := six h6
  repeat' (first | (apply X.loE; (· exact aR); (· first | exact .callL rfl rfl rfl (by first | exact c1 | exact c2 | exact c3) rfl | exact bl (c1) | exact bl (c2) | exact bl (c3))) | refine X.loc ?_ | refine nx ?_ | refine X.cdT ?_ | refine X.cdF ?_ | refine cb ?_ ?_ | (refine cc ?_ ?_ <;> intro hcond) | (apply X.gsE; (· exact aR); (· exact aV); (· exact aW); (· intro hc; first | exact .callG rfl rfl rfl (by first | exact c1 | exact c2 | exact c3) rfl | exact bg (c1) | exact bg (c2) | exact bg (c3)); (· exact aR)) | refine rb ?_ | refine X.c0 (u1) ?_ | refine nd ?_ | refine dk ?_ | fail)
  exact rq ⟨[(6, .osl 7), (7, .fv (.int .i64 0))], [(7, .row 41 9 O.length ((O.flatMap encAr).map .fv)), (1000, .box 88 ((encFab c [L0, L1, L2, L3, L4, L5]).map .fv))]⟩ (tq [(7, .id 54)] [])
theorem flat_bound {α β : Type} {f : α → List β} {n : Nat} : ∀ {l : List α}, (∀ x ∈ l, (f x).length ≤ n) → (l.flatMap f).length ≤ n * l.length
  | [], _ => by simp
  | x :: l, h => by
    have ih := flat_bound (f := f) (n := n) (l := l) fun y hy => h y (by simp [hy])
    have h1 := h x (by simp)
    rw [List.flatMap_cons, List.length_append, List.length_cons, Nat.mul_succ]
    omega
theorem hop_len {Fs : List (List Fl)} {s : Snt} (h : s.kind ≠ 5 → HopOk Fs s) : (hopA Fs s).length ≤ 1000 := by
  unfold hopA
  split
  · simp
  · rename_i h5
    have hr := (h h5).run.len
    unfold runF0
    have := flat_bound (f := outA) (n := 1) (l := ranOf (flAt Fs s.n) (pkOf (frOfP s.p) 0 s.p.f8 s.p.f9)) fun x _ => outA_len x
    omega
theorem mem_take_of {α : Type} {l : List α} {k : Nat} {x : α} (h : x ∈ l.take k) : x ∈ l := List.mem_of_mem_take h
set_option maxHeartbeats 8000000 in
theorem run1_T (c : Cf) (Fs : List (List Fl)) (ch : Int) (p : Pk) (h6 : Fs.length = 6) (hR : RunOk Fs ch p) (hH : ∀ s ∈ ranOf (flAt Fs ch) p, s.kind ≠ 5 → HopOk Fs s) : FunO Tryz.prog 76 [.optr 1000 0, .fv (.int .i64 ch), .agg ((encPk p).map .fv), .fv (.bool true)] [(1000, fabB c Fs)] (.tup [.osl 7, .fv (.int .i64 0)]) [(7, .row 41 9 (runF1 Fs ch p).length (((runF1 Fs ch p).flatMap encAr).map .fv)), (1000, fabB c Fs)] := by
  obtain ⟨L0, L1, L2, L3, L4, L5, rfl⟩ := six h6
  obtain ⟨hch, hff, hpf, hfr, hlen⟩ := hR
  obtain ⟨n, rfl⟩ := Int.eq_ofNat_of_zero_le hch.1
  have hL := flAt_get h6 (n := n) (by omega)
  have c1 := flowRun_T (flAt [L0, L1, L2, L3, L4, L5] n) p
  rw [(ran_ok hff hpf).1, (ran_ok hff hpf).2] at c1
  unfold runF1
  generalize flAt [L0, L1, L2, L3, L4, L5] n = L at *
  generalize ranOf L p = S at *
  have tn := fun s h1 h2 => tunnel_T c [L0, L1, L2, L3, L4, L5] s h6 h1 h2
  unfold fabB at tn
  refine FunO.bodyL tbl_ok Tryz.func76 rfl (by kernel_rfl) rfl rfl rfl ?_
  unfold fabB
  repeat' (first | (apply X.loE; (· exact aR); (· first | (exact .eff (.loadO rfl rfl (readFab (n := n) (by omega) hL))) | exact .callL rfl rfl rfl (c1) rfl | exact bl (c1))) | refine X.loc ?_ | refine nx ?_ | refine X.cdT ?_ | refine X.cdF ?_ | refine cb ?_ ?_ | (refine cc ?_ ?_ <;> intro hcond) | (apply X.gsE; (· exact aR); (· exact aV); (· exact aW); (· intro hc; first | (exact .eff (.loadO rfl rfl (readFab (n := n) (by omega) hL))) | exact .callG rfl rfl rfl (c1) rfl | exact bg (c1)); (· exact aR)) | refine rb ?_ | refine nd ?_ | refine dk ?_ | fail)
  refine WP.loop (ι := Nat) (fun k => ⟨[(0, .optr 1000 0), (3, .fv (.bool true)), (12, .osl 900), (32, .fv (slOf encSnt S)), (33, .fv (.int .i64 S.length)), (34, .fv (.int .i64 k))], [(1000, .box 88 ((encFab c [L0, L1, L2, L3, L4, L5]).map .fv)), (900, .row 41 9 ((S.take k).flatMap (hopA [L0, L1, L2, L3, L4, L5])).length ((((S.take k).flatMap (hopA [L0, L1, L2, L3, L4, L5])).flatMap encAr).map .fv))]⟩) (fun k => k ≤ S.length) (fun k => S.length - k) 0 (by omega) ?_ ?_
  · try dsimp only
    rw [List.take_zero, List.flatMap_nil]
    exact tq [(900, .nil)] []
  rintro k hk
  try dsimp only
  by_cases hlt : k < S.length
  case neg =>
    rw [List.take_of_length_le (by omega)]
    generalize S.flatMap (hopA [L0, L1, L2, L3, L4, L5]) = O at *
    repeat' (first | refine X.loc ?_ | refine nx ?_ | refine X.cdT ?_ | refine X.cdF ?_ | refine cb ?_ ?_ | (refine cc ?_ ?_ <;> intro hcond) | refine rb ?_ | refine nd ?_ | refine dk ?_ | fail)
    exact rq ⟨[(8, .osl 7), (9, .fv (.int .i64 0))], [(7, .row 41 9 O.length ((O.flatMap encAr).map .fv)), (1000, .box 88 ((encFab c [L0, L1, L2, L3, L4, L5]).map .fv))]⟩ (tq [(7, .id 900)] [])
  case pos =>
    obtain ⟨x, hx⟩ : ∃ x, S[k]? = some x := ⟨_, List.getElem?_eq_getElem hlt⟩
    have hxm := List.mem_of_getElem? hx
    have c2 := pframe_T x.p
    have hxf := hfr x hxm
    have e2 : frR x.p = frOfP x.p := by unfold frR; rw [if_neg (by omega)]
    rw [hxf, e2] at c2
    have hs := flat_succ [] (hopA [L0, L1, L2, L3, L4, L5]) hx
    have hOl := flat_bound (f := hopA [L0, L1, L2, L3, L4, L5]) (n := 1000) (l := S.take k) fun s hs => hop_len (hH s (mem_take_of hs))
    have hxl := hop_len (hH x hxm)
    rw [List.length_take] at hOl
    rw [List.nil_append, List.nil_append] at hs
    generalize (S.take k).flatMap (hopA [L0, L1, L2, L3, L4, L5]) = O at *
    by_cases h5 : x.kind = 5
    · rw [hopA, if_pos h5] at hs
      repeat' (first | (apply X.loE; (· exact aR); (· first | (exact .eff (.idxS rfl rfl rfl encSnt_len hx)) | exact .callL rfl rfl rfl (c2) rfl | exact bl (c2))) | refine X.loc ?_ | refine nx ?_ | refine X.cdT ?_ | refine X.cdF ?_ | refine cb ?_ ?_ | (refine cc ?_ ?_ <;> intro hcond) | (apply X.gsE; (· exact aR); (· exact aV); (· exact aW); (· intro hc; first | (exact .eff (.idxS rfl rfl rfl encSnt_len hx)) | exact .callG rfl rfl rfl (c2) rfl | exact bg (c2)); (· exact aR)) | refine rb ?_ | refine nd ?_ | refine dk ?_ | fail)
      refine ⟨k + 1, by omega, by omega, ?_⟩
      try dsimp only
      rw [hs]
      refine St.to [(900, .id 56)] [] rfl rfl ?_ ?_ <;> (repeat' (first | exact tA | refine t1 ?_ | exact tB | refine t2 ?_ ?_ | refine t3 ?_ | refine t4 ?_ ?_ | refine .ofEq ?_ | refine OB.To.cut rfl rfl ?_ ?_ ?_ ?_ | refine OB.To.box rfl rfl ?_ | refine ⟨⟨_, rfl, ?_⟩, ?_⟩ | refine ⟨?_, ?_⟩ | fail))
      all_goals first | omega | (simp; done) | (simp only [List.flatMap_append, List.map_append]; rfl)
    · rw [hopA, if_neg h5] at hs hxl
      have u1 := tn x hxf (hH x hxm h5)
      generalize runF0 (flAt [L0, L1, L2, L3, L4, L5] x.n) (pkOf (frOfP x.p) 0 x.p.f8 x.p.f9) = M at *
      repeat' (first | (apply X.loE; (· exact aR); (· first | (exact .eff (.idxS rfl rfl rfl encSnt_len hx)) | exact .callL rfl rfl rfl (c2) rfl | exact bl (c2))) | refine X.loc ?_ | refine nx ?_ | refine X.cdT ?_ | refine X.cdF ?_ | refine cb ?_ ?_ | (refine cc ?_ ?_ <;> intro hcond) | (apply X.gsE; (· exact aR); (· exact aV); (· exact aW); (· intro hc; first | (exact .eff (.idxS rfl rfl rfl encSnt_len hx)) | exact .callG rfl rfl rfl (c2) rfl | exact bg (c2)); (· exact aR)) | refine rb ?_ | refine X.c0 (u1) ?_ | refine nd ?_ | refine dk ?_ | fail)
      refine ⟨k + 1, by omega, by omega, ?_⟩
      try dsimp only
      rw [hs]
      refine St.to [(900, .id 71)] [] rfl rfl ?_ ?_ <;> (repeat' (first | exact tA | refine t1 ?_ | exact tB | refine t2 ?_ ?_ | refine t3 ?_ | refine t4 ?_ ?_ | refine .ofEq ?_ | refine OB.To.cut rfl rfl ?_ ?_ ?_ ?_ | refine OB.To.box rfl rfl ?_ | refine ⟨⟨_, rfl, ?_⟩, ?_⟩ | refine ⟨?_, ?_⟩ | fail))
      all_goals first | omega | (simp; done) | (simp only [List.flatMap_append, List.map_append]; rfl)
theorem send1_T (s : Po) (id : Int) : Fun Tryz.prog 74 [.agg ((encPo s).map .fv), .fptr [.int .i64 id]] (.fv (.bool (s.id == id))) := by
  refine Fun.body tbl_ok Tryz.func74 rfl (by kernel_rfl) rfl rfl rfl ?_
  repeat' (first | refine X.loc ?_ | refine nx ?_ | refine cb ?_ ?_ | (refine cc ?_ ?_ <;> intro hcond) | refine rb ?_ | refine nd ?_ | refine dk ?_ | fail)
  exact .f1 (.inl rfl) rfl rfl
def sendE (c : Cf) (id : Int) (f : Fr) : Int := match poAt c id with
  | none => 6
  | some q => if q.ch < 0 then 6 else pkE f id 0 0
def sendR (c : Cf) (Fs : List (List Fl)) (id : Int) (f : Fr) : List Ar := match poAt c id with
  | none => []
  | some q => if q.ch < 0 then [] else if pkE f id 0 0 ≠ 0 then [] else AS.sortA (runF1 Fs q.ch (pkOf f id 0 0))
structure SendOk (Fs : List (List Fl)) (ch : Int) (p : Pk) : Prop where
  run : RunOk Fs ch p
  hop : ∀ s ∈ ranOf (flAt Fs ch) p, s.kind ≠ 5 → HopOk Fs s
  arr : ∀ x ∈ runF1 Fs ch p, ArR x
  few : (runF1 Fs ch p).length ≤ 40
theorem idx_poAt {c : Cf} {id : Int} {q : Po} (h : poAt c id = some q) : ∃ i : Nat, idxB (fun s : Po => s.id == id) c.ps = i ∧ c.ps[i]? = some q := by
  have h1 := idxB_any (fun s : Po => s.id == id) c.ps
  have h2 : c.ps.any (fun s => s.id == id) = true := by
    have := poAt_mem h
    exact List.any_eq_true.2 ⟨q, this.1, by simpa using this.2⟩
  rw [h2] at h1
  have h3 : ¬ idxB (fun s : Po => s.id == id) c.ps < 0 := fun h => by cases h1.1 h
  obtain ⟨i, hi⟩ : ∃ i : Nat, idxB (fun s : Po => s.id == id) c.ps = i := ⟨_, (Int.toNat_of_nonneg (by omega)).symm⟩
  obtain ⟨x, hx, _, hf⟩ := idxB_at _ _ i hi
  have e : poAt c id = some x := hf
  rw [h] at e
  obtain rfl := Option.some.inj e
  exact ⟨i, hi, hx⟩
set_option maxHeartbeats 8000000 in
theorem send_T (c : Cf) (Fs : List (List Fl)) (id : Int) (f : Fr) (hpl : c.ps.length ≤ 40) (h6 : Fs.length = 6) (hS : ∀ q, poAt c id = some q → 0 ≤ q.ch → pkE f id 0 0 = 0 → SendOk Fs q.ch (pkOf f id 0 0)) : FunO Tryz.prog 46 [.optr 1000 0, .fv (.int .i64 id), .agg ((encFr f).map .fv)] [(1000, fabB c Fs)] (.tup [.osl 7, .fv (.int .i64 (sendE c id f))]) [(7, .row 41 9 (sendR c Fs id f).length (((sendR c Fs id f).flatMap encAr).map .fv)), (1000, fabB c Fs)] := by
  obtain ⟨L0, L1, L2, L3, L4, L5, rfl⟩ := six h6
  have c1 := indexPo_T c.ps 74 [.fptr [.int .i64 id]] (fun s => s.id == id) (by omega) (fun s _ => send1_T s id)
  have c2 := packet_T f id 0 0
  refine FunO.bodyL tbl_ok Tryz.func46 rfl (by kernel_rfl) rfl rfl rfl ?_
  unfold sendE sendR fabB
  cases hpo : poAt c id with
  | none =>
    have e1 : idxB (fun s : Po => s.id == id) c.ps = -1 := idxB_none _ _ fun q hq => by
      have := poAt_none hpo hq
      simpa using this
    rw [e1] at c1
    repeat' (first | (apply X.loE; (· exact aR); (· first | (exact .eff (.loadO rfl rfl (readFabP c [L0, L1, L2, L3, L4, L5]))) | (exact .eff (.idxD po0 rfl rfl rfl encPo_len (by exfalso; simp at hc))) | exact .callL rfl rfl rfl (c1) rfl | exact bl (c1))) | refine X.loc ?_ | refine nx ?_ | refine X.cdT ?_ | refine X.cdF ?_ | refine cb ?_ ?_ | (refine cc ?_ ?_ <;> intro hcond) | (apply X.gsE; (· exact aR); (· exact aV); (· exact aW); (· intro hc; first | (exact .eff (.loadO rfl rfl (readFabP c [L0, L1, L2, L3, L4, L5]))) | (exact .eff (.idxD po0 rfl rfl rfl encPo_len (by exfalso; simp at hc))) | exact .callG rfl rfl rfl (c1) rfl | exact bg (c1)); (· exact aR)) | refine rb ?_ | refine nd ?_ | refine dk ?_ | fail)
    exact rq ⟨[(6, .osl 7), (7, .fv (.int .i64 6))], [(7, .row 41 9 0 []), (1000, .box 88 ((encFab c [L0, L1, L2, L3, L4, L5]).map .fv))]⟩ (tq [(7, .nil)] [])
  | some q =>
    obtain ⟨i, hi, hq⟩ := idx_poAt hpo
    rw [hi] at c1
    try dsimp only
    by_cases hc0 : q.ch < 0
    · rw [if_pos hc0, if_pos hc0]
      repeat' (first | (apply X.loE; (· exact aR); (· first | (exact .eff (.loadO rfl rfl (readFabP c [L0, L1, L2, L3, L4, L5]))) | (exact .eff (.idxS rfl rfl rfl encPo_len hq)) | exact .callL rfl rfl rfl (c1) rfl | exact bl (c1))) | refine X.loc ?_ | refine nx ?_ | refine X.cdT ?_ | refine X.cdF ?_ | refine cb ?_ ?_ | (refine cc ?_ ?_ <;> intro hcond) | (apply X.gsE; (· exact aR); (· exact aV); (· exact aW); (· intro hc; first | (exact .eff (.loadO rfl rfl (readFabP c [L0, L1, L2, L3, L4, L5]))) | (exact .eff (.idxS rfl rfl rfl encPo_len hq)) | exact .callG rfl rfl rfl (c1) rfl | exact bg (c1)); (· exact aR)) | refine rb ?_ | refine nd ?_ | refine dk ?_ | fail)
      exact rq ⟨[(6, .osl 7), (7, .fv (.int .i64 6))], [(7, .row 41 9 0 []), (1000, .box 88 ((encFab c [L0, L1, L2, L3, L4, L5]).map .fv))]⟩ (tq [(7, .nil)] [])
    rw [if_neg hc0, if_neg hc0]
    by_cases he : pkE f id 0 0 = 0
    · rw [if_neg (show ¬ pkE f id 0 0 ≠ 0 by omega), he]
      obtain ⟨hR, hH, hA, hfew⟩ := hS q hpo (by omega) he
      have e4 : pkR f id 0 0 = pkOf f id 0 0 := by unfold pkR; rw [if_neg (by omega)]
      rw [he, e4] at c2
      have u1 := run1_T c [L0, L1, L2, L3, L4, L5] q.ch (pkOf f id 0 0) h6 hR hH
      unfold fabB at u1
      generalize runF1 [L0, L1, L2, L3, L4, L5] q.ch (pkOf f id 0 0) = A at *
      have u2 := AS.sortStable_T A hA hfew
      unfold AS.arRw at u2
      generalize AS.sortA A = Z at *
      repeat' (first | (apply X.loE; (· exact aR); (· first | (exact .eff (.loadO rfl rfl (readFabP c [L0, L1, L2, L3, L4, L5]))) | (exact .eff (.idxS rfl rfl rfl encPo_len hq)) | exact .callL rfl rfl rfl (by first | exact c1 | exact c2) rfl | exact bl (c1) | exact bl (c2))) | refine X.loc ?_ | refine nx ?_ | refine X.cdT ?_ | refine X.cdF ?_ | refine cb ?_ ?_ | (refine cc ?_ ?_ <;> intro hcond) | (apply X.gsE; (· exact aR); (· exact aV); (· exact aW); (· intro hc; first | (exact .eff (.loadO rfl rfl (readFabP c [L0, L1, L2, L3, L4, L5]))) | (exact .eff (.idxS rfl rfl rfl encPo_len hq)) | exact .callG rfl rfl rfl (by first | exact c1 | exact c2) rfl | exact bg (c1) | exact bg (c2)); (· exact aR)) | refine rb ?_ | refine X.c0 (u1) ?_ | refine X.c0 (u2) ?_ | refine nd ?_ | refine dk ?_ | fail)
      exact rq ⟨[(6, .osl 7), (7, .fv (.int .i64 0))], [(7, .row 41 9 Z.length ((Z.flatMap encAr).map .fv)), (1000, .box 88 ((encFab c [L0, L1, L2, L3, L4, L5]).map .fv))]⟩ (tq [(7, .id 54)] [])
    · rw [if_pos he]
      generalize pkE f id 0 0 = e at *
      repeat' (first | (apply X.loE; (· exact aR); (· first | (exact .eff (.loadO rfl rfl (readFabP c [L0, L1, L2, L3, L4, L5]))) | (exact .eff (.idxS rfl rfl rfl encPo_len hq)) | exact .callL rfl rfl rfl (by first | exact c1 | exact c2) rfl | exact bl (c1) | exact bl (c2))) | refine X.loc ?_ | refine nx ?_ | refine X.cdT ?_ | refine X.cdF ?_ | refine cb ?_ ?_ | (refine cc ?_ ?_ <;> intro hcond) | (apply X.gsE; (· exact aR); (· exact aV); (· exact aW); (· intro hc; first | (exact .eff (.loadO rfl rfl (readFabP c [L0, L1, L2, L3, L4, L5]))) | (exact .eff (.idxS rfl rfl rfl encPo_len hq)) | exact .callG rfl rfl rfl (by first | exact c1 | exact c2) rfl | exact bg (c1) | exact bg (c2)); (· exact aR)) | refine rb ?_ | refine nd ?_ | refine dk ?_ | fail)
      exact rq ⟨[(6, .osl 7), (7, .fv (.int .i64 e))], [(7, .row 41 9 0 []), (1000, .box 88 ((encFab c [L0, L1, L2, L3, L4, L5]).map .fv))]⟩ (tq [(7, .nil)] [])
end Go.Proofs.YtmidechdlbcepaaGreat