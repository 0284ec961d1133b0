import Derived.Test.YtmidechdlbcepaaGreatPack33
import Derived.Test.YtmidechdlbcepaaGreatPack24
import Derived.Test.YtmidechdlbcepaaGreatPack28
import Derived.Test.YtmidechdlbcepaaGreatPack32
import Derived.Test.YtmidechdlbcepaaGreatPack27
import Derived.Test.YtmidechdlbcepaaGreatPack26
set_option linter.unusedSimpArgs false
set_option linter.unusedVariables false
namespace Go.Proofs.YtmidechdlbcepaaGreat
open Go.RowKit
set_option maxRecDepth 100000

theorem flat_bound {α β : Type} {f : α → List β} {n : Nat} : ∀ {l : List α}, (∀ x ∈ l, (f x).length ≤ n) → (l.flatMap f).length ≤ n * l.length
  | [], _ => by simp
  | x :: l, h => by
    have ih := flat_bound (f := f) (n := n) (l := l) fun y hy => h y (by simp [hy])
    have h1 := h x (by simp)
    rw [List.flatMap_cons, List.length_append, List.length_cons, Nat.mul_succ]
    omega
theorem hop_len {Fs : List (List Fl)} {s : Snt} (h : s.kind ≠ 5 → HopOk Fs s) : (hopA Fs s).length ≤ 1000 := by
  unfold hopA
  split
  · simp
  · rename_i h5
    have hr := (h h5).run.len
    unfold runF0
    have := flat_bound (f := outA) (n := 1) (l := ranOf (flAt Fs s.n) (pkOf (frOfP s.p) 0 s.p.f8 s.p.f9)) fun x _ => outA_len x
    omega
theorem mem_take_of {α : Type} {l : List α} {k : Nat} {x : α} (h : x ∈ l.take k) : x ∈ l := List.mem_of_mem_take h
set_option maxHeartbeats 8000000 in
theorem run1_T (c : Cf) (Fs : List (List Fl)) (ch : Int) (p : Pk) (h6 : Fs.length = 6) (hR : RunOk Fs ch p) (hH : ∀ s ∈ ranOf (flAt Fs ch) p, s.kind ≠ 5 → HopOk Fs s) : FunO Tryz.prog 76 [.optr 1000 0, .fv (.int .i64 ch), .agg ((encPk p).map .fv), .fv (.bool true)] [(1000, fabB c Fs)] (.tup [.osl 7, .fv (.int .i64 0)]) [(7, .row 41 9 (runF1 Fs ch p).length (((runF1 Fs ch p).flatMap encAr).map .fv)), (1000, fabB c Fs)] := by
  obtain ⟨L0, L1, L2, L3, L4, L5, rfl⟩ := six h6
  obtain ⟨hch, hff, hpf, hfr, hlen⟩ := hR
  obtain ⟨n, rfl⟩ := Int.eq_ofNat_of_zero_le hch.1
  have hL := flAt_get h6 (n := n) (by omega)
  have c1 := flowRun_T (flAt [L0, L1, L2, L3, L4, L5] n) p
  rw [(ran_ok hff hpf).1, (ran_ok hff hpf).2] at c1
  unfold runF1
  generalize flAt [L0, L1, L2, L3, L4, L5] n = L at *
  generalize ranOf L p = S at *
  have tn := fun s h1 h2 => tunnel_T c [L0, L1, L2, L3, L4, L5] s h6 h1 h2
  unfold fabB at tn
  refine FunO.bodyL tbl_ok Tryz.func76 rfl (by kernel_rfl) rfl rfl rfl ?_
  unfold fabB
  repeat' (first | (apply X.loE; (· exact aR); (· first | (exact .eff (.loadO rfl rfl (readFab (n := n) (by omega) hL))) | exact .callL rfl rfl rfl (c1) rfl | exact bl (c1))) | refine X.loc ?_ | refine nx ?_ | refine X.cdT ?_ | refine X.cdF ?_ | (refine WP.condBit rfl ?_ ?_) | (refine WP.cond rfl ?_ ?_ <;> intro hcond) | (apply X.gsE; (· exact aR); (· exact aV); (· exact aW); (· intro hc; first | (exact .eff (.loadO rfl rfl (readFab (n := n) (by omega) hL))) | exact .callG rfl rfl rfl (c1) rfl | exact bg (c1)); (· exact aR)) | refine rb ?_ | refine nd ?_ | refine dk ?_ | fail)
  refine WP.loop (ι := Nat) (fun k => ⟨[(0, .optr 1000 0), (3, .fv (.bool true)), (12, .osl 900), (32, .fv (slOf encSnt S)), (33, .fv (.int .i64 S.length)), (34, .fv (.int .i64 k))], [(1000, .box 88 ((encFab c [L0, L1, L2, L3, L4, L5]).map .fv)), (900, .row 41 9 ((S.take k).flatMap (hopA [L0, L1, L2, L3, L4, L5])).length ((((S.take k).flatMap (hopA [L0, L1, L2, L3, L4, L5])).flatMap encAr).map .fv))]⟩) (fun k => k ≤ S.length) (fun k => S.length - k) 0 (by omega) ?_ ?_
  · try dsimp only
    rw [List.take_zero, List.flatMap_nil]
    refine St.to [(900, .nil)] [] rfl rfl ?_ ?_ <;> (repeat' (first | exact tA | refine t1 ?_ | exact tB | refine t2 ?_ ?_ | refine t3 ?_ | refine t4 ?_ ?_ | refine .ofEq ?_ | refine OB.To.cut rfl rfl ?_ ?_ ?_ ?_ | refine OB.To.box rfl rfl ?_ | refine ⟨⟨_, rfl, ?_⟩, ?_⟩ | refine ⟨?_, ?_⟩ | fail))
  rintro k hk
  try dsimp only
  by_cases hlt : k < S.length
  case neg =>
    rw [List.take_of_length_le (by omega)]
    generalize S.flatMap (hopA [L0, L1, L2, L3, L4, L5]) = O at *
    repeat' (first | refine X.loc ?_ | refine nx ?_ | refine X.cdT ?_ | refine X.cdF ?_ | (refine WP.condBit rfl ?_ ?_) | (refine WP.cond rfl ?_ ?_ <;> intro hcond) | refine rb ?_ | refine nd ?_ | refine dk ?_ | fail)
    refine .ofL (s' := ⟨[(8, .osl 7), (9, .fv (.int .i64 0))], [(7, .row 41 9 O.length ((O.flatMap encAr).map .fv)), (1000, .box 88 ((encFab c [L0, L1, L2, L3, L4, L5]).map .fv))]⟩) (by first | exact .inl rfl | exact .inr rfl) ?_ rfl rfl (by repeat' (first | exact trivial | refine ⟨⟨_, rfl, fun _ _ _ _ h => h⟩, ?_⟩))
    refine St.to [(7, .id 900)] [] rfl rfl ?_ ?_ <;> (repeat' (first | exact tA | refine t1 ?_ | exact tB | refine t2 ?_ ?_ | refine t3 ?_ | refine t4 ?_ ?_ | refine .ofEq ?_ | refine OB.To.cut rfl rfl ?_ ?_ ?_ ?_ | refine OB.To.box rfl rfl ?_ | refine ⟨⟨_, rfl, ?_⟩, ?_⟩ | refine ⟨?_, ?_⟩ | fail))
  case pos =>
    obtain ⟨x, hx⟩ : ∃ x, S[k]? = some x := ⟨_, List.getElem?_eq_getElem hlt⟩
    have hxm := List.mem_of_getElem? hx
    have c2 := pframe_T x.p
    have hxf := hfr x hxm
    have e2 : frR x.p = frOfP x.p := by unfold frR; rw [if_neg (by omega)]
    rw [hxf, e2] at c2
    have hs := flat_succ [] (hopA [L0, L1, L2, L3, L4, L5]) hx
    have hOl := flat_bound (f := hopA [L0, L1, L2, L3, L4, L5]) (n := 1000) (l := S.take k) fun s hs => hop_len (hH s (mem_take_of hs))
    have hxl := hop_len (hH x hxm)
    rw [List.length_take] at hOl
    rw [List.nil_append, List.nil_append] at hs
    generalize (S.take k).flatMap (hopA [L0, L1, L2, L3, L4, L5]) = O at *
    by_cases h5 : x.kind = 5
    · rw [hopA, if_pos h5] at hs
      repeat' (first | (apply X.loE; (· exact aR); (· first | (exact .eff (.idxS rfl rfl rfl encSnt_len hx)) | exact .callL rfl rfl rfl (c2) rfl | exact bl (c2))) | refine X.loc ?_ | refine nx ?_ | refine X.cdT ?_ | refine X.cdF ?_ | (refine WP.condBit rfl ?_ ?_) | (refine WP.cond rfl ?_ ?_ <;> intro hcond) | (apply X.gsE; (· exact aR); (· exact aV); (· exact aW); (· intro hc; first | (exact .eff (.idxS rfl rfl rfl encSnt_len hx)) | exact .callG rfl rfl rfl (c2) rfl | exact bg (c2)); (· exact aR)) | refine rb ?_ | refine nd ?_ | refine dk ?_ | fail)
      refine ⟨k + 1, by omega, by omega, ?_⟩
      try dsimp only
      rw [hs]
      refine St.to [(900, .id 56)] [] rfl rfl ?_ ?_ <;> (repeat' (first | exact tA | refine t1 ?_ | exact tB | refine t2 ?_ ?_ | refine t3 ?_ | refine t4 ?_ ?_ | refine .ofEq ?_ | refine OB.To.cut rfl rfl ?_ ?_ ?_ ?_ | refine OB.To.box rfl rfl ?_ | refine ⟨⟨_, rfl, ?_⟩, ?_⟩ | refine ⟨?_, ?_⟩ | fail))
      all_goals first | omega | (simp; done) | (simp only [List.flatMap_append, List.map_append]; rfl)
    · rw [hopA, if_neg h5] at hs hxl
      have u1 := tn x hxf (hH x hxm h5)
      generalize runF0 (flAt [L0, L1, L2, L3, L4, L5] x.n) (pkOf (frOfP x.p) 0 x.p.f8 x.p.f9) = M at *
      repeat' (first | (apply X.loE; (· exact aR); (· first | (exact .eff (.idxS rfl rfl rfl encSnt_len hx)) | exact .callL rfl rfl rfl (c2) rfl | exact bl (c2))) | refine X.loc ?_ | refine nx ?_ | refine X.cdT ?_ | refine X.cdF ?_ | (refine WP.condBit rfl ?_ ?_) | (refine WP.cond rfl ?_ ?_ <;> intro hcond) | (apply X.gsE; (· exact aR); (· exact aV); (· exact aW); (· intro hc; first | (exact .eff (.idxS rfl rfl rfl encSnt_len hx)) | exact .callG rfl rfl rfl (c2) rfl | exact bg (c2)); (· exact aR)) | refine rb ?_ | refine X.c0 (u1) ?_ | refine nd ?_ | refine dk ?_ | fail)
      refine ⟨k + 1, by omega, by omega, ?_⟩
      try dsimp only
      rw [hs]
      refine St.to [(900, .id 71)] [] rfl rfl ?_ ?_ <;> (repeat' (first | exact tA | refine t1 ?_ | exact tB | refine t2 ?_ ?_ | refine t3 ?_ | refine t4 ?_ ?_ | refine .ofEq ?_ | refine OB.To.cut rfl rfl ?_ ?_ ?_ ?_ | refine OB.To.box rfl rfl ?_ | refine ⟨⟨_, rfl, ?_⟩, ?_⟩ | refine ⟨?_, ?_⟩ | fail))
      all_goals first | omega | (simp; done) | (simp only [List.flatMap_append, List.map_append]; rfl)
theorem send1_T (s : Po) (id : Int) : Fun Tryz.prog 74 [.agg ((encPo s).map .fv), .fptr [.int .i64 id]] (.fv (.bool (s.id == id))) := by
  refine Fun.body tbl_ok Tryz.func74 rfl (by kernel_rfl) rfl rfl rfl ?_
  repeat' (first | refine X.loc ?_ | refine nx ?_ | (refine WP.condBit rfl ?_ ?_) | (refine WP.cond rfl ?_ ?_ <;> intro hcond) | refine rb ?_ | refine nd ?_ | refine dk ?_ | fail)
  exact .f1 (.inl rfl) rfl rfl
def sendE (c : Cf) (id : Int) (f : Fr) : Int := match poAt c id with
  | none => 6
  | some q => if q.ch < 0 then 6 else pkE f id 0 0
def sendR (c : Cf) (Fs : List (List Fl)) (id : Int) (f : Fr) : List Ar := match poAt c id with
  | none => []
  | some q => if q.ch < 0 then [] else if pkE f id 0 0 ≠ 0 then [] else AS.sortA (runF1 Fs q.ch (pkOf f id 0 0))
structure SendOk (Fs : List (List Fl)) (ch : Int) (p : Pk) : Prop where
  run : RunOk Fs ch p
  hop : ∀ s ∈ ranOf (flAt Fs ch) p, s.kind ≠ 5 → HopOk Fs s
  arr : ∀ x ∈ runF1 Fs ch p, ArR x
  few : (runF1 Fs ch p).length ≤ 40
theorem idx_poAt {c : Cf} {id : Int} {q : Po} (h : poAt c id = some q) : ∃ i : Nat, idxB (fun s : Po => s.id == id) c.ps = i ∧ c.ps[i]? = some q := by
  have h1 := idxB_any (fun s : Po => s.id == id) c.ps
  have h2 : c.ps.any (fun s => s.id == id) = true := by
    have := poAt_mem h
    exact List.any_eq_true.2 ⟨q, this.1, by simpa using this.2⟩
  rw [h2] at h1
  have h3 : ¬ idxB (fun s : Po => s.id == id) c.ps < 0 := fun h => by cases h1.1 h
  obtain ⟨i, hi⟩ : ∃ i : Nat, idxB (fun s : Po => s.id == id) c.ps = i := ⟨_, (Int.toNat_of_nonneg (by omega)).symm⟩
  obtain ⟨x, hx, _, hf⟩ := idxB_at _ _ i hi
  have e : poAt c id = some x := hf
  rw [h] at e
  obtain rfl := Option.some.inj e
  exact ⟨i, hi, hx⟩
set_option maxHeartbeats 8000000 in
theorem send_T (c : Cf) (Fs : List (List Fl)) (id : Int) (f : Fr) (hpl : c.ps.length ≤ 40) (h6 : Fs.length = 6) (hS : ∀ q, poAt c id = some q → 0 ≤ q.ch → pkE f id 0 0 = 0 → SendOk Fs q.ch (pkOf f id 0 0)) : FunO Tryz.prog 46 [.optr 1000 0, .fv (.int .i64 id), .agg ((encFr f).map .fv)] [(1000, fabB c Fs)] (.tup [.osl 7, .fv (.int .i64 (sendE c id f))]) [(7, .row 41 9 (sendR c Fs id f).length (((sendR c Fs id f).flatMap encAr).map .fv)), (1000, fabB c Fs)] := by
  obtain ⟨L0, L1, L2, L3, L4, L5, rfl⟩ := six h6
  have c1 := indexPo_T c.ps 74 [.fptr [.int .i64 id]] (fun s => s.id == id) (by omega) (fun s _ => send1_T s id)
  have c2 := packet_T f id 0 0
  refine FunO.bodyL tbl_ok Tryz.func46 rfl (by kernel_rfl) rfl rfl rfl ?_
  unfold sendE sendR fabB
  cases hpo : poAt c id with
  | none =>
    have e1 : idxB (fun s : Po => s.id == id) c.ps = -1 := idxB_none _ _ fun q hq => by
      have := poAt_none hpo hq
      simpa using this
    rw [e1] at c1
    repeat' (first | (apply X.loE; (· exact aR); (· first | (exact .eff (.loadO rfl rfl (readFabP c [L0, L1, L2, L3, L4, L5]))) | (exact .eff (.idxD po0 rfl rfl rfl encPo_len (by exfalso; simp at hc))) | exact .callL rfl rfl rfl (c1) rfl | exact bl (c1))) | refine X.loc ?_ | refine nx ?_ | refine X.cdT ?_ | refine X.cdF ?_ | (refine WP.condBit rfl ?_ ?_) | (refine WP.cond rfl ?_ ?_ <;> intro hcond) | (apply X.gsE; (· exact aR); (· exact aV); (· exact aW); (· intro hc; first | (exact .eff (.loadO rfl rfl (readFabP c [L0, L1, L2, L3, L4, L5]))) | (exact .eff (.idxD po0 rfl rfl rfl encPo_len (by exfalso; simp at hc))) | exact .callG rfl rfl rfl (c1) rfl | exact bg (c1)); (· exact aR)) | refine rb ?_ | refine nd ?_ | refine dk ?_ | fail)
    refine .ofL (s' := ⟨[(6, .osl 7), (7, .fv (.int .i64 6))], [(7, .row 41 9 0 []), (1000, .box 88 ((encFab c [L0, L1, L2, L3, L4, L5]).map .fv))]⟩) (by first | exact .inl rfl | exact .inr rfl) ?_ rfl rfl (by repeat' (first | exact trivial | refine ⟨⟨_, rfl, fun _ _ _ _ h => h⟩, ?_⟩))
    refine St.to [(7, .nil)] [] rfl rfl ?_ ?_ <;> (repeat' (first | exact tA | refine t1 ?_ | exact tB | refine t2 ?_ ?_ | refine t3 ?_ | refine t4 ?_ ?_ | refine .ofEq ?_ | refine OB.To.cut rfl rfl ?_ ?_ ?_ ?_ | refine OB.To.box rfl rfl ?_ | refine ⟨⟨_, rfl, ?_⟩, ?_⟩ | refine ⟨?_, ?_⟩ | fail))
  | some q =>
    obtain ⟨i, hi, hq⟩ := idx_poAt hpo
    rw [hi] at c1
    try dsimp only
    by_cases hc0 : q.ch < 0
    · rw [if_pos hc0, if_pos hc0]
      repeat' (first | (apply X.loE; (· exact aR); (· first | (exact .eff (.loadO rfl rfl (readFabP c [L0, L1, L2, L3, L4, L5]))) | (exact .eff (.idxS rfl rfl rfl encPo_len hq)) | exact .callL rfl rfl rfl (c1) rfl | exact bl (c1))) | refine X.loc ?_ | refine nx ?_ | refine X.cdT ?_ | refine X.cdF ?_ | (refine WP.condBit rfl ?_ ?_) | (refine WP.cond rfl ?_ ?_ <;> intro hcond) | (apply X.gsE; (· exact aR); (· exact aV); (· exact aW); (· intro hc; first | (exact .eff (.loadO rfl rfl (readFabP c [L0, L1, L2, L3, L4, L5]))) | (exact .eff (.idxS rfl rfl rfl encPo_len hq)) | exact .callG rfl rfl rfl (c1) rfl | exact bg (c1)); (· exact aR)) | refine rb ?_ | refine nd ?_ | refine dk ?_ | fail)
      refine .ofL (s' := ⟨[(6, .osl 7), (7, .fv (.int .i64 6))], [(7, .row 41 9 0 []), (1000, .box 88 ((encFab c [L0, L1, L2, L3, L4, L5]).map .fv))]⟩) (by first | exact .inl rfl | exact .inr rfl) ?_ rfl rfl (by repeat' (first | exact trivial | refine ⟨⟨_, rfl, fun _ _ _ _ h => h⟩, ?_⟩))
      refine St.to [(7, .nil)] [] rfl rfl ?_ ?_ <;> (repeat' (first | exact tA | refine t1 ?_ | exact tB | refine t2 ?_ ?_ | refine t3 ?_ | refine t4 ?_ ?_ | refine .ofEq ?_ | refine OB.To.cut rfl rfl ?_ ?_ ?_ ?_ | refine OB.To.box rfl rfl ?_ | refine ⟨⟨_, rfl, ?_⟩, ?_⟩ | refine ⟨?_, ?_⟩ | fail))
    rw [if_neg hc0, if_neg hc0]
    by_cases he : pkE f id 0 0 = 0
    · rw [if_neg (show ¬ pkE f id 0 0 ≠ 0 by omega), he]
      obtain ⟨hR, hH, hA, hfew⟩ := hS q hpo (by omega) he
      have e4 : pkR f id 0 0 = pkOf f id 0 0 := by unfold pkR; rw [if_neg (by omega)]
      rw [he, e4] at c2
      have u1 := run1_T c [L0, L1, L2, L3, L4, L5] q.ch (pkOf f id 0 0) h6 hR hH
      unfold fabB at u1
      generalize runF1 [L0, L1, L2, L3, L4, L5] q.ch (pkOf f id 0 0) = A at *
      have u2 := AS.sortStable_T A hA hfew
      unfold AS.arRw at u2
      generalize AS.sortA A = Z at *
      repeat' (first | (apply X.loE; (· exact aR); (· first | (exact .eff (.loadO rfl rfl (readFabP c [L0, L1, L2, L3, L4, L5]))) | (exact .eff (.idxS rfl rfl rfl encPo_len hq)) | exact .callL rfl rfl rfl (by first | exact c1 | exact c2) rfl | exact bl (c1) | exact bl (c2))) | refine X.loc ?_ | refine nx ?_ | refine X.cdT ?_ | refine X.cdF ?_ | (refine WP.condBit rfl ?_ ?_) | (refine WP.cond rfl ?_ ?_ <;> intro hcond) | (apply X.gsE; (· exact aR); (· exact aV); (· exact aW); (· intro hc; first | (exact .eff (.loadO rfl rfl (readFabP c [L0, L1, L2, L3, L4, L5]))) | (exact .eff (.idxS rfl rfl rfl encPo_len hq)) | exact .callG rfl rfl rfl (by first | exact c1 | exact c2) rfl | exact bg (c1) | exact bg (c2)); (· exact aR)) | refine rb ?_ | refine X.c0 (u1) ?_ | refine X.c0 (u2) ?_ | refine nd ?_ | refine dk ?_ | fail)
      refine .ofL (s' := ⟨[(6, .osl 7), (7, .fv (.int .i64 0))], [(7, .row 41 9 Z.length ((Z.flatMap encAr).map .fv)), (1000, .box 88 ((encFab c [L0, L1, L2, L3, L4, L5]).map .fv))]⟩) (by first | exact .inl rfl | exact .inr rfl) ?_ rfl rfl (by repeat' (first | exact trivial | refine ⟨⟨_, rfl, fun _ _ _ _ h => h⟩, ?_⟩))
      refine St.to [(7, .id 54)] [] rfl rfl ?_ ?_ <;> (repeat' (first | exact tA | refine t1 ?_ | exact tB | refine t2 ?_ ?_ | refine t3 ?_ | refine t4 ?_ ?_ | refine .ofEq ?_ | refine OB.To.cut rfl rfl ?_ ?_ ?_ ?_ | refine OB.To.box rfl rfl ?_ | refine ⟨⟨_, rfl, ?_⟩, ?_⟩ | refine ⟨?_, ?_⟩ | fail))
    · rw [if_pos he]
      generalize pkE f id 0 0 = e at *
      repeat' (first | (apply X.loE; (· exact aR); (· first | (exact .eff (.loadO rfl rfl (readFabP c [L0, L1, L2, L3, L4, L5]))) | (exact .eff (.idxS rfl rfl rfl encPo_len hq)) | exact .callL rfl rfl rfl (by first | exact c1 | exact c2) rfl | exact bl (c1) | exact bl (c2))) | refine X.loc ?_ | refine nx ?_ | refine X.cdT ?_ | refine X.cdF ?_ | (refine WP.condBit rfl ?_ ?_) | (refine WP.cond rfl ?_ ?_ <;> intro hcond) | (apply X.gsE; (· exact aR); (· exact aV); (· exact aW); (· intro hc; first | (exact .eff (.loadO rfl rfl (readFabP c [L0, L1, L2, L3, L4, L5]))) | (exact .eff (.idxS rfl rfl rfl encPo_len hq)) | exact .callG rfl rfl rfl (by first | exact c1 | exact c2) rfl | exact bg (c1) | exact bg (c2)); (· exact aR)) | refine rb ?_ | refine nd ?_ | refine dk ?_ | fail)
      refine .ofL (s' := ⟨[(6, .osl 7), (7, .fv (.int .i64 e))], [(7, .row 41 9 0 []), (1000, .box 88 ((encFab c [L0, L1, L2, L3, L4, L5]).map .fv))]⟩) (by first | exact .inl rfl | exact .inr rfl) ?_ rfl rfl (by repeat' (first | exact trivial | refine ⟨⟨_, rfl, fun _ _ _ _ h => h⟩, ?_⟩))
      refine St.to [(7, .nil)] [] rfl rfl ?_ ?_ <;> (repeat' (first | exact tA | refine t1 ?_ | exact tB | refine t2 ?_ ?_ | refine t3 ?_ | refine t4 ?_ ?_ | refine .ofEq ?_ | refine OB.To.cut rfl rfl ?_ ?_ ?_ ?_ | refine OB.To.box rfl rfl ?_ | refine ⟨⟨_, rfl, ?_⟩, ?_⟩ | refine ⟨?_, ?_⟩ | fail))
end Go.Proofs.YtmidechdlbcepaaGreat

namespace Go.Proofs.YtmidechdlbcepaaGreat
open Go.RowKit
set_option maxRecDepth 100000

def encGl (g : Gl) : List FV := [.int .i64 g.net, .int .i64 g.to] ++ encFr g.is
theorem encGl_len (g : Gl) : (encGl g).length = 10 := rfl
theorem po_any {c : Cf} {n : Int} : (c.ps.any fun p => p.id == n) = (poAt c n).isSome := by
  unfold poAt
  rw [Bool.eq_iff_iff, List.find?_isSome, List.any_eq_true]
theorem goalQ_len (c : Cf) (p : Po) (f : Fr) (q : Po) : (goalQ c p f q).length ≤ 2 := by
  unfold goalQ
  split
  · simp
  · rw [List.length_append]
    have : ∀ {P : Prop} [Decidable P] (g : Gl), (if P then [g] else []).length ≤ 1 := fun g => by split <;> simp
    exact Nat.add_le_add (this _) (this _)
set_option maxHeartbeats 16000000 in
theorem ledOf0_T (c : Cf) (hc : CfOk c) (ch id : Int) (f : Fr) (hf : FrMay f) : FunO Tryz.prog 82 [.agg ((encCf c).map .fv), .fv (.int .i64 ch), .fv (.int .i64 id), .agg ((encFr f).map .fv)] [] (.osl 7) [(7, .row 140 10 (ledF c ch id f).length (((ledF c ch id f).flatMap encGl).map .fv))] := by
  have hpl := hc.pl
  have c1 := portOf_T c id hc.small
  rw [po_any] at c1
  have ep : (c.ps.find? fun p => p.id == id) = poAt c id := rfl
  rw [ep] at c1
  have httl := hf.ttl
  refine FunO.bodyL tbl_ok Tryz.func82 rfl (by kernel_rfl) rfl rfl rfl ?_
  unfold ledF
  cases hpo : poAt c id with
  | none =>
    rw [hpo] at c1
    simp only [Option.getD_some, Option.getD_none, Option.isSome_some, Option.isSome_none] at c1
    repeat' (first | (apply X.loE; (· exact aR); (· first | exact .callL rfl rfl rfl (c1) rfl | exact bl (c1))) | refine X.loc ?_ | (refine X.cdT ?_ rfl (by first |(simp only [Bool.not_false, Bool.true_or, Bool.or_true]; done) |(simp only [Bool.not_true, Bool.not_false, Bool.false_or, Bool.or_false, Bool.true_or, Bool.or_eq_true, bne_iff_ne, ne_eq]; omega) |fail)) | (refine X.cdF ?_ rfl (by first |(simp only [Bool.not_true, Bool.false_or, Bool.or_false, Bool.or_eq_false_iff, bne_eq_false_iff_eq]; omega) |fail)) | refine nx ?_ | refine X.cdT ?_ | refine X.cdF ?_ | (refine WP.condBit rfl ?_ ?_) | (refine WP.cond rfl ?_ ?_ <;> intro hcond) | (apply X.gsE; (· exact aR); (· exact aV); (· exact aW); (· intro hc; first | exact .callG rfl rfl rfl (c1) rfl | exact bg (c1)); (· exact aR)) | refine rb ?_ | refine nd ?_ | refine dk ?_ | fail)
    refine .ofL (s' := ⟨[(8, .osl 7)], [(7, .row 140 10 0 [])]⟩) (by first | exact .inl rfl | exact .inr rfl) ?_ rfl rfl (by repeat' (first | exact trivial | refine ⟨⟨_, rfl, fun _ _ _ _ h => h⟩, ?_⟩))
    refine St.to [(7, .nil)] [] rfl rfl ?_ ?_ <;> (repeat' (first | exact tA | refine t1 ?_ | exact tB | refine t2 ?_ ?_ | refine t3 ?_ | refine t4 ?_ ?_ | refine .ofEq ?_ | refine OB.To.cut rfl rfl ?_ ?_ ?_ ?_ | refine OB.To.box rfl rfl ?_ | refine ⟨⟨_, rfl, ?_⟩, ?_⟩ | refine ⟨?_, ?_⟩ | fail))
  | some p =>
    obtain ⟨hp, hid⟩ := poAt_mem hpo
    rw [hpo] at c1
    simp only [Option.getD_some, Option.getD_none, Option.isSome_some, Option.isSome_none] at c1
    try dsimp only
    have c2 := switchOf_T c p.sw hc.small
    have es : swOf c.ss p.sw = swAt c.ss p.sw := rfl
    rw [es] at c2
    have hs := hc.swIn hp
    have hsr := hc.sr _ hs.1
    unfold SwR at hsr
    by_cases hbad : p.ch ≠ ch ∨ f.src ≠ p.mac ∨ f.ipSrc ≠ p.ip
    · rw [if_pos hbad]
      repeat' (first | (apply X.loE; (· exact aR); (· first | exact .callL rfl rfl rfl (c1) rfl | exact bl (c1))) | refine X.loc ?_ | (refine X.cdT ?_ rfl (by first |(simp only [Bool.not_false, Bool.true_or, Bool.or_true]; done) |(simp only [Bool.not_true, Bool.not_false, Bool.false_or, Bool.or_false, Bool.true_or, Bool.or_eq_true, bne_iff_ne, ne_eq]; omega) |fail)) | (refine X.cdF ?_ rfl (by first |(simp only [Bool.not_true, Bool.false_or, Bool.or_false, Bool.or_eq_false_iff, bne_eq_false_iff_eq]; omega) |fail)) | refine nx ?_ | refine X.cdT ?_ | refine X.cdF ?_ | (refine WP.condBit rfl ?_ ?_) | (refine WP.cond rfl ?_ ?_ <;> intro hcond) | (apply X.gsE; (· exact aR); (· exact aV); (· exact aW); (· intro hc; first | exact .callG rfl rfl rfl (c1) rfl | exact bg (c1)); (· exact aR)) | refine rb ?_ | refine nd ?_ | refine dk ?_ | fail)
      refine .ofL (s' := ⟨[(8, .osl 7)], [(7, .row 140 10 0 [])]⟩) (by first | exact .inl rfl | exact .inr rfl) ?_ rfl rfl (by repeat' (first | exact trivial | refine ⟨⟨_, rfl, fun _ _ _ _ h => h⟩, ?_⟩))
      refine St.to [(7, .nil)] [] rfl rfl ?_ ?_ <;> (repeat' (first | exact tA | refine t1 ?_ | exact tB | refine t2 ?_ ?_ | refine t3 ?_ | refine t4 ?_ ?_ | refine .ofEq ?_ | refine OB.To.cut rfl rfl ?_ ?_ ?_ ?_ | refine OB.To.box rfl rfl ?_ | refine ⟨⟨_, rfl, ?_⟩, ?_⟩ | refine ⟨?_, ?_⟩ | fail))
    rw [if_neg hbad]
    by_cases hk1 : f.kind = 1
    · rw [if_pos hk1]
      unfold askG
      generalize swAt c.ss p.sw = s at *
      by_cases hg : 0 < s.gate ∧ s.gate = f.ipDst
      · rw [if_pos hg]
        unfold tellG
        rw [hid]
        repeat' (first | (apply X.loE; (· exact aR); (· first | exact .callL rfl rfl rfl (by first | exact c1 | exact c2) rfl | exact bl (c1) | exact bl (c2))) | refine X.loc ?_ | (refine X.cdT ?_ rfl (by first |(simp only [Bool.not_false, Bool.true_or, Bool.or_true]; done) |(simp only [Bool.not_true, Bool.not_false, Bool.false_or, Bool.or_false, Bool.true_or, Bool.or_eq_true, bne_iff_ne, ne_eq]; omega) |fail)) | (refine X.cdF ?_ rfl (by first |(simp only [Bool.not_true, Bool.false_or, Bool.or_false, Bool.or_eq_false_iff, bne_eq_false_iff_eq]; omega) |fail)) | refine nx ?_ | refine X.cdT ?_ | refine X.cdF ?_ | (refine WP.condBit rfl ?_ ?_) | (refine WP.cond rfl ?_ ?_ <;> intro hcond) | (apply X.gsE; (· exact aR); (· exact aV); (· exact aW); (· intro hc; first | exact .callG rfl rfl rfl (by first | exact c1 | exact c2) rfl | exact bg (c1) | exact bg (c2)); (· exact aR)) | refine rb ?_ | refine nd ?_ | refine dk ?_ | fail)
        refine .ofL (s' := ⟨[(8, .osl 7)], [(7, .row 140 10 1 ((encGl ⟨s.id, id, ⟨p.mac, 60000 + s.id, 2, f.ipDst, p.ip, 0, 0, ⟨#[]⟩⟩⟩).map .fv))]⟩) (by first | exact .inl rfl | exact .inr rfl) ?_ rfl rfl (by repeat' (first | exact trivial | refine ⟨⟨_, rfl, fun _ _ _ _ h => h⟩, ?_⟩))
        refine St.to [(7, .id 86)] [] rfl rfl ?_ ?_ <;> (repeat' (first | exact tA | refine t1 ?_ | exact tB | refine t2 ?_ ?_ | refine t3 ?_ | refine t4 ?_ ?_ | refine .ofEq ?_ | refine OB.To.cut rfl rfl ?_ ?_ ?_ ?_ | refine OB.To.box rfl rfl ?_ | refine ⟨⟨_, rfl, ?_⟩, ?_⟩ | refine ⟨?_, ?_⟩ | fail))
      · rw [if_neg hg]
        repeat' (first | (apply X.loE; (· exact aR); (· first | exact .callL rfl rfl rfl (by first | exact c1 | exact c2) rfl | exact bl (c1) | exact bl (c2))) | refine X.loc ?_ | (refine X.cdT ?_ rfl (by first |(simp only [Bool.not_false, Bool.true_or, Bool.or_true]; done) |(simp only [Bool.not_true, Bool.not_false, Bool.false_or, Bool.or_false, Bool.true_or, Bool.or_eq_true, bne_iff_ne, ne_eq]; omega) |fail)) | (refine X.cdF ?_ rfl (by first |(simp only [Bool.not_true, Bool.false_or, Bool.or_false, Bool.or_eq_false_iff, bne_eq_false_iff_eq]; omega) |fail)) | refine nx ?_ | refine X.cdT ?_ | refine X.cdF ?_ | (refine WP.condBit rfl ?_ ?_) | (refine WP.cond rfl ?_ ?_ <;> intro hcond) | (apply X.gsE; (· exact aR); (· exact aV); (· exact aW); (· intro hc; first | exact .callG rfl rfl rfl (by first | exact c1 | exact c2) rfl | exact bg (c1) | exact bg (c2)); (· exact aR)) | refine rb ?_ | refine nd ?_ | refine dk ?_ | fail)
        refine WP.loop (ι := Nat) (fun k => ⟨[(2, .fv (.int .i64 id)), (4, .optr 4 0), (7, .optr 7 0), (9, .optr 9 0), (11, .optr 11 0), (13, .optr 13 0), (14, .fv (.int .i64 k))], [(4, .box 26 ((encCf c).map .fv)), (7, .box 28 ((encFr f).map .fv)), (9, .box 69 ((encPo p).map .fv)), (11, .box 44 ((encSw s).map .fv)), (13, .box 28 ((encFr ⟨p.mac, 0, 2, f.ipDst, p.ip, 0, 0, ⟨#[]⟩⟩).map .fv))]⟩) (fun k => k ≤ c.ps.length ∧ ∀ q ∈ c.ps.take k, askB f s p.id q = false) (fun k => c.ps.length - k) 0 ⟨by omega, by simp⟩ ?_ ?_
        · skip
          refine St.to [] [] rfl rfl ?_ ?_ <;> (repeat' (first | exact tA | refine t1 ?_ | exact tB | refine t2 ?_ ?_ | refine t3 ?_ | refine t4 ?_ ?_ | refine .ofEq ?_ | refine OB.To.cut rfl rfl ?_ ?_ ?_ ?_ | refine OB.To.box rfl rfl ?_ | refine ⟨⟨_, rfl, ?_⟩, ?_⟩ | refine ⟨?_, ?_⟩ | fail))
        rintro k ⟨hk, hd⟩
        try dsimp only
        by_cases hlt : k < c.ps.length
        case neg =>
          rw [List.take_of_length_le (by omega)] at hd
          rw [List.find?_eq_none.2 fun q hq => by rw [hd q hq]; simp]
          repeat' (first | refine X.loc ?_ | refine nx ?_ | refine X.cdT ?_ | refine X.cdF ?_ | (refine WP.condBit rfl ?_ ?_) | (refine WP.cond rfl ?_ ?_ <;> intro hcond) | refine rb ?_ | refine nd ?_ | refine dk ?_ | fail)
          refine .ofL (s' := ⟨[(8, .osl 7)], [(7, .row 140 10 0 [])]⟩) (by first | exact .inl rfl | exact .inr rfl) ?_ rfl rfl (by repeat' (first | exact trivial | refine ⟨⟨_, rfl, fun _ _ _ _ h => h⟩, ?_⟩))
          refine St.to [(7, .nil)] [] rfl rfl ?_ ?_ <;> (repeat' (first | exact tA | refine t1 ?_ | exact tB | refine t2 ?_ ?_ | refine t3 ?_ | refine t4 ?_ ?_ | refine .ofEq ?_ | refine OB.To.cut rfl rfl ?_ ?_ ?_ ?_ | refine OB.To.box rfl rfl ?_ | refine ⟨⟨_, rfl, ?_⟩, ?_⟩ | refine ⟨?_, ?_⟩ | fail))
        case pos =>
          obtain ⟨x, hx⟩ : ∃ x, c.ps[k]? = some x := ⟨_, List.getElem?_eq_getElem hlt⟩
          by_cases hq : x.sw = s.id ∧ x.ip = f.ipDst ∧ x.id ≠ id
          · have hfd : c.ps.find? (askB f s p.id) = some x := find_ix hx (by simp [askB, hq, hid]) fun j y hj hy => hd y (List.mem_of_getElem? (i := j) (by rw [List.getElem?_take, if_pos hj]; exact hy))
            rw [hfd]
            unfold tellG
            rw [hid]
            repeat' (first | (apply X.loE; (· exact aR); (· first | (exact .eff (.idxS rfl rfl rfl encPo_len hx)))) | refine X.loc ?_ | refine nx ?_ | refine X.cdT ?_ | refine X.cdF ?_ | (refine WP.condBit rfl ?_ ?_) | (refine WP.cond rfl ?_ ?_ <;> intro hcond) | (apply X.gsE; (· exact aR); (· exact aV); (· exact aW); (· intro hc; first | (exact .eff (.idxS rfl rfl rfl encPo_len hx))); (· exact aR)) | refine rb ?_ | refine nd ?_ | refine dk ?_ | fail)
            refine .ofL (s' := ⟨[(8, .osl 7)], [(7, .row 140 10 1 ((encGl ⟨s.id, id, ⟨p.mac, x.mac, 2, f.ipDst, p.ip, 0, 0, ⟨#[]⟩⟩⟩).map .fv))]⟩) (by first | exact .inl rfl | exact .inr rfl) ?_ rfl rfl (by repeat' (first | exact trivial | refine ⟨⟨_, rfl, fun _ _ _ _ h => h⟩, ?_⟩))
            refine St.to [(7, .id 125)] [] rfl rfl ?_ ?_ <;> (repeat' (first | exact tA | refine t1 ?_ | exact tB | refine t2 ?_ ?_ | refine t3 ?_ | refine t4 ?_ ?_ | refine .ofEq ?_ | refine OB.To.cut rfl rfl ?_ ?_ ?_ ?_ | refine OB.To.box rfl rfl ?_ | refine ⟨⟨_, rfl, ?_⟩, ?_⟩ | refine ⟨?_, ?_⟩ | fail))
          · skip
            repeat' (first | (apply X.loE; (· exact aR); (· first | (exact .eff (.idxS rfl rfl rfl encPo_len hx)))) | refine X.loc ?_ | refine nx ?_ | refine X.cdT ?_ | refine X.cdF ?_ | (refine WP.condBit rfl ?_ ?_) | (refine WP.cond rfl ?_ ?_ <;> intro hcond) | (apply X.gsE; (· exact aR); (· exact aV); (· exact aW); (· intro hc; first | (exact .eff (.idxS rfl rfl rfl encPo_len hx))); (· exact aR)) | refine rb ?_ | refine nd ?_ | refine dk ?_ | fail)
            refine ⟨k + 1, ⟨by omega, fun q hqm => ?_⟩, by omega, ?_⟩
            · rw [take_succ hx] at hqm
              rcases List.mem_append.1 hqm with hqm | hqm
              · exact hd q hqm
              · obtain rfl := List.mem_singleton.1 hqm
                rw [Bool.eq_false_iff]
                intro h
                simp only [askB, Bool.and_eq_true, beq_iff_eq, bne_iff_ne] at h
                exact hq ⟨h.1, h.2.1, by rw [← hid]; exact h.2.2⟩
            · skip
              refine St.to [] [] rfl rfl ?_ ?_ <;> (repeat' (first | exact tA | refine t1 ?_ | exact tB | refine t2 ?_ ?_ | refine t3 ?_ | refine t4 ?_ ?_ | refine .ofEq ?_ | refine OB.To.cut rfl rfl ?_ ?_ ?_ ?_ | refine OB.To.box rfl rfl ?_ | refine ⟨⟨_, rfl, ?_⟩, ?_⟩ | refine ⟨?_, ?_⟩ | fail))
    rw [if_neg hk1]
    unfold dataG
    have ca := allows_T c hc (swAt c.ss p.sw).id true f hf
    by_cases hk3 : f.kind = 3
    case neg =>
      rw [if_pos (.inl hk3)]
      repeat' (first | (apply X.loE; (· exact aR); (· first | exact .callL rfl rfl rfl (by first | exact c1 | exact c2 | exact ca) rfl | exact bl (c1) | exact bl (c2) | exact bl (ca))) | refine X.loc ?_ | (refine X.cdT ?_ rfl (by first |(simp only [Bool.not_false, Bool.true_or, Bool.or_true]; done) |(simp only [Bool.not_true, Bool.not_false, Bool.false_or, Bool.or_false, Bool.true_or, Bool.or_eq_true, bne_iff_ne, ne_eq]; omega) |fail)) | (refine X.cdF ?_ rfl (by first |(simp only [Bool.not_true, Bool.false_or, Bool.or_false, Bool.or_eq_false_iff, bne_eq_false_iff_eq]; omega) |fail)) | refine nx ?_ | refine X.cdT ?_ | refine X.cdF ?_ | (refine WP.condBit rfl ?_ ?_) | (refine WP.cond rfl ?_ ?_ <;> intro hcond) | (apply X.gsE; (· exact aR); (· exact aV); (· exact aW); (· intro hc; first | exact .callG rfl rfl rfl (by first | exact c1 | exact c2 | exact ca) rfl | exact bg (c1) | exact bg (c2) | exact bg (ca)); (· exact aR)) | refine rb ?_ | refine nd ?_ | refine dk ?_ | fail)
      refine .ofL (s' := ⟨[(8, .osl 7)], [(7, .row 140 10 0 [])]⟩) (by first | exact .inl rfl | exact .inr rfl) ?_ rfl rfl (by repeat' (first | exact trivial | refine ⟨⟨_, rfl, fun _ _ _ _ h => h⟩, ?_⟩))
      refine St.to [(7, .nil)] [] rfl rfl ?_ ?_ <;> (repeat' (first | exact tA | refine t1 ?_ | exact tB | refine t2 ?_ ?_ | refine t3 ?_ | refine t4 ?_ ?_ | refine .ofEq ?_ | refine OB.To.cut rfl rfl ?_ ?_ ?_ ?_ | refine OB.To.box rfl rfl ?_ | refine ⟨⟨_, rfl, ?_⟩, ?_⟩ | refine ⟨?_, ?_⟩ | fail))
    cases ha : allowB c (swAt c.ss p.sw).id true f.ipSrc f.ipDst f.port with
    | false =>
      rw [ha] at ca
      rw [if_pos (.inr rfl)]
      repeat' (first | (apply X.loE; (· exact aR); (· first | exact .callL rfl rfl rfl (by first | exact c1 | exact c2 | exact ca) rfl | exact bl (c1) | exact bl (c2) | exact bl (ca))) | refine X.loc ?_ | (refine X.cdT ?_ rfl (by first |(simp only [Bool.not_false, Bool.true_or, Bool.or_true]; done) |(simp only [Bool.not_true, Bool.not_false, Bool.false_or, Bool.or_false, Bool.true_or, Bool.or_eq_true, bne_iff_ne, ne_eq]; omega) |fail)) | (refine X.cdF ?_ rfl (by first |(simp only [Bool.not_true, Bool.false_or, Bool.or_false, Bool.or_eq_false_iff, bne_eq_false_iff_eq]; omega) |fail)) | refine nx ?_ | refine X.cdT ?_ | refine X.cdF ?_ | (refine WP.condBit rfl ?_ ?_) | (refine WP.cond rfl ?_ ?_ <;> intro hcond) | (apply X.gsE; (· exact aR); (· exact aV); (· exact aW); (· intro hc; first | exact .callG rfl rfl rfl (by first | exact c1 | exact c2 | exact ca) rfl | exact bg (c1) | exact bg (c2) | exact bg (ca)); (· exact aR)) | refine rb ?_ | refine nd ?_ | refine dk ?_ | fail)
      refine .ofL (s' := ⟨[(8, .osl 7)], [(7, .row 140 10 0 [])]⟩) (by first | exact .inl rfl | exact .inr rfl) ?_ rfl rfl (by repeat' (first | exact trivial | refine ⟨⟨_, rfl, fun _ _ _ _ h => h⟩, ?_⟩))
      refine St.to [(7, .nil)] [] rfl rfl ?_ ?_ <;> (repeat' (first | exact tA | refine t1 ?_ | exact tB | refine t2 ?_ ?_ | refine t3 ?_ | refine t4 ?_ ?_ | refine .ofEq ?_ | refine OB.To.cut rfl rfl ?_ ?_ ?_ ?_ | refine OB.To.box rfl rfl ?_ | refine ⟨⟨_, rfl, ?_⟩, ?_⟩ | refine ⟨?_, ?_⟩ | fail))
    | true =>
      rw [ha] at ca
      rw [if_neg (by simp [hk3])]
      have hgl := fun k => flat_len_le (f := goalQ c p f) (goalQ_len c p f) hpl k
      have hQ : ∀ q, goalQ c p f q = if q.ch < 0 then [] else
          (if q.sw = (swAt c.ss p.sw).id ∧ q.id ≠ p.id ∧ (f.dst = 65535 ∨ f.dst = q.mac) then [⟨(swAt c.ss p.sw).id, q.id, f⟩] else []) ++
          (if 0 < (swAt c.ss p.sw).gate ∧ f.dst = 60000 + (swAt c.ss p.sw).id ∧ 1 < f.ttl ∧ (swAt c.ss q.sw).tenant = (swAt c.ss p.sw).tenant ∧ 0 < (swAt c.ss q.sw).gate ∧ q.ip = f.ipDst then [⟨(swAt c.ss q.sw).id, q.id, ledFr f q (swAt c.ss q.sw)⟩] else []) := fun _ => rfl
      generalize goalQ c p f = Q at *
      generalize swAt c.ss p.sw = s at *
      repeat' (first | (apply X.loE; (· exact aR); (· first | exact .callL rfl rfl rfl (by first | exact c1 | exact c2 | exact ca) rfl | exact bl (c1) | exact bl (c2) | exact bl (ca))) | refine X.loc ?_ | (refine X.cdT ?_ rfl (by first |(simp only [Bool.not_false, Bool.true_or, Bool.or_true]; done) |(simp only [Bool.not_true, Bool.not_false, Bool.false_or, Bool.or_false, Bool.true_or, Bool.or_eq_true, bne_iff_ne, ne_eq]; omega) |fail)) | (refine X.cdF ?_ rfl (by first |(simp only [Bool.not_true, Bool.false_or, Bool.or_false, Bool.or_eq_false_iff, bne_eq_false_iff_eq]; omega) |fail)) | refine nx ?_ | refine X.cdT ?_ | refine X.cdF ?_ | (refine WP.condBit rfl ?_ ?_) | (refine WP.cond rfl ?_ ?_ <;> intro hcond) | (apply X.gsE; (· exact aR); (· exact aV); (· exact aW); (· intro hc; first | exact .callG rfl rfl rfl (by first | exact c1 | exact c2 | exact ca) rfl | exact bg (c1) | exact bg (c2) | exact bg (ca)); (· exact aR)) | refine rb ?_ | refine nd ?_ | refine dk ?_ | fail)
      refine WP.loop (ι := Nat) (fun k => ⟨[(2, .fv (.int .i64 id)), (4, .optr 4 0), (7, .optr 7 0), (9, .optr 9 0), (11, .optr 11 0), (16, .osl 900), (17, .fv (.int .i64 k))], [(4, .box 26 ((encCf c).map .fv)), (7, .box 28 ((encFr f).map .fv)), (9, .box 69 ((encPo p).map .fv)), (11, .box 44 ((encSw s).map .fv)), (900, .row 140 10 ((c.ps.take k).flatMap Q).length ((((c.ps.take k).flatMap Q).flatMap encGl).map .fv))]⟩) (fun k => k ≤ c.ps.length) (fun k => c.ps.length - k) 0 (by omega) ?_ ?_
      · try dsimp only
        rw [List.take_zero, List.flatMap_nil]
        refine St.to [(900, .nil)] [] rfl rfl ?_ ?_ <;> (repeat' (first | exact tA | refine t1 ?_ | exact tB | refine t2 ?_ ?_ | refine t3 ?_ | refine t4 ?_ ?_ | refine .ofEq ?_ | refine OB.To.cut rfl rfl ?_ ?_ ?_ ?_ | refine OB.To.box rfl rfl ?_ | refine ⟨⟨_, rfl, ?_⟩, ?_⟩ | refine ⟨?_, ?_⟩ | fail))
      rintro k hk
      try dsimp only
      have hOl := hgl k
      by_cases hlt : k < c.ps.length
      case neg =>
        rw [List.take_of_length_le (by omega)]
        generalize c.ps.flatMap Q = O at *
        repeat' (first | refine X.loc ?_ | refine nx ?_ | refine X.cdT ?_ | refine X.cdF ?_ | (refine WP.condBit rfl ?_ ?_) | (refine WP.cond rfl ?_ ?_ <;> intro hcond) | refine rb ?_ | refine nd ?_ | refine dk ?_ | fail)
        refine .ofL (s' := ⟨[(8, .osl 7)], [(7, .row 140 10 O.length ((O.flatMap encGl).map .fv))]⟩) (by first | exact .inl rfl | exact .inr rfl) ?_ rfl rfl (by repeat' (first | exact trivial | refine ⟨⟨_, rfl, fun _ _ _ _ h => h⟩, ?_⟩))
        refine St.to [(7, .id 900)] [] rfl rfl ?_ ?_ <;> (repeat' (first | exact tA | refine t1 ?_ | exact tB | refine t2 ?_ ?_ | refine t3 ?_ | refine t4 ?_ ?_ | refine .ofEq ?_ | refine OB.To.cut rfl rfl ?_ ?_ ?_ ?_ | refine OB.To.box rfl rfl ?_ | refine ⟨⟨_, rfl, ?_⟩, ?_⟩ | refine ⟨?_, ?_⟩ | fail))
      case pos =>
        obtain ⟨x, hx⟩ : ∃ x, c.ps[k]? = some x := ⟨_, List.getElem?_eq_getElem hlt⟩
        have hxm := List.mem_of_getElem? hx
        have c3 := switchOf_T c x.sw hc.small
        have es : swOf c.ss x.sw = swAt c.ss x.sw := rfl
        rw [es] at c3
        have ht := hc.swIn hxm
        have htr := hc.sr _ ht.1
        unfold SwR at htr
        have hsn := flat_succ [] Q hx
        rw [List.nil_append, List.nil_append, hQ x] at hsn
        generalize (c.ps.take k).flatMap Q = O at *
        generalize swAt c.ss x.sw = t at *
        by_cases hx0 : x.ch < 0
        · rw [if_pos hx0, List.append_nil] at hsn
          repeat' (first | (apply X.loE; (· exact aR); (· first | (exact .eff (.idxS rfl rfl rfl encPo_len hx)) | exact .callL rfl rfl rfl (c3) rfl | exact bl (c3))) | refine X.loc ?_ | refine nx ?_ | refine X.cdT ?_ | refine X.cdF ?_ | (refine WP.condBit rfl ?_ ?_) | (refine WP.cond rfl ?_ ?_ <;> intro hcond) | (apply X.gsE; (· exact aR); (· exact aV); (· exact aW); (· intro hc; first | (exact .eff (.idxS rfl rfl rfl encPo_len hx)) | exact .callG rfl rfl rfl (c3) rfl | exact bg (c3)); (· exact aR)) | refine rb ?_ | refine nd ?_ | refine dk ?_ | fail)
          refine ⟨k + 1, by omega, by omega, ?_⟩
          try dsimp only
          rw [hsn]
          refine St.to [] [] rfl rfl ?_ ?_ <;> (repeat' (first | exact tA | refine t1 ?_ | exact tB | refine t2 ?_ ?_ | refine t3 ?_ | refine t4 ?_ ?_ | refine .ofEq ?_ | refine OB.To.cut rfl rfl ?_ ?_ ?_ ?_ | refine OB.To.box rfl rfl ?_ | refine ⟨⟨_, rfl, ?_⟩, ?_⟩ | refine ⟨?_, ?_⟩ | fail))
        rw [if_neg hx0] at hsn
        by_cases h1 : x.sw = s.id ∧ x.id ≠ p.id ∧ (f.dst = 65535 ∨ f.dst = x.mac)
        · have n2 : ¬ (0 < s.gate ∧ f.dst = 60000 + s.id ∧ 1 < f.ttl ∧ t.tenant = s.tenant ∧ 0 < t.gate ∧ x.ip = f.ipDst) := fun h => by
            have := (hc.pg x hxm).1.2.1
            rcases h1.2.2 with h3 | h3 <;> omega
          rw [if_pos h1, if_neg n2, List.append_nil] at hsn
          repeat' (first | (apply X.loE; (· exact aR); (· first | (exact .eff (.idxS rfl rfl rfl encPo_len hx)) | exact .callL rfl rfl rfl (c3) rfl | exact bl (c3))) | refine X.loc ?_ | refine nx ?_ | refine X.cdT ?_ | refine X.cdF ?_ | (refine WP.condBit rfl ?_ ?_) | (refine WP.cond rfl ?_ ?_ <;> intro hcond) | (apply X.gsE; (· exact aR); (· exact aV); (· exact aW); (· intro hc; first | (exact .eff (.idxS rfl rfl rfl encPo_len hx)) | exact .callG rfl rfl rfl (c3) rfl | exact bg (c3)); (· exact aR)) | refine rb ?_ | refine nd ?_ | refine dk ?_ | fail)
          refine ⟨k + 1, by omega, by omega, ?_⟩
          try dsimp only
          rw [hsn]
          refine St.to [(900, .id 190)] [] rfl rfl ?_ ?_ <;> (repeat' (first | exact tA | refine t1 ?_ | exact tB | refine t2 ?_ ?_ | refine t3 ?_ | refine t4 ?_ ?_ | refine .ofEq ?_ | refine OB.To.cut rfl rfl ?_ ?_ ?_ ?_ | refine OB.To.box rfl rfl ?_ | refine ⟨⟨_, rfl, ?_⟩, ?_⟩ | refine ⟨?_, ?_⟩ | fail))
          all_goals first | omega | (simp; done) | (simp only [List.flatMap_append, List.map_append]; rfl)
        · rw [if_neg h1, List.nil_append] at hsn
          by_cases h2 : 0 < s.gate ∧ f.dst = 60000 + s.id ∧ 1 < f.ttl ∧ t.tenant = s.tenant ∧ 0 < t.gate ∧ x.ip = f.ipDst
          · rw [if_pos h2] at hsn
            unfold ledFr at hsn
            repeat' (first | (apply X.loE; (· exact aR); (· first | (exact .eff (.idxS rfl rfl rfl encPo_len hx)) | exact .callL rfl rfl rfl (c3) rfl | exact bl (c3))) | refine X.loc ?_ | refine nx ?_ | refine X.cdT ?_ | refine X.cdF ?_ | (refine WP.condBit rfl ?_ ?_) | (refine WP.cond rfl ?_ ?_ <;> intro hcond) | (apply X.gsE; (· exact aR); (· exact aV); (· exact aW); (· intro hc; first | (exact .eff (.idxS rfl rfl rfl encPo_len hx)) | exact .callG rfl rfl rfl (c3) rfl | exact bg (c3)); (· exact aR)) | refine rb ?_ | refine nd ?_ | refine dk ?_ | fail)
            refine ⟨k + 1, by omega, by omega, ?_⟩
            try dsimp only
            rw [hsn]
            refine St.to [(900, .id 246)] [] rfl rfl ?_ ?_ <;> (repeat' (first | exact tA | refine t1 ?_ | exact tB | refine t2 ?_ ?_ | refine t3 ?_ | refine t4 ?_ ?_ | refine .ofEq ?_ | refine OB.To.cut rfl rfl ?_ ?_ ?_ ?_ | refine OB.To.box rfl rfl ?_ | refine ⟨⟨_, rfl, ?_⟩, ?_⟩ | refine ⟨?_, ?_⟩ | fail))
            all_goals first | omega | (simp; done) | (simp only [List.flatMap_append, List.map_append]; rfl)
          · rw [if_neg h2, List.append_nil] at hsn
            repeat' (first | (apply X.loE; (· exact aR); (· first | (exact .eff (.idxS rfl rfl rfl encPo_len hx)) | exact .callL rfl rfl rfl (c3) rfl | exact bl (c3))) | refine X.loc ?_ | refine nx ?_ | refine X.cdT ?_ | refine X.cdF ?_ | (refine WP.condBit rfl ?_ ?_) | (refine WP.cond rfl ?_ ?_ <;> intro hcond) | (apply X.gsE; (· exact aR); (· exact aV); (· exact aW); (· intro hc; first | (exact .eff (.idxS rfl rfl rfl encPo_len hx)) | exact .callG rfl rfl rfl (c3) rfl | exact bg (c3)); (· exact aR)) | refine rb ?_ | refine nd ?_ | refine dk ?_ | fail)
            refine ⟨k + 1, by omega, by omega, ?_⟩
            try dsimp only
            rw [hsn]
            refine St.to [] [] rfl rfl ?_ ?_ <;> (repeat' (first | exact tA | refine t1 ?_ | exact tB | refine t2 ?_ ?_ | refine t3 ?_ | refine t4 ?_ ?_ | refine .ofEq ?_ | refine OB.To.cut rfl rfl ?_ ?_ ?_ ?_ | refine OB.To.box rfl rfl ?_ | refine ⟨⟨_, rfl, ?_⟩, ?_⟩ | refine ⟨?_, ?_⟩ | fail))
theorem ledOf_T (c : Cf) (hc : CfOk c) (ch id : Int) (f : Fr) (hf : FrMay f) : Fun Tryz.prog 82 [.agg ((encCf c).map .fv), .fv (.int .i64 ch), .fv (.int .i64 id), .agg ((encFr f).map .fv)] (.fv (slOf encGl (ledF c ch id f))) :=
  (ledOf0_T c hc ch id f hf).froz [7] (.frz rfl rfl rfl)
set_option maxHeartbeats 4000000 in
theorem comes_T (c : Cf) (hc : CfOk c) (ch : Int) (g : Gl) (hg : FrMay g.is) : Fun Tryz.prog 83 [.agg ((encCf c).map .fv), .fv (.int .i64 ch), .agg ((encGl g).map .fv)] (.fv (.bool (comesG c ch g))) := by
  have c1 := portOf_T c g.to hc.small
  rw [po_any] at c1
  have ep : (c.ps.find? fun p => p.id == g.to) = poAt c g.to := rfl
  rw [ep] at c1
  have ca := allows_T c hc g.net false g.is hg
  refine Fun.body tbl_ok Tryz.func83 rfl (by kernel_rfl) rfl rfl rfl ?_
  unfold comesG
  cases hpo : poAt c g.to with
  | none =>
    rw [hpo] at c1
    simp only [Option.getD_some, Option.getD_none, Option.isSome_some, Option.isSome_none] at c1
    repeat' (first | (apply X.loE; (· exact aR); (· first | exact .callL rfl rfl rfl (c1) rfl | exact bl (c1))) | refine X.loc ?_ | (refine X.cdT ?_ rfl (by first |(simp only [Bool.not_false, Bool.true_or, Bool.or_true]; done) |(simp only [Bool.not_true, Bool.not_false, Bool.false_or, Bool.or_false, Bool.true_or, Bool.or_eq_true, bne_iff_ne, ne_eq]; omega) |fail)) | (refine X.cdF ?_ rfl (by first |(simp only [Bool.not_true, Bool.false_or, Bool.or_false, Bool.or_eq_false_iff, bne_eq_false_iff_eq]; omega) |fail)) | refine nx ?_ | refine X.cdT ?_ | refine X.cdF ?_ | (refine WP.condBit rfl ?_ ?_) | (refine WP.cond rfl ?_ ?_ <;> intro hcond) | (apply X.gsE; (· exact aR); (· exact aV); (· exact aW); (· intro hc; first | exact .callG rfl rfl rfl (c1) rfl | exact bg (c1)); (· exact aR)) | refine rb ?_ | refine nd ?_ | refine dk ?_ | fail)
    exact .f1 (.inl rfl) rfl rfl
  | some q =>
    rw [hpo] at c1
    simp only [Option.getD_some, Option.getD_none, Option.isSome_some, Option.isSome_none] at c1
    try dsimp only
    generalize allowB c g.net false g.is.ipSrc g.is.ipDst g.is.port = b at *
    by_cases h1 : q.ch = ch ∧ q.sw = g.net
    · have e1 : (q.ch == ch && (q.sw == g.net && (g.is.kind == 2 || b))) = (g.is.kind == 2 || b) := by simp [h1]
      rw [e1]
      repeat' (first | (apply X.loE; (· exact aR); (· first | exact .callL rfl rfl rfl (by first | exact c1 | exact ca) rfl | exact bl (c1) | exact bl (ca))) | refine X.loc ?_ | (refine X.cdT ?_ rfl (by first |(simp only [Bool.not_false, Bool.true_or, Bool.or_true]; done) |(simp only [Bool.not_true, Bool.not_false, Bool.false_or, Bool.or_false, Bool.true_or, Bool.or_eq_true, bne_iff_ne, ne_eq]; omega) |fail)) | (refine X.cdF ?_ rfl (by first |(simp only [Bool.not_true, Bool.false_or, Bool.or_false, Bool.or_eq_false_iff, bne_eq_false_iff_eq]; omega) |fail)) | refine nx ?_ | refine X.cdT ?_ | refine X.cdF ?_ | (refine WP.condBit rfl ?_ ?_) | (refine WP.cond rfl ?_ ?_ <;> intro hcond) | (apply X.gsE; (· exact aR); (· exact aV); (· exact aW); (· intro hc; first | exact .callG rfl rfl rfl (by first | exact c1 | exact ca) rfl | exact bg (c1) | exact bg (ca)); (· exact aR)) | refine rb ?_ | refine nd ?_ | refine dk ?_ | fail)
      exact .f1 (.inl rfl) rfl rfl
    · have e1 : (q.ch == ch && (q.sw == g.net && (g.is.kind == 2 || b))) = false := by
        rw [Bool.eq_false_iff]
        intro h
        simp only [Bool.and_eq_true, beq_iff_eq] at h
        exact h1 ⟨h.1, h.2.1⟩
      rw [e1]
      repeat' (first | (apply X.loE; (· exact aR); (· first | exact .callL rfl rfl rfl (by first | exact c1 | exact ca) rfl | exact bl (c1) | exact bl (ca))) | refine X.loc ?_ | (refine X.cdT ?_ rfl (by first |(simp only [Bool.not_false, Bool.true_or, Bool.or_true]; done) |(simp only [Bool.not_true, Bool.not_false, Bool.false_or, Bool.or_false, Bool.true_or, Bool.or_eq_true, bne_iff_ne, ne_eq]; omega) |fail)) | (refine X.cdF ?_ rfl (by first |(simp only [Bool.not_true, Bool.false_or, Bool.or_false, Bool.or_eq_false_iff, bne_eq_false_iff_eq]; omega) |fail)) | refine nx ?_ | refine X.cdT ?_ | refine X.cdF ?_ | (refine WP.condBit rfl ?_ ?_) | (refine WP.cond rfl ?_ ?_ <;> intro hcond) | (apply X.gsE; (· exact aR); (· exact aV); (· exact aW); (· intro hc; first | exact .callG rfl rfl rfl (by first | exact c1 | exact ca) rfl | exact bg (c1) | exact bg (ca)); (· exact aR)) | refine rb ?_ | refine nd ?_ | refine dk ?_ | fail)
      exact .f1 (.inl rfl) rfl rfl
end Go.Proofs.YtmidechdlbcepaaGreat

namespace Go.Proofs.YtmidechdlbcepaaGreat
open Go.RowKit
set_option maxRecDepth 100000

theorem encCf_len (c : Cf) : (encCf c).length = 3 := rfl
def ksOf (K : Kn) : List Cf := K.map cfK
theorem ksOf_at {K : Kn} {n : Nat} (h : n < K.length) : (ksOf K)[n]? = some (cfAt K n) := by
  unfold ksOf cfAt
  rw [List.getElem?_map, Int.toNat_natCast, List.getD_eq_getElem?_getD, List.getElem?_eq_getElem h]
  rfl
theorem readCf {l : List Cf} {i off : Nat} {x : Cf} (h : off = i * 3) (hx : l[i]? = some x) : readA tbl 26 off ((l.flatMap encCf).map .fv) = some (.agg ((encCf x).map .fv)) := by
  unfold readA
  rw [readE encCf_len h hx]
  generalize ((l.drop (i + 1)).flatMap encCf).map AV.fv = r
  cases r with
  | nil => rfl
  | cons a r => rfl
theorem led_len (c : Cf) (hc : CfOk c) (ch id : Int) (f : Fr) : (ledF c ch id f).length ≤ 80 := by
  have hpl := hc.pl
  unfold ledF
  split
  · simp
  · split
    · simp
    · split
      · unfold askG
        split
        · simp
        · split <;> simp
      · rename_i p _ _ _
        unfold dataG
        split
        · simp
        · have := flat_bound (f := goalQ c p f) (n := 2) (l := c.ps) fun q _ => goalQ_len c p f q
          omega
def arrN (K : Kn) (ch : Int) (n : Nat) (g : Gl) : List Ar := if g.to = (n : Int) then arrG K ch g else []
theorem arrN_len (K : Kn) (ch : Int) (n : Nat) (g : Gl) : (arrN K ch n g).length ≤ 1 := by
  unfold arrN arrG
  split
  · split
    · split <;> simp
    · simp
  · simp
set_option maxHeartbeats 16000000 in
theorem sentOf_T (K : Kn) (hK : KnOk K) (h6 : K.length = 6) (ch id : Int) (hch : 0 ≤ ch ∧ ch ≤ 5) (f : Fr) (hff : frameFault f = 0) : FunO Tryz.prog 50 [.osl 1000, .fv (.int .i64 ch), .fv (.int .i64 id), .agg ((encFr f).map .fv)] [(1000, .row 26 3 (ksOf K).length (((ksOf K).flatMap encCf).map .fv))] (.osl 7) [(7, .row 41 9 (sentOfF K ch id f).length (((sentOfF K ch id f).flatMap encAr).map .fv)), (1000, .row 26 3 (ksOf K).length (((ksOf K).flatMap encCf).map .fv))] := by
  have hf := frMay hff
  obtain ⟨m, rfl⟩ := Int.eq_ofNat_of_zero_le hch.1
  have hks := ksOf_at (K := K) (n := m) (by omega)
  have hkl : (ksOf K).length = 6 := by unfold ksOf; rw [List.length_map]; exact h6
  have c1 := ledOf_T (cfAt K m) (hK.cf m) m id f hf
  have hG : ∀ g ∈ ledF (cfAt K m) m id f, GlOk (cfAt K m) g := fun g hg => led_ok (hK.cf m) hch hff hg
  have hGl := led_len (cfAt K m) (hK.cf m) m id f
  have hsm := (hK.cf m).small
  have es : sentOfF K m id f = (List.range 1000).flatMap fun n : Nat => (ledF (cfAt K m) m id f).flatMap (arrN K m n) := rfl
  rw [es]
  have hP := fun n g => arrN_len K m n g
  have hA : ∀ n g, arrN K m n g = if g.to = (n : Int) then (match poAt (cfAt K m) g.to with | some q => if comesG (cfAt K q.ch) q.ch g = true then [⟨g.to, g.is⟩] else [] | none => []) else [] := fun _ _ => rfl
  generalize arrN K m = F at *
  generalize ledF (cfAt K m) m id f = G at *
  have hFl : ∀ n, (G.flatMap (F n)).length ≤ 80 := fun n => by
    have := flat_bound (f := F n) (n := 1) (l := G) fun g _ => hP n g
    omega
  have hOl := fun k : Nat => flat_bound (f := fun n => G.flatMap (F n)) (n := 80) (l := List.range k) fun n _ => hFl n
  refine FunO.bodyL tbl_ok Tryz.func50 rfl (by kernel_rfl) rfl rfl rfl ?_
  repeat' (first | (apply X.loE; (· exact aR); (· first | (exact .eff (.loadO rfl rfl (readCf (i := m) (by omega) hks))) | exact .callL rfl rfl rfl (c1) rfl | exact bl (c1))) | refine X.loc ?_ | refine nx ?_ | refine X.cdT ?_ | refine X.cdF ?_ | (refine WP.condBit rfl ?_ ?_) | (refine WP.cond rfl ?_ ?_ <;> intro hcond) | (apply X.gsE; (· exact aR); (· exact aV); (· exact aW); (· intro hc; first | (exact .eff (.loadO rfl rfl (readCf (i := m) (by omega) hks))) | exact .callG rfl rfl rfl (c1) rfl | exact bg (c1)); (· exact aR)) | refine rb ?_ | refine nd ?_ | refine dk ?_ | fail)
  refine WP.loop (ι := Nat) (fun n => ⟨[(0, .osl 1000), (1, .fv (.int .i64 m)), (2, .fv (.int .i64 id)), (9, .fv (slOf encGl G)), (10, .osl 900), (11, .fv (.int .i64 n))], [(1000, .row 26 3 (ksOf K).length (((ksOf K).flatMap encCf).map .fv)), (900, .row 41 9 ((List.range n).flatMap fun n => G.flatMap (F n)).length ((((List.range n).flatMap fun n => G.flatMap (F n)).flatMap encAr).map .fv))]⟩) (fun n => n ≤ 1000) (fun n => 1000 - n) 0 (by omega) ?_ ?_
  · try dsimp only
    rw [List.range_zero, List.flatMap_nil]
    refine St.to [(900, .nil)] [] rfl rfl ?_ ?_ <;> (repeat' (first | exact tA | refine t1 ?_ | exact tB | refine t2 ?_ ?_ | refine t3 ?_ | refine t4 ?_ ?_ | refine .ofEq ?_ | refine OB.To.cut rfl rfl ?_ ?_ ?_ ?_ | refine OB.To.box rfl rfl ?_ | refine ⟨⟨_, rfl, ?_⟩, ?_⟩ | refine ⟨?_, ?_⟩ | fail))
  rintro n hn
  try dsimp only
  by_cases hlt : n < 1000
  case neg =>
    obtain rfl : n = 1000 := by omega
    generalize ((List.range 1000).flatMap fun n : Nat => G.flatMap (F n)) = O at *
    repeat' (first | refine X.loc ?_ | refine nx ?_ | refine X.cdT ?_ | refine X.cdF ?_ | (refine WP.condBit rfl ?_ ?_) | (refine WP.cond rfl ?_ ?_ <;> intro hcond) | refine rb ?_ | refine nd ?_ | refine dk ?_ | fail)
    refine .ofL (s' := ⟨[(8, .osl 7)], [(7, .row 41 9 O.length ((O.flatMap encAr).map .fv)), (1000, .row 26 3 (ksOf K).length (((ksOf K).flatMap encCf).map .fv))]⟩) (by first | exact .inl rfl | exact .inr rfl) ?_ rfl rfl (by repeat' (first | exact trivial | refine ⟨⟨_, rfl, fun _ _ _ _ h => h⟩, ?_⟩))
    refine St.to [(7, .id 900)] [] rfl rfl ?_ ?_ <;> (repeat' (first | exact tA | refine t1 ?_ | exact tB | refine t2 ?_ ?_ | refine t3 ?_ | refine t4 ?_ ?_ | refine .ofEq ?_ | refine OB.To.cut rfl rfl ?_ ?_ ?_ ?_ | refine OB.To.box rfl rfl ?_ | refine ⟨⟨_, rfl, ?_⟩, ?_⟩ | refine ⟨?_, ?_⟩ | fail))
  case pos =>
    have hon := hOl n
    rw [List.length_range] at hon
    have hsn : ((List.range (n + 1)).flatMap fun n => G.flatMap (F n)) = ((List.range n).flatMap fun n => G.flatMap (F n)) ++ G.flatMap (F n) := by
      rw [List.range_succ, List.flatMap_append, List.flatMap_singleton]
    generalize ((List.range n).flatMap fun n => G.flatMap (F n)) = O at *
    repeat' (first | refine X.loc ?_ | refine nx ?_ | refine X.cdT ?_ | refine X.cdF ?_ | (refine WP.condBit rfl ?_ ?_) | (refine WP.cond rfl ?_ ?_ <;> intro hcond) | refine rb ?_ | refine nd ?_ | refine dk ?_ | fail)
    refine WP.loop (ι := Nat) (fun k => ⟨[(0, .osl 1000), (1, .fv (.int .i64 m)), (2, .fv (.int .i64 id)), (9, .fv (slOf encGl G)), (10, .osl 901), (11, .fv (.int .i64 n)), (12, .fv (.int .i64 k))], [(1000, .row 26 3 (ksOf K).length (((ksOf K).flatMap encCf).map .fv)), (901, .row 41 9 (O ++ (G.take k).flatMap (F n)).length (((O ++ (G.take k).flatMap (F n)).flatMap encAr).map .fv))]⟩) (fun k => k ≤ G.length) (fun k => G.length - k) 0 (by omega) ?_ ?_
    · try dsimp only
      rw [List.take_zero, List.flatMap_nil, List.append_nil]
      refine St.to [(901, .id 900)] [] rfl rfl ?_ ?_ <;> (repeat' (first | exact tA | refine t1 ?_ | exact tB | refine t2 ?_ ?_ | refine t3 ?_ | refine t4 ?_ ?_ | refine .ofEq ?_ | refine OB.To.cut rfl rfl ?_ ?_ ?_ ?_ | refine OB.To.box rfl rfl ?_ | refine ⟨⟨_, rfl, ?_⟩, ?_⟩ | refine ⟨?_, ?_⟩ | fail))
    rintro k hk
    try dsimp only
    by_cases hk2 : k < G.length
    case neg =>
      rw [List.take_of_length_le (by omega)]
      generalize (O ++ G.flatMap (F n)) = O2 at *
      repeat' (first | refine X.loc ?_ | refine nx ?_ | refine X.cdT ?_ | refine X.cdF ?_ | (refine WP.condBit rfl ?_ ?_) | (refine WP.cond rfl ?_ ?_ <;> intro hcond) | refine rb ?_ | refine nd ?_ | refine dk ?_ | fail)
      refine ⟨n + 1, by omega, by omega, ?_⟩
      try dsimp only
      rw [hsn]
      refine St.to [(900, .id 901)] [] rfl rfl ?_ ?_ <;> (repeat' (first | exact tA | refine t1 ?_ | exact tB | refine t2 ?_ ?_ | refine t3 ?_ | refine t4 ?_ ?_ | refine .ofEq ?_ | refine OB.To.cut rfl rfl ?_ ?_ ?_ ?_ | refine OB.To.box rfl rfl ?_ | refine ⟨⟨_, rfl, ?_⟩, ?_⟩ | refine ⟨?_, ?_⟩ | fail))
    case pos =>
      obtain ⟨g, hg⟩ : ∃ g, G[k]? = some g := ⟨_, List.getElem?_eq_getElem hk2⟩
      have hgo := hG g (List.mem_of_getElem? hg)
      have hk3 := flat_bound (f := F n) (n := 1) (l := G.take k) fun g _ => hP n g
      rw [List.length_take] at hk3
      have hsk := flat_succ O (F n) hg
      rw [hA n g] at hsk
      have hql : (O ++ (G.take k).flatMap (F n)).length ≤ 80100 := by
        rw [List.length_append]
        omega
      generalize (O ++ (G.take k).flatMap (F n)) = Q at *
      by_cases hto : g.to = (n : Int)
      case neg =>
        rw [if_neg hto, List.append_nil] at hsk
        repeat' (first | (apply X.loE; (· exact aR); (· first | (exact .eff (.idxS rfl rfl rfl encGl_len hg)))) | refine X.loc ?_ | refine nx ?_ | refine X.cdT ?_ | refine X.cdF ?_ | (refine WP.condBit rfl ?_ ?_) | (refine WP.cond rfl ?_ ?_ <;> intro hcond) | (apply X.gsE; (· exact aR); (· exact aV); (· exact aW); (· intro hc; first | (exact .eff (.idxS rfl rfl rfl encGl_len hg))); (· exact aR)) | refine rb ?_ | refine nd ?_ | refine dk ?_ | fail)
        refine ⟨k + 1, by omega, by omega, ?_⟩
        try dsimp only
        rw [hsk]
        refine St.to [] [] rfl rfl ?_ ?_ <;> (repeat' (first | exact tA | refine t1 ?_ | exact tB | refine t2 ?_ ?_ | refine t3 ?_ | refine t4 ?_ ?_ | refine .ofEq ?_ | refine OB.To.cut rfl rfl ?_ ?_ ?_ ?_ | refine OB.To.box rfl rfl ?_ | refine ⟨⟨_, rfl, ?_⟩, ?_⟩ | refine ⟨?_, ?_⟩ | fail))
      case pos =>
        rw [if_pos hto] at hsk
        obtain ⟨_, _, hgf, _, q, hq, hpo, hq0, hq5⟩ := hgo
        have c2 := portOf_T (cfAt K m) n hsm
        have ep : ((cfAt K m).ps.find? fun p => p.id == (n : Int)) = some q := by rw [← hto]; exact hpo
        rw [po_any, ← hto, hpo] at c2
        have ep2 : ((cfAt K m).ps.find? fun p => p.id == g.to) = some q := hpo
        rw [ep2, hto] at c2
        simp only [Option.getD_some, Option.isSome_some] at c2
        obtain ⟨j, hj⟩ := Int.eq_ofNat_of_zero_le hq0
        have hkq := ksOf_at (K := K) (n := j) (by omega)
        rw [← hj] at hkq
        have c3 := comes_T (cfAt K q.ch) (hK.cf q.ch) q.ch g (frMay hgf)
        rw [hpo] at hsk
        try dsimp only at hsk
        cases hb : comesG (cfAt K q.ch) q.ch g with
        | false =>
          rw [hb] at c3 hsk
          rw [if_neg (by decide), List.append_nil] at hsk
          repeat' (first | (apply X.loE; (· exact aR); (· first | (exact .eff (.idxS rfl rfl rfl encGl_len hg)) | (exact .eff (.loadO rfl rfl (readCf (i := m) (by omega) hks))) | (exact .eff (.loadO rfl rfl (readCf (i := j) (by omega) hkq))) | exact .callL rfl rfl rfl (by first | exact c2 | exact c3) rfl | exact bl (c2) | exact bl (c3))) | refine X.loc ?_ | refine nx ?_ | refine X.cdT ?_ | refine X.cdF ?_ | (refine WP.condBit rfl ?_ ?_) | (refine WP.cond rfl ?_ ?_ <;> intro hcond) | (apply X.gsE; (· exact aR); (· exact aV); (· exact aW); (· intro hc; first | (exact .eff (.idxS rfl rfl rfl encGl_len hg)) | (exact .eff (.loadO rfl rfl (readCf (i := m) (by omega) hks))) | (exact .eff (.loadO rfl rfl (readCf (i := j) (by omega) hkq))) | exact .callG rfl rfl rfl (by first | exact c2 | exact c3) rfl | exact bg (c2) | exact bg (c3)); (· exact aR)) | refine rb ?_ | refine nd ?_ | refine dk ?_ | fail)
          refine ⟨k + 1, by omega, by omega, ?_⟩
          try dsimp only
          rw [hsk]
          refine St.to [] [] rfl rfl ?_ ?_ <;> (repeat' (first | exact tA | refine t1 ?_ | exact tB | refine t2 ?_ ?_ | refine t3 ?_ | refine t4 ?_ ?_ | refine .ofEq ?_ | refine OB.To.cut rfl rfl ?_ ?_ ?_ ?_ | refine OB.To.box rfl rfl ?_ | refine ⟨⟨_, rfl, ?_⟩, ?_⟩ | refine ⟨?_, ?_⟩ | fail))
        | true =>
          rw [hb] at c3 hsk
          rw [if_pos rfl, hto] at hsk
          repeat' (first | (apply X.loE; (· exact aR); (· first | (exact .eff (.idxS rfl rfl rfl encGl_len hg)) | (exact .eff (.loadO rfl rfl (readCf (i := m) (by omega) hks))) | (exact .eff (.loadO rfl rfl (readCf (i := j) (by omega) hkq))) | exact .callL rfl rfl rfl (by first | exact c2 | exact c3) rfl | exact bl (c2) | exact bl (c3))) | refine X.loc ?_ | refine nx ?_ | refine X.cdT ?_ | refine X.cdF ?_ | (refine WP.condBit rfl ?_ ?_) | (refine WP.cond rfl ?_ ?_ <;> intro hcond) | (apply X.gsE; (· exact aR); (· exact aV); (· exact aW); (· intro hc; first | (exact .eff (.idxS rfl rfl rfl encGl_len hg)) | (exact .eff (.loadO rfl rfl (readCf (i := m) (by omega) hks))) | (exact .eff (.loadO rfl rfl (readCf (i := j) (by omega) hkq))) | exact .callG rfl rfl rfl (by first | exact c2 | exact c3) rfl | exact bg (c2) | exact bg (c3)); (· exact aR)) | refine rb ?_ | refine nd ?_ | refine dk ?_ | fail)
          refine ⟨k + 1, by omega, by omega, ?_⟩
          try dsimp only
          rw [hsk]
          refine St.to [(901, .id 70)] [] rfl rfl ?_ ?_ <;> (repeat' (first | exact tA | refine t1 ?_ | exact tB | refine t2 ?_ ?_ | refine t3 ?_ | refine t4 ?_ ?_ | refine .ofEq ?_ | refine OB.To.cut rfl rfl ?_ ?_ ?_ ?_ | refine OB.To.box rfl rfl ?_ | refine ⟨⟨_, rfl, ?_⟩, ?_⟩ | refine ⟨?_, ?_⟩ | fail))
          all_goals first | omega | (simp; done) | (simp only [List.flatMap_append, List.map_append]; rfl)
end Go.Proofs.YtmidechdlbcepaaGreat

namespace Go.Proofs.YtmidechdlbcepaaGreat
open Go.RowKit
set_option maxRecDepth 100000

theorem goalQ_one {c : Cf} (hc : CfOk c) {p q : Po} (hp : p ∈ c.ps) (hq : q ∈ c.ps) (f : Fr) : (goalQ c p f q).length ≤ 1 := by
  have hs := hc.swIn hp
  have hsr := (hc.sr _ hs.1).1
  have hqr := (hc.pg q hq).1.2.1
  unfold goalQ
  split
  · simp
  · by_cases h1 : q.sw = (swAt c.ss p.sw).id ∧ q.id ≠ p.id ∧ (f.dst = 65535 ∨ f.dst = q.mac)
    · rw [if_pos h1, if_neg (fun h => by rcases h1.2.2 with h3 | h3 <;> omega)]
      simp
    · rw [if_neg h1, List.nil_append]
      split <;> simp
theorem led_len40 {c : Cf} (hc : CfOk c) (ch id : Int) (f : Fr) : (ledF c ch id f).length ≤ 40 := by
  have hpl := hc.pl
  unfold ledF
  split
  · simp
  · rename_i p hpo
    split
    · simp
    · split
      · unfold askG
        split
        · simp
        · split <;> simp
      · unfold dataG
        split
        · simp
        · have := flat_bound (f := goalQ c p f) (n := 1) (l := c.ps) fun q hq => goalQ_one hc (poAt_mem hpo).1 hq f
          omega
section
theorem flsK_fault {K : Kn} (hK : KnOk K) {ch : Int} (hch : 0 ≤ ch ∧ ch ≤ 5) : flowsFault (flAt (flsK K) ch) = 0 := by
  have h := hK.at ch.toNat
  rw [flAt_K hch]
  cases hk : K.getD ch.toNat none with
  | none => rfl
  | some c => exact comp_fault (h c hk) hch
theorem send_ok {K : Kn} (hK : KnOk K) {ch : Int} (hch : 0 ≤ ch ∧ ch ≤ 5) {f : Fr} (hff : frameFault f = 0) {id : Int} (hid : 1 ≤ id ∧ id ≤ 65535) : SendOk (flsK K) ch (pkOf f id 0 0) := by
  have hcf := hK.cf ch
  have hS := sent_known hK hch hff hid
  have hG := fun g (hg : g ∈ ledF (cfAt K ch) ch id f) => led_ok hcf hch hff hg
  have hl := led_len40 hcf ch id f
  have hmem : ∀ s ∈ ranOf (flAt (flsK K) ch) (pkOf f id 0 0), ∃ g ∈ ledF (cfAt K ch) ch id f, s.p = pkG id g ∧ (s.kind = 5 ∨ (s.kind = 6 ∧ 0 ≤ s.n ∧ s.n ≤ 5)) := fun s hs => by
    rw [hS] at hs
    obtain ⟨g, hg, hgs⟩ := List.mem_filterMap.1 hs
    refine ⟨g, hg, ?_⟩
    obtain ⟨_, _, _, _, q, _, hpo, h5, h6⟩ := hG g hg
    unfold sentG at hgs
    rw [hpo] at hgs
    dsimp only at hgs
    split at hgs
    · split at hgs
      · obtain rfl := Option.some.inj hgs
        exact ⟨rfl, .inl rfl⟩
      · cases hgs
    · obtain rfl := Option.some.inj hgs
      exact ⟨rfl, .inr ⟨rfl, h5, h6⟩⟩
  refine ⟨⟨hch, flsK_fault hK hch, packet_ok (frMay hff) (by omega) (by omega) (by omega), fun s hs => ?_, ?_⟩, fun s hs h5 => ?_, fun x hx => ?_, ?_⟩
  · obtain ⟨g, hg, e, _⟩ := hmem s hs
    rw [e]
    exact (hG g hg).is
  · rw [hS]
    have := List.length_filterMap_le (sentG (cfAt K ch) ch id (floodB f)) (ledF (cfAt K ch) ch id f)
    omega
  · obtain ⟨g, hg, e, h⟩ := hmem s hs
    obtain ⟨g1, g2, g3, g4, _⟩ := hG g hg
    have h := h.resolve_left h5
    have ec := come_known hK (ch := s.n) h.2 (frMay g3) g1 (t := g.to) (by omega) (by omega)
    have e2 : pkOf (frOfP s.p) 0 s.p.f8 s.p.f9 = pkOf g.is 0 g.net g.to := by rw [e]; rfl
    refine ⟨by rw [e]; exact g1, by rw [e]; show 0 ≤ g.to ∧ g.to ≤ 65535; omega, ?_⟩
    rw [e2]
    refine ⟨h.2, flsK_fault hK h.2, packet_ok (frMay g3) (by omega) g1 (by omega), fun x hx => ?_, ?_⟩
    · rw [ec] at hx
      split at hx
      · obtain rfl := List.mem_singleton.1 hx
        exact g3
      · simp at hx
    · rw [ec]
      split <;> simp
  · rw [arr_led hK hch hff hid] at hx
    obtain ⟨g, hg, hx⟩ := List.mem_flatMap.1 hx
    have h1 := arrG_port hx
    have h2 := (hG g hg).to
    unfold ArR
    omega
  · rw [arr_led hK hch hff hid]
    have := flat_bound (f := arrG K ch) (n := 1) (l := ledF (cfAt K ch) ch id f) fun g _ => by
      unfold arrG
      split
      · split <;> simp
      · simp
    omega
theorem send_sorted {K : Kn} (hK : KnOk K) {ch : Int} (hch : 0 ≤ ch ∧ ch ≤ 5) {f : Fr} (hff : frameFault f = 0) {id : Int} (hid : 1 ≤ id ∧ id ≤ 65535) : AS.sortA (runF1 (flsK K) ch (pkOf f id 0 0)) = sentOfF K ch id f := by
  rw [arr_led hK hch hff hid]
  exact sorted_led hK hch hff
end
theorem pkE_id {f : Fr} {id : Int} (hid : 1 ≤ id ∧ id ≤ 65535) : pkE f id 0 0 = frameFault f := by
  unfold pkE
  split
  · rfl
  · rename_i h
    have h0 : frameFault f = 0 := by omega
    rw [packet_ok (frMay h0) (by omega) (by omega) (by omega), h0]
end Go.Proofs.YtmidechdlbcepaaGreat

namespace Go.Proofs.YtmidechdlbcepaaGreat
open Go.RowKit
set_option maxRecDepth 100000

def K6 (c : Cf) : Kn := [some c, some c, some c, some c, some c, some c]
theorem K6_ok {c : Cf} (h : CfOk c) : KnOk (K6 c) := ⟨fun k hk x hx => by
  simp only [K6, List.mem_cons, List.not_mem_nil, or_false, or_self] at hk
  subst hk
  obtain rfl := Option.some.inj hx
  exact h⟩
def delE (c : Cf) (id : Int) (f : Fr) : Int := if cfMay c = false then 8 else match poAt c id with
  | none => 6
  | some q => if q.ch < 0 then 6 else frameFault f
def delR (c : Cf) (id : Int) (f : Fr) : List Ar := if cfMay c = false then [] else match poAt c id with
  | none => []
  | some q => if q.ch < 0 then [] else if frameFault f ≠ 0 then [] else sentOfF (K6 c) q.ch id f
theorem sameCome_T (l : List Ar) (hl : l.length < 9223372036854775807) : Fun Tryz.prog 19 [.fv (slOf encAr l), .fv (slOf encAr l)] (.fv (.bool true)) := by
  refine Fun.body tbl_ok Tryz.func19 rfl (by kernel_rfl) rfl rfl rfl ?_
  repeat' (first | refine X.loc ?_ | refine nx ?_ | refine X.cdT ?_ | refine X.cdF ?_ | (refine WP.condBit rfl ?_ ?_) | (refine WP.cond rfl ?_ ?_ <;> intro hcond) | refine rb ?_ | refine nd ?_ | refine dk ?_ | fail)
  refine WP.loop (ι := Nat) (fun k => ⟨[(0, .fv (slOf encAr l)), (1, .fv (slOf encAr l)), (5, .fv (.int .i64 k))], []⟩) (fun k => k ≤ l.length) (fun k => l.length - k) 0 (by omega) ?_ ?_
  · skip
    refine St.le_of ?_ ?_ <;> (repeat' (first | exact trivial | refine ⟨⟨_, rfl, .refl _⟩, ?_⟩ | refine ⟨⟨_, rfl, .any _⟩, ?_⟩ | refine ⟨⟨_, rfl, .of_eq ?_⟩, ?_⟩ | refine ⟨⟨_, rfl, fun _ _ _ _ h => h⟩, ?_⟩ | fail))
  rintro k hk
  try dsimp only
  by_cases hlt : k < l.length
  case neg =>
    repeat' (first | refine X.loc ?_ | refine nx ?_ | refine X.cdT ?_ | refine X.cdF ?_ | (refine WP.condBit rfl ?_ ?_) | (refine WP.cond rfl ?_ ?_ <;> intro hcond) | refine rb ?_ | refine nd ?_ | refine dk ?_ | fail)
    exact .f1 (.inl rfl) rfl rfl
  case pos =>
    obtain ⟨x, hx⟩ : ∃ x, l[k]? = some x := ⟨_, List.getElem?_eq_getElem hlt⟩
    repeat' (first | (apply X.loE; (· exact aR); (· first | (exact .eff (.idxS rfl rfl rfl encAr_len hx)))) | refine X.loc ?_ | refine nx ?_ | (refine WP.condBit rfl ?_ ?_) | (refine WP.cond rfl ?_ ?_ <;> intro hcond) | (apply X.gsE; (· exact aR); (· exact aV); (· exact aW); (· intro hc; first | (exact .eff (.idxS rfl rfl rfl encAr_len hx))); (· exact aR)) | refine rb ?_ | refine nd ?_ | refine dk ?_ | fail)
    · exfalso
      simp [beqL, beqV] at hcond
    · refine ⟨k + 1, by omega, by omega, ?_⟩
      refine St.le_of ?_ ?_ <;> (repeat' (first | exact trivial | refine ⟨⟨_, rfl, .refl _⟩, ?_⟩ | refine ⟨⟨_, rfl, .any _⟩, ?_⟩ | refine ⟨⟨_, rfl, .of_eq ?_⟩, ?_⟩ | refine ⟨⟨_, rfl, fun _ _ _ _ h => h⟩, ?_⟩ | fail))
    · exfalso
      simp at hcond
      omega
theorem sentOfF_len {K : Kn} (hK : KnOk K) (ch id : Int) (f : Fr) : (sentOfF K ch id f).length ≤ 80000 := by
  have hl := led_len (cfAt K ch) (hK.cf ch) ch id f
  have := flat_bound (f := fun n : Nat => (ledF (cfAt K ch) ch id f).flatMap (arrN K ch n)) (n := 80) (l := List.range 1000) fun n _ => by
    have := flat_bound (f := arrN K ch n) (n := 1) (l := ledF (cfAt K ch) ch id f) fun g _ => arrN_len K ch n g
    omega
  rw [List.length_range] at this
  exact this
set_option maxHeartbeats 8000000 in
theorem deliveredOf0_T (c : Cf) (id : Int) (f : Fr) (hl : c.Small) : FunO Tryz.prog 18 [.agg ((encCf c).map .fv), .fv (.int .i64 id), .agg ((encFr f).map .fv)] [] (.tup [.osl 7, .fv (.int .i64 (delE c id f))]) [(7, .row 41 9 (delR c id f).length (((delR c id f).flatMap encAr).map .fv))] := by
  have c1 := confMay_T c hl
  have c2 := portOf_T c id hl
  have ep : (c.ps.find? fun p => p.id == id) = poAt c id := rfl
  rw [po_any, ep] at c2
  have c3 := frameFault_T f
  refine FunO.bodyL tbl_ok Tryz.func18 rfl (by kernel_rfl) rfl rfl rfl ?_
  unfold delE delR
  cases hm : cfMay c with
  | false =>
    rw [hm] at c1
    rw [if_pos rfl, if_pos rfl]
    repeat' (first | (apply X.loE; (· exact aR); (· first | exact .callL rfl rfl rfl (c1) rfl | exact bl (c1))) | refine X.loc ?_ | refine nx ?_ | refine X.cdT ?_ | refine X.cdF ?_ | (refine WP.condBit rfl ?_ ?_) | (refine WP.cond rfl ?_ ?_ <;> intro hcond) | (apply X.gsE; (· exact aR); (· exact aV); (· exact aW); (· intro hc; first | exact .callG rfl rfl rfl (c1) rfl | exact bg (c1)); (· exact aR)) | refine rb ?_ | refine nd ?_ | refine dk ?_ | fail)
    refine .ofL (s' := ⟨[(6, .osl 7), (7, .fv (.int .i64 8))], [(7, .row 41 9 0 [])]⟩) (by first | exact .inl rfl | exact .inr rfl) ?_ rfl rfl (by repeat' (first | exact trivial | refine ⟨⟨_, rfl, fun _ _ _ _ h => h⟩, ?_⟩))
    refine St.to [(7, .nil)] [] rfl rfl ?_ ?_ <;> (repeat' (first | exact tA | refine t1 ?_ | exact tB | refine t2 ?_ ?_ | refine t3 ?_ | refine t4 ?_ ?_ | refine .ofEq ?_ | refine OB.To.cut rfl rfl ?_ ?_ ?_ ?_ | refine OB.To.box rfl rfl ?_ | refine ⟨⟨_, rfl, ?_⟩, ?_⟩ | refine ⟨?_, ?_⟩ | fail))
  | true =>
    have hc := cfMay_iff.1 hm
    rw [hm] at c1
    rw [if_neg (by decide), if_neg (by decide)]
    cases hpo : poAt c id with
    | none =>
      rw [hpo] at c2
      simp only [Option.getD_some, Option.getD_none, Option.isSome_some, Option.isSome_none] at c2
      try dsimp only
      repeat' (first | (apply X.loE; (· exact aR); (· first | exact .callL rfl rfl rfl (by first | exact c1 | exact c2) rfl | exact bl (c1) | exact bl (c2))) | refine X.loc ?_ | refine nx ?_ | refine X.cdT ?_ | refine X.cdF ?_ | (refine WP.condBit rfl ?_ ?_) | (refine WP.cond rfl ?_ ?_ <;> intro hcond) | (apply X.gsE; (· exact aR); (· exact aV); (· exact aW); (· intro hc; first | exact .callG rfl rfl rfl (by first | exact c1 | exact c2) rfl | exact bg (c1) | exact bg (c2)); (· exact aR)) | refine rb ?_ | refine nd ?_ | refine dk ?_ | fail)
      refine .ofL (s' := ⟨[(6, .osl 7), (7, .fv (.int .i64 6))], [(7, .row 41 9 0 [])]⟩) (by first | exact .inl rfl | exact .inr rfl) ?_ rfl rfl (by repeat' (first | exact trivial | refine ⟨⟨_, rfl, fun _ _ _ _ h => h⟩, ?_⟩))
      refine St.to [(7, .nil)] [] rfl rfl ?_ ?_ <;> (repeat' (first | exact tA | refine t1 ?_ | exact tB | refine t2 ?_ ?_ | refine t3 ?_ | refine t4 ?_ ?_ | refine .ofEq ?_ | refine OB.To.cut rfl rfl ?_ ?_ ?_ ?_ | refine OB.To.box rfl rfl ?_ | refine ⟨⟨_, rfl, ?_⟩, ?_⟩ | refine ⟨?_, ?_⟩ | fail))
    | some q =>
      rw [hpo] at c2
      simp only [Option.getD_some, Option.getD_none, Option.isSome_some, Option.isSome_none] at c2
      try dsimp only
      have hq := (hc.pg q (poAt_mem hpo).1).1
      unfold PoR at hq
      by_cases h0 : q.ch < 0
      · rw [if_pos h0, if_pos h0]
        repeat' (first | (apply X.loE; (· exact aR); (· first | exact .callL rfl rfl rfl (by first | exact c1 | exact c2) rfl | exact bl (c1) | exact bl (c2))) | refine X.loc ?_ | refine nx ?_ | refine X.cdT ?_ | refine X.cdF ?_ | (refine WP.condBit rfl ?_ ?_) | (refine WP.cond rfl ?_ ?_ <;> intro hcond) | (apply X.gsE; (· exact aR); (· exact aV); (· exact aW); (· intro hc; first | exact .callG rfl rfl rfl (by first | exact c1 | exact c2) rfl | exact bg (c1) | exact bg (c2)); (· exact aR)) | refine rb ?_ | refine nd ?_ | refine dk ?_ | fail)
        refine .ofL (s' := ⟨[(6, .osl 7), (7, .fv (.int .i64 6))], [(7, .row 41 9 0 [])]⟩) (by first | exact .inl rfl | exact .inr rfl) ?_ rfl rfl (by repeat' (first | exact trivial | refine ⟨⟨_, rfl, fun _ _ _ _ h => h⟩, ?_⟩))
        refine St.to [(7, .nil)] [] rfl rfl ?_ ?_ <;> (repeat' (first | exact tA | refine t1 ?_ | exact tB | refine t2 ?_ ?_ | refine t3 ?_ | refine t4 ?_ ?_ | refine .ofEq ?_ | refine OB.To.cut rfl rfl ?_ ?_ ?_ ?_ | refine OB.To.box rfl rfl ?_ | refine ⟨⟨_, rfl, ?_⟩, ?_⟩ | refine ⟨?_, ?_⟩ | fail))
      rw [if_neg h0, if_neg h0]
      by_cases hff : frameFault f = 0
      · rw [if_neg (show ¬ frameFault f ≠ 0 by omega)]
        have u1 := sentOf_T (K6 c) (K6_ok hc) rfl q.ch id (by omega) f hff
        have ek : ksOf (K6 c) = [c, c, c, c, c, c] := rfl
        rw [ek] at u1
        rw [hff] at c3 ⊢
        generalize sentOfF (K6 c) q.ch id f = O at *
        repeat' (first | (apply X.loE; (· exact aR); (· first | exact .callL rfl rfl rfl (by first | exact c1 | exact c2 | exact c3) rfl | exact bl (c1) | exact bl (c2) | exact bl (c3))) | refine X.loc ?_ | refine nx ?_ | refine X.cdT ?_ | refine X.cdF ?_ | (refine WP.condBit rfl ?_ ?_) | (refine WP.cond rfl ?_ ?_ <;> intro hcond) | (apply X.gsE; (· exact aR); (· exact aV); (· exact aW); (· intro hc; first | exact .callG rfl rfl rfl (by first | exact c1 | exact c2 | exact c3) rfl | exact bg (c1) | exact bg (c2) | exact bg (c3)); (· exact aR)) | refine rb ?_ | refine X.c0 (u1) ?_ | refine nd ?_ | refine dk ?_ | fail)
        refine .ofL (s' := ⟨[(6, .osl 7), (7, .fv (.int .i64 0))], [(7, .row 41 9 O.length ((O.flatMap encAr).map .fv))]⟩) (by first | exact .inl rfl | exact .inr rfl) ?_ rfl rfl (by repeat' (first | exact trivial | refine ⟨⟨_, rfl, fun _ _ _ _ h => h⟩, ?_⟩))
        refine St.to [(7, .id 43)] [] rfl rfl ?_ ?_ <;> (repeat' (first | exact tA | refine t1 ?_ | exact tB | refine t2 ?_ ?_ | refine t3 ?_ | refine t4 ?_ ?_ | refine .ofEq ?_ | refine OB.To.cut rfl rfl ?_ ?_ ?_ ?_ | refine OB.To.box rfl rfl ?_ | refine ⟨⟨_, rfl, ?_⟩, ?_⟩ | refine ⟨?_, ?_⟩ | fail))
      · rw [if_pos hff]
        generalize frameFault f = e at *
        repeat' (first | (apply X.loE; (· exact aR); (· first | exact .callL rfl rfl rfl (by first | exact c1 | exact c2 | exact c3) rfl | exact bl (c1) | exact bl (c2) | exact bl (c3))) | refine X.loc ?_ | refine nx ?_ | refine X.cdT ?_ | refine X.cdF ?_ | (refine WP.condBit rfl ?_ ?_) | (refine WP.cond rfl ?_ ?_ <;> intro hcond) | (apply X.gsE; (· exact aR); (· exact aV); (· exact aW); (· intro hc; first | exact .callG rfl rfl rfl (by first | exact c1 | exact c2 | exact c3) rfl | exact bg (c1) | exact bg (c2) | exact bg (c3)); (· exact aR)) | refine rb ?_ | refine nd ?_ | refine dk ?_ | fail)
        refine .ofL (s' := ⟨[(6, .osl 7), (7, .fv (.int .i64 e))], [(7, .row 41 9 0 [])]⟩) (by first | exact .inl rfl | exact .inr rfl) ?_ rfl rfl (by repeat' (first | exact trivial | refine ⟨⟨_, rfl, fun _ _ _ _ h => h⟩, ?_⟩))
        refine St.to [(7, .nil)] [] rfl rfl ?_ ?_ <;> (repeat' (first | exact tA | refine t1 ?_ | exact tB | refine t2 ?_ ?_ | refine t3 ?_ | refine t4 ?_ ?_ | refine .ofEq ?_ | refine OB.To.cut rfl rfl ?_ ?_ ?_ ?_ | refine OB.To.box rfl rfl ?_ | refine ⟨⟨_, rfl, ?_⟩, ?_⟩ | refine ⟨?_, ?_⟩ | fail))
theorem deliveredOf_T (c : Cf) (id : Int) (f : Fr) (hl : c.Small) : Fun Tryz.prog 18 [.agg ((encCf c).map .fv), .fv (.int .i64 id), .agg ((encFr f).map .fv)] (.tup [.fv (slOf encAr (delR c id f)), .fv (.int .i64 (delE c id f))]) :=
  (deliveredOf0_T c id f hl).froz [7] (.tup (.cons (.frz rfl rfl rfl) (.cons (.le (.refl _) rfl) .nil)))
def FsK (c : Cf) (k : Nat) : List (List Fl) := (List.range 6).map fun i : Nat => if i < k then compF_ c (i : Int) else []
theorem FsK_ok {c : Cf} (hc : CfOk c) (k : Nat) : FlsOk (FsK c k) := by
  have key : ∀ {P : List Fl → Prop}, (∀ ch : Int, 0 ≤ ch ∧ ch ≤ 5 → P (compF_ c ch)) → P [] → ∀ L ∈ FsK c k, P L := fun h1 h2 L hL => by
    obtain ⟨i, hi, rfl⟩ := List.mem_map.1 hL
    have := List.mem_range.1 hi
    split
    · exact h1 i (by omega)
    · exact h2
  exact ⟨by simp [FsK], key (fun ch h => comp_room hc h) ⟨fun f hf => by simp at hf, by simp⟩, key (fun ch _ => comp_strict c ch) .nil, key (fun ch _ => comp_len hc) (by simp)⟩
theorem FsK_set (c : Cf) {k : Nat} (hk : k < 6) : (FsK c k).set k (compF_ c (k : Int)) = FsK c (k + 1) := by
  unfold FsK
  apply List.ext_getElem?
  intro i
  rw [List.getElem?_set]
  rcases Nat.lt_or_ge i 6 with hi | hi
  · rw [List.getElem?_map, List.getElem?_map, List.getElem?_range hi, List.length_map, List.length_range]
    by_cases e : k = i
    · subst e
      simp [hk]
    · rw [if_neg e]
      simp only [Option.map_some]
      congr 1
      by_cases h2 : i < k
      · rw [if_pos h2, if_pos (by omega)]
      · rw [if_neg h2, if_neg (by omega)]
  · rw [if_neg (by omega), List.getElem?_eq_none (by simp; omega), List.getElem?_eq_none (by simp; omega)]
theorem FsK_all (c : Cf) : FsK c 6 = flsK (K6 c) := rfl
set_option maxHeartbeats 8000000 in
theorem deliver0_T (c : Cf) (id : Int) (f : Fr) (hl : c.Small) : FunO Tryz.prog 17 [.agg ((encCf c).map .fv), .fv (.int .i64 id), .agg ((encFr f).map .fv)] [] (.tup [.osl 7, .fv (.int .i64 (delE c id f))]) [(7, .row 41 9 (delR c id f).length (((delR c id f).flatMap encAr).map .fv))] := by
  have c1 := confCheck_T c hl
  refine FunO.bodyL tbl_ok Tryz.func17 rfl (by kernel_rfl) rfl rfl rfl ?_
  unfold delE delR
  cases hm : cfMay c with
  | false =>
    rw [hm, if_neg (by decide)] at c1
    rw [if_pos rfl, if_pos rfl]
    repeat' (first | (apply X.loE; (· exact aR); (· first | exact .callL rfl rfl rfl (c1) rfl | exact bl (c1))) | refine X.loc ?_ | refine nx ?_ | refine X.cdT ?_ | refine X.cdF ?_ | (refine WP.condBit rfl ?_ ?_) | (refine WP.cond rfl ?_ ?_ <;> intro hcond) | (apply X.gsE; (· exact aR); (· exact aV); (· exact aW); (· intro hc; first | exact .callG rfl rfl rfl (c1) rfl | exact bg (c1)); (· exact aR)) | refine rb ?_ | refine nd ?_ | refine dk ?_ | fail)
    refine .ofL (s' := ⟨[(6, .osl 7), (7, .fv (.int .i64 8))], [(7, .row 41 9 0 [])]⟩) (by first | exact .inl rfl | exact .inr rfl) ?_ rfl rfl (by repeat' (first | exact trivial | refine ⟨⟨_, rfl, fun _ _ _ _ h => h⟩, ?_⟩))
    refine St.to [(7, .nil)] [] rfl rfl ?_ ?_ <;> (repeat' (first | exact tA | refine t1 ?_ | exact tB | refine t2 ?_ ?_ | refine t3 ?_ | refine t4 ?_ ?_ | refine .ofEq ?_ | refine OB.To.cut rfl rfl ?_ ?_ ?_ ?_ | refine OB.To.box rfl rfl ?_ | refine ⟨⟨_, rfl, ?_⟩, ?_⟩ | refine ⟨?_, ?_⟩ | fail))
  | true =>
    have hc := cfMay_iff.1 hm
    rw [hm, if_pos rfl] at c1
    rw [if_neg (by decide), if_neg (by decide)]
    repeat' (first | (apply X.loE; (· exact aR); (· first | exact .callL rfl rfl rfl (c1) rfl | exact bl (c1))) | refine X.loc ?_ | refine nx ?_ | refine X.cdT ?_ | refine X.cdF ?_ | (refine WP.condBit rfl ?_ ?_) | (refine WP.cond rfl ?_ ?_ <;> intro hcond) | (apply X.gsE; (· exact aR); (· exact aV); (· exact aW); (· intro hc; first | exact .callG rfl rfl rfl (c1) rfl | exact bg (c1)); (· exact aR)) | refine rb ?_ | refine nd ?_ | refine dk ?_ | fail)
    refine WP.loop (ι := Nat) (fun k => ⟨[(1, .fv (.int .i64 id)), (5, .optr 5 0), (9, .optr 900 0), (20, .fv (.int .i64 k))], [(5, .box 28 ((encFr f).map .fv)), (900, .box 88 ((encFab c (FsK c k)).map .fv))]⟩) (fun k => k ≤ 6) (fun k => 6 - k) 0 (by omega) ?_ ?_
    · try dsimp only
      have e0 : (encFab c (FsK c 0)).map AV.fv = (encCf c).map AV.fv ++ [.fv (.sl [] 0), .fv (.sl [] 0), .fv (.sl [] 0), .fv (.sl [] 0), .fv (.sl [] 0), .fv (.sl [] 0)] := rfl
      rw [e0]
      refine St.to [(900, .id 19)] [] rfl rfl ?_ ?_ <;> (repeat' (first | exact tA | refine t1 ?_ | exact tB | refine t2 ?_ ?_ | refine t3 ?_ | refine t4 ?_ ?_ | refine .ofEq ?_ | refine OB.To.cut rfl rfl ?_ ?_ ?_ ?_ | refine OB.To.box rfl rfl ?_ | refine ⟨⟨_, rfl, ?_⟩, ?_⟩ | refine ⟨?_, ?_⟩ | fail))
    rintro k hk
    try dsimp only
    by_cases hlt : k < 6
    case pos =>
      have u1 := sync_T c (FsK c k) k hc (by omega) (FsK_ok hc k)
      rw [Int.toNat_natCast, FsK_set c hlt] at u1
      unfold fabB at u1
      have hA := (FsK_ok hc k).len
      have hA2 := (FsK_ok hc (k + 1)).len
      generalize FsK c k = A at *
      generalize hB : FsK c (k + 1) = B at *
      obtain ⟨A0, A1, A2, A3, A4, A5, rfl⟩ := six hA
      obtain ⟨B0, B1, B2, B3, B4, B5, rfl⟩ := six hA2
      repeat' (first | refine X.loc ?_ | refine nx ?_ | refine X.cdT ?_ | refine X.cdF ?_ | (refine WP.condBit rfl ?_ ?_) | (refine WP.cond rfl ?_ ?_ <;> intro hcond) | refine rb ?_ | refine X.c0 (u1) ?_ | refine nd ?_ | refine dk ?_ | fail)
      refine ⟨k + 1, by omega, by omega, ?_⟩
      try dsimp only
      rw [hB]
      refine St.to [] [] rfl rfl ?_ ?_ <;> (repeat' (first | exact tA | refine t1 ?_ | exact tB | refine t2 ?_ ?_ | refine t3 ?_ | refine t4 ?_ ?_ | refine .ofEq ?_ | refine OB.To.cut rfl rfl ?_ ?_ ?_ ?_ | refine OB.To.box rfl rfl ?_ | refine ⟨⟨_, rfl, ?_⟩, ?_⟩ | refine ⟨?_, ?_⟩ | fail))
    case neg =>
      obtain rfl : k = 6 := by omega
      rw [FsK_all]
      have hK := K6_ok hc
      have u1 := send_T c (flsK (K6 c)) id f hc.pl rfl fun q hpo h0 he => by
        obtain ⟨hq, hid⟩ := poAt_mem hpo
        have hqr := (hc.pg q hq).1
        unfold PoR at hqr
        rw [pkE_id (by omega)] at he
        exact send_ok hK (by omega) he (by omega)
      have e1 : sendE c id f = (match poAt c id with | none => 6 | some q => if q.ch < 0 then 6 else frameFault f) := by
        unfold sendE
        cases hpo : poAt c id with
        | none => rfl
        | some q =>
          obtain ⟨hq, hid⟩ := poAt_mem hpo
          have hqr := (hc.pg q hq).1
          unfold PoR at hqr
          dsimp only
          rw [pkE_id (by omega)]
      have e2 : sendR c (flsK (K6 c)) id f = (match poAt c id with | none => [] | some q => if q.ch < 0 then [] else if frameFault f ≠ 0 then [] else sentOfF (K6 c) q.ch id f) := by
        unfold sendR
        cases hpo : poAt c id with
        | none => rfl
        | some q =>
          obtain ⟨hq, hid⟩ := poAt_mem hpo
          have hqr := (hc.pg q hq).1
          unfold PoR at hqr
          dsimp only
          rw [pkE_id (by omega)]
          by_cases h0 : q.ch < 0
          · rw [if_pos h0, if_pos h0]
          rw [if_neg h0, if_neg h0]
          by_cases hff : frameFault f = 0
          · rw [if_neg (show ¬ frameFault f ≠ 0 by omega), if_neg (show ¬ frameFault f ≠ 0 by omega)]
            exact send_sorted hK (by omega) hff (by omega)
          · rw [if_pos hff, if_pos hff]
      rw [e1, e2] at u1
      unfold fabB at u1
      clear e1 e2
      generalize (match poAt c id with | none => 6 | some q => if q.ch < 0 then 6 else frameFault f) = e at *
      generalize (match poAt c id with | none => [] | some q => if q.ch < 0 then [] else if frameFault f ≠ 0 then [] else sentOfF (K6 c) q.ch id f) = O at *
      have hA : (flsK (K6 c)).length = 6 := rfl
      generalize flsK (K6 c) = A at *
      obtain ⟨A0, A1, A2, A3, A4, A5, rfl⟩ := six hA
      repeat' (first | refine X.loc ?_ | refine nx ?_ | refine X.cdT ?_ | refine X.cdF ?_ | (refine WP.condBit rfl ?_ ?_) | (refine WP.cond rfl ?_ ?_ <;> intro hcond) | refine rb ?_ | refine X.c0 (u1) ?_ | refine nd ?_ | refine dk ?_ | fail)
      refine .ofL (s' := ⟨[(6, .osl 7), (7, .fv (.int .i64 e))], [(7, .row 41 9 O.length ((O.flatMap encAr).map .fv))]⟩) (by first | exact .inl rfl | exact .inr rfl) ?_ rfl rfl (by repeat' (first | exact trivial | refine ⟨⟨_, rfl, fun _ _ _ _ h => h⟩, ?_⟩))
      refine St.to [(7, .id 33)] [] rfl rfl ?_ ?_ <;> (repeat' (first | exact tA | refine t1 ?_ | exact tB | refine t2 ?_ ?_ | refine t3 ?_ | refine t4 ?_ ?_ | refine .ofEq ?_ | refine OB.To.cut rfl rfl ?_ ?_ ?_ ?_ | refine OB.To.box rfl rfl ?_ | refine ⟨⟨_, rfl, ?_⟩, ?_⟩ | refine ⟨?_, ?_⟩ | fail))
theorem deliver_T (c : Cf) (id : Int) (f : Fr) (hl : c.Small) : Fun Tryz.prog 17 [.agg ((encCf c).map .fv), .fv (.int .i64 id), .agg ((encFr f).map .fv)] (.tup [.fv (slOf encAr (delR c id f)), .fv (.int .i64 (delE c id f))]) :=
  (deliver0_T c id f hl).froz [7] (.tup (.cons (.frz rfl rfl rfl) (.cons (.le (.refl _) rfl) .nil)))
end Go.Proofs.YtmidechdlbcepaaGreat

namespace Go.Proofs.YtmidechdlbcepaaGreat
open Go.ChangeShapes Go.WideShapes Go.ChangeAt Go.RowKit
set_option maxRecDepth 100000

theorem delR_len (c : Cf) (id : Int) (f : Fr) : (delR c id f).length ≤ 80000 := by
  unfold delR
  cases hm : cfMay c with
  | false => simp
  | true =>
    have hc := cfMay_iff.1 hm
    rw [if_neg (by decide)]
    split
    · simp
    · split
      · simp
      · split
        · simp
        · exact sentOfF_len (K6_ok hc) _ id f
theorem fabricDelivers_T (c : Cf) (id : Int) (f : Fr) (hl : c.Small) : Fun Tryz.prog 3 [.agg ((encCf c).map .fv), .fv (.int .i64 id), .agg ((encFr f).map .fv)] (.fv (.bool true)) := by
  have c1 := deliver_T c id f hl
  have c2 := deliveredOf_T c id f hl
  have c3 := sameCome_T (delR c id f) (by have := delR_len c id f; omega)
  generalize delR c id f = R at *
  generalize delE c id f = e at *
  refine Fun.body tbl_ok Tryz.func3 rfl (by kernel_rfl) rfl rfl rfl ?_
  repeat' (first | (apply X.loE; (· exact aR); (· first | exact .callL rfl rfl rfl (by first | exact c1 | exact c2 | exact c3) rfl | exact bl (c1) | exact bl (c2) | exact bl (c3))) | refine X.loc ?_ | refine nx ?_ | refine X.cdT ?_ | refine X.cdF ?_ | (refine WP.condBit rfl ?_ ?_) | (refine WP.cond rfl ?_ ?_ <;> intro hcond) | (apply X.gsE; (· exact aR); (· exact aV); (· exact aW); (· intro hc; first | exact .callG rfl rfl rfl (by first | exact c1 | exact c2 | exact c3) rfl | exact bg (c1) | exact bg (c2) | exact bg (c3)); (· exact aR)) | refine rb ?_ | refine nd ?_ | refine dk ?_ | fail)
  refine .f1 (.inl rfl) rfl ?_
  congr 1
  simp
theorem fabricDelivers_open {H : Type} {enc : TypeId × Value → H} (W : World) (base : Nat) {v0 v1 v2 : Value} {d0 d1 d2 : DataW H} {p0 p1 p2 : List MemPlace} (hv0 : Value.okWide Tryz.prog W .any base 26 v0)
    (h0 : DataW.Trod enc Tryz.prog W 0 (fun _ => true) true 26 v0 d0 p0) (hs0 : SizedCl Tryz.prog 26 d0) (hv1 : Value.okWide Tryz.prog W .any base 3 v1)
    (h1 : DataW.Trod enc Tryz.prog W 0 (fun _ => true) true 3 v1 d1 p1) (_hs1 : SizedCl Tryz.prog 3 d1) (hv2 : Value.okWide Tryz.prog W .any base 28 v2)
    (h2 : DataW.Trod enc Tryz.prog W 0 (fun _ => true) true 28 v2 d2 p2) (_hs2 : SizedCl Tryz.prog 28 d2) : Calls Tryz.prog 3 #[v0, v1, v2] W fun e W' => e = .returned (.bool true) ∧ Below W.heap.size W W' := by
  obtain ⟨c, _, hl, _, _, _, cs, rfl, hr⟩ := open_cf hv0 h0 hs0
  obtain ⟨n, rfl, _, _, _⟩ := open_int Tryz.underlying3 hv1 h1
  obtain ⟨ds, rfl, hds⟩ := open_struct Tryz.underlying28 frame_leaves hv2 h2
  obtain ⟨f, rfl, hf⟩ := fr_of_ok hds
  exact (fabricDelivers_T c n f hl).yes ⟨rep_agg hr, rfl, ⟨_, rfl, by simpa using fr_repF hf (fun _ => undef)⟩, trivial⟩
end Go.Proofs.YtmidechdlbcepaaGreat
