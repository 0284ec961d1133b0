import Derived.Test.YtmidechdlbcepaaGreatPack47
import Derived.Test.YtmidechdlbcepaaGreatPack33
import Derived.Test.YtmidechdlbcepaaGreatPack45
import Derived.Test.YtmidechdlbcepaaGreatPack46
import Derived.Test.YtmidechdlbcepaaGreatPack37
import Derived.Test.YtmidechdlbcepaaGreatPack48
set_option linter.unusedSimpArgs false
set_option linter.unusedVariables false
namespace Go.Proofs.YtmidechdlbcepaaGreat
open Go.RowKit
set_option maxRecDepth 100000
def dbl1 (a : De) : List De := [a] ++ (if a.kind = 7 then [a] else []) ++ (if a.kind = 8 then [a] else [])
def dblA (l : List De) : List De := l.flatMap dbl1
theorem dblA_snoc (l : List De) (a : De) : dblA (l ++ [a]) = dblA l ++ dbl1 a := by simp [dblA]
theorem dbl1_len (a : De) : (dbl1 a).length ≤ 2 := by
  unfold dbl1
  by_cases h7 : a.kind = 7
  · rw [if_pos h7, if_neg (by omega)]; simp
  · rw [if_neg h7]
    split <;> simp
theorem dblA_len : ∀ l : List De, (dblA l).length ≤ 2 * l.length
  | [] => by simp [dblA]
  | a :: l => by
    have h1 := dblA_len l
    have h2 := dbl1_len a
    show (List.flatMap dbl1 (a :: l)).length ≤ _
    rw [List.flatMap_cons, List.length_append, List.length_cons]
    have : (List.flatMap dbl1 l).length = (dblA l).length := rfl
    omega
theorem act_twice (s : Fb) (a : De) (h : a.kind = 7 ∨ a.kind = 8) : actS (actS s a) a = actS s a ∧ actR (actS s a) a = actR s a := by
  rcases h with h | h
  · constructor
    · unfold actS
      rw [if_pos h, if_pos h]
      by_cases hr : a.n < 0 ∨ 6 ≤ a.n
      · rw [if_pos hr, if_pos hr]
      · rw [if_neg hr, if_neg hr]
        simp
    · unfold actR
      rw [if_pos h, if_pos h]
  · have e : actS s a = s := by
      unfold actS
      rw [if_neg (by omega), if_pos h]
    rw [e]
    exact ⟨e, rfl⟩
theorem runS_dbl1 (s : Fb) (a : De) : runS s (dbl1 a) = actS s a := by
  unfold dbl1
  by_cases h7 : a.kind = 7
  · rw [if_pos h7, if_neg (by omega)]
    exact (act_twice s a (.inl h7)).1
  · rw [if_neg h7]
    by_cases h8 : a.kind = 8
    · rw [if_pos h8]
      exact (act_twice s a (.inr h8)).1
    · rw [if_neg h8]
      rfl
theorem runR_dbl1 (s : Fb) (a : De) : runR s (dbl1 a) = if a.kind = 7 ∨ a.kind = 8 then [actR s a, actR s a] else [actR s a] := by
  unfold dbl1
  by_cases h7 : a.kind = 7
  · rw [if_pos h7, if_neg (by omega), if_pos (.inl h7)]
    show [actR s a, actR (actS s a) a] = _
    rw [(act_twice s a (.inl h7)).2]
  · rw [if_neg h7]
    by_cases h8 : a.kind = 8
    · rw [if_pos h8, if_pos (.inr h8)]
      show [actR s a, actR (actS s a) a] = _
      rw [(act_twice s a (.inr h8)).2]
    · rw [if_neg h8, if_neg (by omega)]
      rfl
theorem runS_dbl (s : Fb) : ∀ l : List De, runS s (dblA l) = runS s l := fun l => by
  induction l generalizing s with
  | nil => rfl
  | cons a l ih =>
    show runS s (dbl1 a ++ dblA l) = runS (actS s a) l
    rw [runS_app, runS_dbl1, ih]
theorem runR_dbl_at (s : Fb) {l : List De} {k : Nat} {a : De} (h : l[k]? = some a) :
    (runR s (dblA l))[(dblA (l.take k)).length]? = some (actR (runS s (l.take k)) a) ∧ (a.kind = 7 ∨ a.kind = 8 → (runR s (dblA l))[(dblA (l.take k)).length + 1]? = some (actR (runS s (l.take k)) a)) := by
  have hl : l = l.take k ++ (a :: l.drop (k + 1)) := by
    have hlt := (List.getElem?_eq_some_iff.1 h).1
    rw [← (List.getElem?_eq_some_iff.1 h).2, ← List.drop_eq_getElem_cons hlt, List.take_append_drop]
  have e : dblA l = dblA (l.take k) ++ (dbl1 a ++ dblA (l.drop (k + 1))) := by
    conv => lhs; rw [hl]
    unfold dblA
    rw [List.flatMap_append, List.flatMap_cons]
  rw [e, runR_app, runR_app, runR_dbl1, runS_dbl]
  have hn : (dblA (l.take k)).length = (runR s (dblA (l.take k))).length := (runR_len _ _).symm
  generalize runR (runS (runS s (l.take k)) (dbl1 a)) (dblA (l.drop (k + 1))) = Z
  generalize actR (runS s (l.take k)) a = r
  constructor
  · rw [List.getElem?_append_right (by omega), hn, Nat.sub_self]
    split <;> rfl
  · intro hk
    rw [List.getElem?_append_right (by omega), hn, if_pos hk]
    rw [show (runR s (dblA (l.take k))).length + 1 - (runR s (dblA (l.take k))).length = 1 by omega]
    rfl
theorem runR_at (s : Fb) : ∀ {l : List De} {k : Nat} {a : De}, l[k]? = some a → (runR s l)[k]? = some (actR (runS s (l.take k)) a)
  | [], _, _, h => by simp at h
  | b :: l, 0, a, h => by
    obtain rfl := Option.some.inj h
    rfl
  | b :: l, k + 1, a, h => runR_at (actS s b) (l := l) (k := k) (by simpa using h)
theorem act_come {s : Fb} (h : FbOk s) (a : De) : (actR s a).come.length ≤ 80000 := by
  unfold actR
  split
  · simp
  · split
    · dsimp only
      unfold repR
      split
      · simp
      · split
        · simp
        · split
          · simp
          · exact sentOfF_len h.k _ _ _
    · simp
theorem scr_short {l : List De} (h : l.length ≤ 300) : scrR l = runR fb0 l ∧ scrE l = 0 ∧ scrC l = (runS fb0 l).c := by
  unfold scrR scrE scrC
  rw [if_neg (by omega), if_neg (by omega), if_neg (by omega)]
  exact ⟨rfl, rfl, rfl⟩
theorem Picked_T (n m : Int) (h1 : -9223372036854775808 ≤ n) (h2 : n ≤ 9223372036854775807) (hm : 0 < m) : Fun Tryz.prog 33 [.fv (.int .i64 n), .fv (.int .i64 m)] (.fv (.int .i64 (pick n m))) := by
  refine Fun.body tbl_ok Tryz.func33 rfl (by kernel_rfl) rfl rfl rfl ?_
  repeat' (first | (apply X.loE; (· exact aR); (· first | exact .callL rfl rfl rfl ((picked_T n m h1 h2 hm)) rfl | exact bl ((picked_T n m h1 h2 hm)))) | refine X.loc ?_ | refine nx ?_ | refine X.cdT ?_ | refine X.cdF ?_ | refine cb ?_ ?_ | (refine cc ?_ ?_ <;> intro hcond) | (apply X.gsE; (· exact aR); (· exact aV); (· exact aW); (· intro hc; first | exact .callG rfl rfl rfl ((picked_T n m h1 h2 hm)) rfl | exact bg ((picked_T n m h1 h2 hm))); (· exact aR)) | refine rb ?_ | refine nd ?_ | refine dk ?_ | fail)
  exact .f1 (.inl rfl) rfl rfl
def hello : ByteArray := ⟨#[104, 101, 108, 108, 111]⟩
theorem fr_data {d s a b t o : Int} {z : ByteArray} (h0 : 0 ≤ d ∧ d ≤ 65535) (h1 : 0 ≤ s ∧ s ≤ 65535) (h2 : 0 ≤ a ∧ a ≤ 65535) (h3 : 0 ≤ b ∧ b ≤ 65535) (h4 : 0 ≤ t ∧ t ≤ 255) (h5 : 0 ≤ o ∧ o ≤ 65535) (hz : z.size ≤ 40) : frameFault ⟨d, s, 3, a, b, t, o, z⟩ = 0 := by
  unfold frameFault
  simp only [word_not]
  rw [if_neg (by omega), if_neg (by omega), if_neg (by omega), if_neg (by omega)]
theorem fr_ask {d s a b : Int} (h0 : 0 ≤ d ∧ d ≤ 65535) (h1 : 0 ≤ s ∧ s ≤ 65535) (h2 : 0 ≤ a ∧ a ≤ 65535) (h3 : 0 ≤ b ∧ b ≤ 65535) : frameFault ⟨d, s, 1, a, b, 0, 0, ⟨#[]⟩⟩ = 0 := by
  unfold frameFault
  simp only [word_not]
  rw [if_neg (by omega), if_neg (by omega), if_neg (by show ¬ 40 < 0; omega), if_neg]
  rintro ⟨_, h | h | h⟩
  · exact h rfl
  · exact h rfl
  · exact h rfl
def frK (c : Cf) (r : Rq) : Int × Fr := match c.ps[(pick r.a c.ps.length).toNat]?, c.ps[(pick r.b c.ps.length).toNat]? with
  | some p, some q =>
    (p.id, if pick r.kind 10 = 0 then ⟨65535, p.mac, 1, p.ip, q.ip, 0, 0, ⟨#[]⟩⟩
      else if pick r.kind 10 = 1 then ⟨65535, p.mac, 1, p.ip, 200 + pick r.b 2, 0, 0, ⟨#[]⟩⟩
      else if pick r.kind 10 = 2 then ⟨65535, p.mac, 3, p.ip, q.ip, pick r.c 4, pick (r.c.tdiv 4) 4, hello⟩
      else if pick r.kind 10 ≤ 6 then ⟨60000 + p.sw, p.mac, 3, p.ip, q.ip, pick r.c 4 + pick r.c 2, pick (r.c.tdiv 4) 4, hello⟩
      else if pick r.kind 10 = 7 then ⟨q.mac, q.mac, 3, p.ip, q.ip, pick r.c 4, pick (r.c.tdiv 4) 4, hello⟩
      else ⟨q.mac, p.mac, 3, p.ip, q.ip, pick r.c 4, pick (r.c.tdiv 4) 4, hello⟩)
  | _, _ => (1, ⟨0, 0, 3, 0, 0, 2, 0, ⟨#[]⟩⟩)
set_option maxHeartbeats 16000000 in
theorem frameE_T (c : Cf) (hc : CfOk c) (r : Rq) (ho : r.Ok) : ∃ (id : Int) (f : Fr), frK c r = (id, f) ∧ Fun Tryz.prog 30 [.agg ((encCf c).map .fv), .agg ((encRq r).map .fv)] (.tup [.fv (.int .i64 id), .agg ((encFr f).map .fv)]) ∧ (c.ps ≠ [] → frameFault f = 0) := by
  have hfr := frK.eq_1 c r
  have hpl := hc.pl
  obtain ⟨o1, o2, o3, o4⟩ := ho
  have n1 := o1
  have n2 := o2
  have n3 := o3
  have n4 := o4
  unfold N64 at n1 n2 n3 n4
  cases hps : c.ps with
  | nil =>
    have hl0 : c.ps.length = 0 := by rw [hps]; rfl
    refine ⟨1, ⟨0, 0, 3, 0, 0, 2, 0, ⟨#[]⟩⟩, by rw [hfr, hps]; rfl, ?_, fun h => absurd rfl h⟩
    refine Fun.body tbl_ok Tryz.func30 rfl (by kernel_rfl) rfl rfl rfl ?_
    repeat' (first | refine X.loc ?_ | refine nx ?_ | refine X.cdT ?_ | refine X.cdF ?_ | refine cb ?_ ?_ | (refine cc ?_ ?_ <;> intro hcond) | refine rb ?_ | refine nd ?_ | refine dk ?_ | fail)
    refine .le (s' := ⟨[(4, .fv (.int .i64 1)), (5, .optr 5 0)], [(5, .box 28 ((encFr ⟨0, 0, 3, 0, 0, 2, 0, ⟨#[]⟩⟩).map .fv))]⟩) ?_ (.fun (.inl rfl) rfl rfl)
    exact tq [] []
  | cons p0 l0 =>
    have hlp : 0 < c.ps.length := by rw [hps]; simp
    clear hps
    have k1 := picked_T r.a c.ps.length n2.1 n2.2 (by omega)
    have k2 := picked_T r.b c.ps.length n3.1 n3.2 (by omega)
    have g1 := pick_le (n := r.a) (m := (c.ps.length : Int)) (by omega)
    have g2 := pick_le (n := r.b) (m := (c.ps.length : Int)) (by omega)
    generalize pick r.a c.ps.length = i at *
    generalize pick r.b c.ps.length = j at *
    obtain ⟨i, rfl⟩ := Int.eq_ofNat_of_zero_le g1.1
    obtain ⟨j, rfl⟩ := Int.eq_ofNat_of_zero_le g2.1
    obtain ⟨p, hp⟩ : ∃ p, c.ps[i]? = some p := ⟨_, List.getElem?_eq_getElem (by omega)⟩
    obtain ⟨q, hq⟩ : ∃ q, c.ps[j]? = some q := ⟨_, List.getElem?_eq_getElem (by omega)⟩
    have hpr := (hc.pg p (List.mem_of_getElem? hp)).1
    have hqr := (hc.pg q (List.mem_of_getElem? hq)).1
    have hpi := hc.swIn (List.mem_of_getElem? hp)
    have hps := hc.sr _ hpi.1
    have hsw : 1 ≤ p.sw ∧ p.sw ≤ 500 := by
      unfold SwR at hps
      rw [hpi.2] at hps
      exact hps.1
    unfold PoR at hpr hqr
    have qc4 := quoT_bd o4 (m := 4) (by omega)
    have k3 := picked_T r.c 4 n4.1 n4.2 (by omega)
    have k4 := picked_T (r.c.tdiv 4) 4 (by omega) (by omega) (by omega)
    have k5 := picked_T r.kind 10 n1.1 n1.2 (by omega)
    have k6 := picked_T r.b 2 n3.1 n3.2 (by omega)
    have k7 := picked_T r.c 2 n4.1 n4.2 (by omega)
    have g3 := pick_le (n := r.c) (m := 4) (by omega)
    have g4 := pick_le (n := r.c.tdiv 4) (m := 4) (by omega)
    have g5 := pick_le (n := r.kind) (m := 10) (by omega)
    have g6 := pick_le (n := r.b) (m := 2) (by omega)
    have g7 := pick_le (n := r.c) (m := 2) (by omega)
    rw [Int.toNat_natCast, Int.toNat_natCast, hp, hq] at hfr
    dsimp only at hfr
    have hello40 : hello.size ≤ 40 := by decide
    generalize pick r.c 4 = t at *
    generalize pick (r.c.tdiv 4) 4 = o at *
    generalize pick r.kind 10 = v at *
    generalize pick r.b 2 = b2 at *
    generalize pick r.c 2 = c2 at *
    by_cases v0 : v = 0
    · refine ⟨p.id, ⟨65535, p.mac, 1, p.ip, q.ip, 0, 0, ⟨#[]⟩⟩, by rw [hfr, if_pos v0], ?_, fun _ => fr_ask (by omega) (by omega) (by omega) (by omega)⟩
      refine Fun.body tbl_ok Tryz.func30 rfl (by kernel_rfl) rfl rfl rfl ?_
      repeat' (first | (apply X.loE; (· exact aR); (· first | (exact .eff (.idxS rfl rfl rfl encPo_len hp)) | (exact .eff (.idxS rfl rfl rfl encPo_len hq)) | (refine .eff (.quoT rfl rfl ?_ ?_) <;> first | assumption | omega) | exact .callL rfl rfl rfl (by first | exact k1 | exact k2 | exact k3 | exact k4 | exact k5 | exact k6 | exact k7) rfl | exact bl (k1) | exact bl (k2) | exact bl (k3) | exact bl (k4) | exact bl (k5) | exact bl (k6) | exact bl (k7))) | refine X.loc ?_ | refine nx ?_ | refine X.cdT ?_ | refine X.cdF ?_ | refine cb ?_ ?_ | (refine cc ?_ ?_ <;> intro hcond) | (apply X.gsE; (· exact aR); (· exact aV); (· exact aW); (· intro hc; first | (exact .eff (.idxS rfl rfl rfl encPo_len hp)) | (exact .eff (.idxS rfl rfl rfl encPo_len hq)) | (refine .eff (.quoT rfl rfl ?_ ?_) <;> first | assumption | omega) | exact .callG rfl rfl rfl (by first | exact k1 | exact k2 | exact k3 | exact k4 | exact k5 | exact k6 | exact k7) rfl | exact bg (k1) | exact bg (k2) | exact bg (k3) | exact bg (k4) | exact bg (k5) | exact bg (k6) | exact bg (k7)); (· exact aR)) | refine rb ?_ | refine nd ?_ | refine dk ?_ | fail)
      refine .le (s' := ⟨[(4, .fv (.int .i64 p.id)), (5, .optr 5 0)], [(5, .box 28 ((encFr ⟨65535, p.mac, 1, p.ip, q.ip, 0, 0, ⟨#[]⟩⟩).map .fv))]⟩) ?_ (.fun (.inl rfl) rfl rfl)
      exact tq [] []
    by_cases v1 : v = 1
    · refine ⟨p.id, ⟨65535, p.mac, 1, p.ip, 200 + b2, 0, 0, ⟨#[]⟩⟩, by rw [hfr, if_neg v0, if_pos v1], ?_, fun _ => fr_ask (by omega) (by omega) (by omega) (by omega)⟩
      refine Fun.body tbl_ok Tryz.func30 rfl (by kernel_rfl) rfl rfl rfl ?_
      repeat' (first | (apply X.loE; (· exact aR); (· first | (exact .eff (.idxS rfl rfl rfl encPo_len hp)) | (exact .eff (.idxS rfl rfl rfl encPo_len hq)) | (refine .eff (.quoT rfl rfl ?_ ?_) <;> first | assumption | omega) | exact .callL rfl rfl rfl (by first | exact k1 | exact k2 | exact k3 | exact k4 | exact k5 | exact k6 | exact k7) rfl | exact bl (k1) | exact bl (k2) | exact bl (k3) | exact bl (k4) | exact bl (k5) | exact bl (k6) | exact bl (k7))) | refine X.loc ?_ | refine nx ?_ | refine X.cdT ?_ | refine X.cdF ?_ | refine cb ?_ ?_ | (refine cc ?_ ?_ <;> intro hcond) | (apply X.gsE; (· exact aR); (· exact aV); (· exact aW); (· intro hc; first | (exact .eff (.idxS rfl rfl rfl encPo_len hp)) | (exact .eff (.idxS rfl rfl rfl encPo_len hq)) | (refine .eff (.quoT rfl rfl ?_ ?_) <;> first | assumption | omega) | exact .callG rfl rfl rfl (by first | exact k1 | exact k2 | exact k3 | exact k4 | exact k5 | exact k6 | exact k7) rfl | exact bg (k1) | exact bg (k2) | exact bg (k3) | exact bg (k4) | exact bg (k5) | exact bg (k6) | exact bg (k7)); (· exact aR)) | refine rb ?_ | refine nd ?_ | refine dk ?_ | fail)
      refine .le (s' := ⟨[(4, .fv (.int .i64 p.id)), (5, .optr 5 0)], [(5, .box 28 ((encFr ⟨65535, p.mac, 1, p.ip, 200 + b2, 0, 0, ⟨#[]⟩⟩).map .fv))]⟩) ?_ (.fun (.inl rfl) rfl rfl)
      exact tq [] []
    by_cases v2 : v = 2
    · refine ⟨p.id, ⟨65535, p.mac, 3, p.ip, q.ip, t, o, hello⟩, by rw [hfr, if_neg v0, if_neg v1, if_pos v2], ?_, fun _ => fr_data (by omega) (by omega) (by omega) (by omega) (by omega) (by omega) hello40⟩
      refine Fun.body tbl_ok Tryz.func30 rfl (by kernel_rfl) rfl rfl rfl ?_
      repeat' (first | (apply X.loE; (· exact aR); (· first | (exact .eff (.idxS rfl rfl rfl encPo_len hp)) | (exact .eff (.idxS rfl rfl rfl encPo_len hq)) | (refine .eff (.quoT rfl rfl ?_ ?_) <;> first | assumption | omega) | exact .callL rfl rfl rfl (by first | exact k1 | exact k2 | exact k3 | exact k4 | exact k5 | exact k6 | exact k7) rfl | exact bl (k1) | exact bl (k2) | exact bl (k3) | exact bl (k4) | exact bl (k5) | exact bl (k6) | exact bl (k7))) | refine X.loc ?_ | refine nx ?_ | refine X.cdT ?_ | refine X.cdF ?_ | refine cb ?_ ?_ | (refine cc ?_ ?_ <;> intro hcond) | (apply X.gsE; (· exact aR); (· exact aV); (· exact aW); (· intro hc; first | (exact .eff (.idxS rfl rfl rfl encPo_len hp)) | (exact .eff (.idxS rfl rfl rfl encPo_len hq)) | (refine .eff (.quoT rfl rfl ?_ ?_) <;> first | assumption | omega) | exact .callG rfl rfl rfl (by first | exact k1 | exact k2 | exact k3 | exact k4 | exact k5 | exact k6 | exact k7) rfl | exact bg (k1) | exact bg (k2) | exact bg (k3) | exact bg (k4) | exact bg (k5) | exact bg (k6) | exact bg (k7)); (· exact aR)) | refine rb ?_ | refine nd ?_ | refine dk ?_ | fail)
      refine .le (s' := ⟨[(4, .fv (.int .i64 p.id)), (5, .optr 5 0)], [(5, .box 28 ((encFr ⟨65535, p.mac, 3, p.ip, q.ip, t, o, hello⟩).map .fv))]⟩) ?_ (.fun (.inl rfl) rfl rfl)
      exact tq [] []
    by_cases v6 : v ≤ 6
    · refine ⟨p.id, ⟨60000 + p.sw, p.mac, 3, p.ip, q.ip, t + c2, o, hello⟩, by rw [hfr, if_neg v0, if_neg v1, if_neg v2, if_pos v6], ?_, fun _ => fr_data (by omega) (by omega) (by omega) (by omega) (by omega) (by omega) hello40⟩
      refine Fun.body tbl_ok Tryz.func30 rfl (by kernel_rfl) rfl rfl rfl ?_
      by_cases v3 : v = 3
      · skip
        repeat' (first | (apply X.loE; (· exact aR); (· first | (exact .eff (.idxS rfl rfl rfl encPo_len hp)) | (exact .eff (.idxS rfl rfl rfl encPo_len hq)) | (refine .eff (.quoT rfl rfl ?_ ?_) <;> first | assumption | omega) | exact .callL rfl rfl rfl (by first | exact k1 | exact k2 | exact k3 | exact k4 | exact k5 | exact k6 | exact k7) rfl | exact bl (k1) | exact bl (k2) | exact bl (k3) | exact bl (k4) | exact bl (k5) | exact bl (k6) | exact bl (k7))) | refine X.loc ?_ | refine nx ?_ | refine X.cdT ?_ | refine X.cdF ?_ | refine cb ?_ ?_ | (refine cc ?_ ?_ <;> intro hcond) | (apply X.gsE; (· exact aR); (· exact aV); (· exact aW); (· intro hc; first | (exact .eff (.idxS rfl rfl rfl encPo_len hp)) | (exact .eff (.idxS rfl rfl rfl encPo_len hq)) | (refine .eff (.quoT rfl rfl ?_ ?_) <;> first | assumption | omega) | exact .callG rfl rfl rfl (by first | exact k1 | exact k2 | exact k3 | exact k4 | exact k5 | exact k6 | exact k7) rfl | exact bg (k1) | exact bg (k2) | exact bg (k3) | exact bg (k4) | exact bg (k5) | exact bg (k6) | exact bg (k7)); (· exact aR)) | refine rb ?_ | refine nd ?_ | refine dk ?_ | fail)
        refine .le (s' := ⟨[(4, .fv (.int .i64 p.id)), (5, .optr 5 0)], [(5, .box 28 ((encFr ⟨60000 + p.sw, p.mac, 3, p.ip, q.ip, t + c2, o, hello⟩).map .fv))]⟩) ?_ (.fun (.inl rfl) rfl rfl)
        exact tq [] []
      by_cases v4 : v = 4
      · skip
        repeat' (first | (apply X.loE; (· exact aR); (· first | (exact .eff (.idxS rfl rfl rfl encPo_len hp)) | (exact .eff (.idxS rfl rfl rfl encPo_len hq)) | (refine .eff (.quoT rfl rfl ?_ ?_) <;> first | assumption | omega) | exact .callL rfl rfl rfl (by first | exact k1 | exact k2 | exact k3 | exact k4 | exact k5 | exact k6 | exact k7) rfl | exact bl (k1) | exact bl (k2) | exact bl (k3) | exact bl (k4) | exact bl (k5) | exact bl (k6) | exact bl (k7))) | refine X.loc ?_ | refine nx ?_ | refine X.cdT ?_ | refine X.cdF ?_ | refine cb ?_ ?_ | (refine cc ?_ ?_ <;> intro hcond) | (apply X.gsE; (· exact aR); (· exact aV); (· exact aW); (· intro hc; first | (exact .eff (.idxS rfl rfl rfl encPo_len hp)) | (exact .eff (.idxS rfl rfl rfl encPo_len hq)) | (refine .eff (.quoT rfl rfl ?_ ?_) <;> first | assumption | omega) | exact .callG rfl rfl rfl (by first | exact k1 | exact k2 | exact k3 | exact k4 | exact k5 | exact k6 | exact k7) rfl | exact bg (k1) | exact bg (k2) | exact bg (k3) | exact bg (k4) | exact bg (k5) | exact bg (k6) | exact bg (k7)); (· exact aR)) | refine rb ?_ | refine nd ?_ | refine dk ?_ | fail)
        refine .le (s' := ⟨[(4, .fv (.int .i64 p.id)), (5, .optr 5 0)], [(5, .box 28 ((encFr ⟨60000 + p.sw, p.mac, 3, p.ip, q.ip, t + c2, o, hello⟩).map .fv))]⟩) ?_ (.fun (.inl rfl) rfl rfl)
        exact tq [] []
      by_cases v5 : v = 5
      · skip
        repeat' (first | (apply X.loE; (· exact aR); (· first | (exact .eff (.idxS rfl rfl rfl encPo_len hp)) | (exact .eff (.idxS rfl rfl rfl encPo_len hq)) | (refine .eff (.quoT rfl rfl ?_ ?_) <;> first | assumption | omega) | exact .callL rfl rfl rfl (by first | exact k1 | exact k2 | exact k3 | exact k4 | exact k5 | exact k6 | exact k7) rfl | exact bl (k1) | exact bl (k2) | exact bl (k3) | exact bl (k4) | exact bl (k5) | exact bl (k6) | exact bl (k7))) | refine X.loc ?_ | refine nx ?_ | refine X.cdT ?_ | refine X.cdF ?_ | refine cb ?_ ?_ | (refine cc ?_ ?_ <;> intro hcond) | (apply X.gsE; (· exact aR); (· exact aV); (· exact aW); (· intro hc; first | (exact .eff (.idxS rfl rfl rfl encPo_len hp)) | (exact .eff (.idxS rfl rfl rfl encPo_len hq)) | (refine .eff (.quoT rfl rfl ?_ ?_) <;> first | assumption | omega) | exact .callG rfl rfl rfl (by first | exact k1 | exact k2 | exact k3 | exact k4 | exact k5 | exact k6 | exact k7) rfl | exact bg (k1) | exact bg (k2) | exact bg (k3) | exact bg (k4) | exact bg (k5) | exact bg (k6) | exact bg (k7)); (· exact aR)) | refine rb ?_ | refine nd ?_ | refine dk ?_ | fail)
        refine .le (s' := ⟨[(4, .fv (.int .i64 p.id)), (5, .optr 5 0)], [(5, .box 28 ((encFr ⟨60000 + p.sw, p.mac, 3, p.ip, q.ip, t + c2, o, hello⟩).map .fv))]⟩) ?_ (.fun (.inl rfl) rfl rfl)
        exact tq [] []
      · have v66 : v = 6 := by omega
        repeat' (first | (apply X.loE; (· exact aR); (· first | (exact .eff (.idxS rfl rfl rfl encPo_len hp)) | (exact .eff (.idxS rfl rfl rfl encPo_len hq)) | (refine .eff (.quoT rfl rfl ?_ ?_) <;> first | assumption | omega) | exact .callL rfl rfl rfl (by first | exact k1 | exact k2 | exact k3 | exact k4 | exact k5 | exact k6 | exact k7) rfl | exact bl (k1) | exact bl (k2) | exact bl (k3) | exact bl (k4) | exact bl (k5) | exact bl (k6) | exact bl (k7))) | refine X.loc ?_ | refine nx ?_ | refine X.cdT ?_ | refine X.cdF ?_ | refine cb ?_ ?_ | (refine cc ?_ ?_ <;> intro hcond) | (apply X.gsE; (· exact aR); (· exact aV); (· exact aW); (· intro hc; first | (exact .eff (.idxS rfl rfl rfl encPo_len hp)) | (exact .eff (.idxS rfl rfl rfl encPo_len hq)) | (refine .eff (.quoT rfl rfl ?_ ?_) <;> first | assumption | omega) | exact .callG rfl rfl rfl (by first | exact k1 | exact k2 | exact k3 | exact k4 | exact k5 | exact k6 | exact k7) rfl | exact bg (k1) | exact bg (k2) | exact bg (k3) | exact bg (k4) | exact bg (k5) | exact bg (k6) | exact bg (k7)); (· exact aR)) | refine rb ?_ | refine nd ?_ | refine dk ?_ | fail)
        refine .le (s' := ⟨[(4, .fv (.int .i64 p.id)), (5, .optr 5 0)], [(5, .box 28 ((encFr ⟨60000 + p.sw, p.mac, 3, p.ip, q.ip, t + c2, o, hello⟩).map .fv))]⟩) ?_ (.fun (.inl rfl) rfl rfl)
        exact tq [] []
    by_cases v7 : v = 7
    · refine ⟨p.id, ⟨q.mac, q.mac, 3, p.ip, q.ip, t, o, hello⟩, by rw [hfr, if_neg v0, if_neg v1, if_neg v2, if_neg v6, if_pos v7], ?_, fun _ => fr_data (by omega) (by omega) (by omega) (by omega) (by omega) (by omega) hello40⟩
      refine Fun.body tbl_ok Tryz.func30 rfl (by kernel_rfl) rfl rfl rfl ?_
      repeat' (first | (apply X.loE; (· exact aR); (· first | (exact .eff (.idxS rfl rfl rfl encPo_len hp)) | (exact .eff (.idxS rfl rfl rfl encPo_len hq)) | (refine .eff (.quoT rfl rfl ?_ ?_) <;> first | assumption | omega) | exact .callL rfl rfl rfl (by first | exact k1 | exact k2 | exact k3 | exact k4 | exact k5 | exact k6 | exact k7) rfl | exact bl (k1) | exact bl (k2) | exact bl (k3) | exact bl (k4) | exact bl (k5) | exact bl (k6) | exact bl (k7))) | refine X.loc ?_ | refine nx ?_ | refine X.cdT ?_ | refine X.cdF ?_ | refine cb ?_ ?_ | (refine cc ?_ ?_ <;> intro hcond) | (apply X.gsE; (· exact aR); (· exact aV); (· exact aW); (· intro hc; first | (exact .eff (.idxS rfl rfl rfl encPo_len hp)) | (exact .eff (.idxS rfl rfl rfl encPo_len hq)) | (refine .eff (.quoT rfl rfl ?_ ?_) <;> first | assumption | omega) | exact .callG rfl rfl rfl (by first | exact k1 | exact k2 | exact k3 | exact k4 | exact k5 | exact k6 | exact k7) rfl | exact bg (k1) | exact bg (k2) | exact bg (k3) | exact bg (k4) | exact bg (k5) | exact bg (k6) | exact bg (k7)); (· exact aR)) | refine rb ?_ | refine nd ?_ | refine dk ?_ | fail)
      refine .le (s' := ⟨[(4, .fv (.int .i64 p.id)), (5, .optr 5 0)], [(5, .box 28 ((encFr ⟨q.mac, q.mac, 3, p.ip, q.ip, t, o, hello⟩).map .fv))]⟩) ?_ (.fun (.inl rfl) rfl rfl)
      exact tq [] []
    · refine ⟨p.id, ⟨q.mac, p.mac, 3, p.ip, q.ip, t, o, hello⟩, by rw [hfr, if_neg v0, if_neg v1, if_neg v2, if_neg v6, if_neg v7], ?_, fun _ => fr_data (by omega) (by omega) (by omega) (by omega) (by omega) (by omega) hello40⟩
      refine Fun.body tbl_ok Tryz.func30 rfl (by kernel_rfl) rfl rfl rfl ?_
      repeat' (first | (apply X.loE; (· exact aR); (· first | (exact .eff (.idxS rfl rfl rfl encPo_len hp)) | (exact .eff (.idxS rfl rfl rfl encPo_len hq)) | (refine .eff (.quoT rfl rfl ?_ ?_) <;> first | assumption | omega) | exact .callL rfl rfl rfl (by first | exact k1 | exact k2 | exact k3 | exact k4 | exact k5 | exact k6 | exact k7) rfl | exact bl (k1) | exact bl (k2) | exact bl (k3) | exact bl (k4) | exact bl (k5) | exact bl (k6) | exact bl (k7))) | refine X.loc ?_ | refine nx ?_ | refine X.cdT ?_ | refine X.cdF ?_ | refine cb ?_ ?_ | (refine cc ?_ ?_ <;> intro hcond) | (apply X.gsE; (· exact aR); (· exact aV); (· exact aW); (· intro hc; first | (exact .eff (.idxS rfl rfl rfl encPo_len hp)) | (exact .eff (.idxS rfl rfl rfl encPo_len hq)) | (refine .eff (.quoT rfl rfl ?_ ?_) <;> first | assumption | omega) | exact .callG rfl rfl rfl (by first | exact k1 | exact k2 | exact k3 | exact k4 | exact k5 | exact k6 | exact k7) rfl | exact bg (k1) | exact bg (k2) | exact bg (k3) | exact bg (k4) | exact bg (k5) | exact bg (k6) | exact bg (k7)); (· exact aR)) | refine rb ?_ | refine nd ?_ | refine dk ?_ | fail)
      refine .le (s' := ⟨[(4, .fv (.int .i64 p.id)), (5, .optr 5 0)], [(5, .box 28 ((encFr ⟨q.mac, p.mac, 3, p.ip, q.ip, t, o, hello⟩).map .fv))]⟩) ?_ (.fun (.inl rfl) rfl rfl)
      exact tq [] []
theorem frameK_T (c : Cf) (hc : CfOk c) (r : Rq) (ho : r.Ok) : ∃ (id : Int) (f : Fr), Fun Tryz.prog 30 [.agg ((encCf c).map .fv), .agg ((encRq r).map .fv)] (.tup [.fv (.int .i64 id), .agg ((encFr f).map .fv)]) ∧ (c.ps ≠ [] → frameFault f = 0) := by
  obtain ⟨id, f, _, h⟩ := frameE_T c hc r ho
  exact ⟨id, f, h⟩
def actK (c : Cf) (r : Rq) : De := if pick (r.kind.tdiv 16) 3 = 0 then deSe (frK c r).1 (frK c r).2 else if pick (r.kind.tdiv 16) 3 = 1 ∧ pick r.c 2 = 0 then deSy (pick r.b 5) else changeOf r
def actsC (c : Cf) (l : List Rq) : Cf := l.foldl (fun c r => stepC c (actK c r)) c
def actsL : Cf → List Rq → List De
  | _, [] => []
  | c, r :: l => actK c r :: actsL (stepC c (actK c r)) l
theorem actsC_snoc (c : Cf) (l : List Rq) (r : Rq) : actsC c (l ++ [r]) = stepC (actsC c l) (actK (actsC c l) r) := by simp [actsC]
theorem actsL_snoc : ∀ (c : Cf) (l : List Rq) (r : Rq), actsL c (l ++ [r]) = actsL c l ++ [actK (actsC c l) r]
  | c, [], r => rfl
  | c, b :: l, r => by
    rw [List.cons_append, actsL, actsL, actsL_snoc (stepC c (actK c b)) l r]
    rfl
theorem actsL_len : ∀ (c : Cf) (l : List Rq), (actsL c l).length = l.length
  | _, [] => rfl
  | c, b :: l => by rw [actsL, List.length_cons, List.length_cons, actsL_len]
theorem actsC_ok {c : Cf} (hc : CfOk c) (l : List Rq) : CfOk (actsC c l) := by
  induction l generalizing c with
  | nil => exact hc
  | cons r l ih => exact ih (hc.step _)
def actsOf (l : List Rq) (m : Nat) : List De := (conf0 4).ss.map deSw ++ actsL (conf0 4) (l.take m)
theorem actsOf_len (l : List Rq) (m : Nat) : (actsOf l m).length ≤ 12 + m := by
  have h := (conf0_ok 4).sl
  unfold actsOf
  rw [List.length_append, List.length_map, actsL_len, List.length_take]
  omega
theorem step78 {c : Cf} (hc : CfOk c) {a : De} (h : a.kind = 7 ∨ a.kind = 8) : applyE c a = 3 := by
  unfold applyE
  rw [if_neg (by rw [cfMay_iff.2 hc]; simp), if_neg (by omega), if_neg (by omega), if_neg (by omega), if_neg (by omega), if_neg (by omega)]
theorem Fun.nil1 {P : Program} {f : FuncId} {xs : List AV} {r : AV} (h : Fun P f (.fv (.sl [] 0) :: xs) r) : Fun P f (.nil :: xs) r := ⟨h.1, fun σ Z w vs hI hrep => h.2 σ Z w vs hI (by
  cases vs with
  | nil => exact hrep.elim
  | cons v vs => exact ⟨AV.Le.nil _ _ _ _ hrep.1, hrep.2⟩)⟩
set_option maxHeartbeats 16000000 in
theorem acts_T (l : List Rq) (m : Nat) (hok : ∀ r ∈ l, r.Ok) (hm : m ≤ 100) : FunO Tryz.prog 34 [.fv (slOf encRq l), .fv (.int .i64 (m : Int))] [] (.osl 7) [(7, .row 74 28 (actsOf l m).length (((actsOf l m).flatMap encDe).map .fv))] := by
  have c0 : Fun Tryz.prog 29 [.nil, .fv (.int .i64 0)] (.agg ((encCf (conf0 4)).map .fv)) := by
    have := conf_T [] 0 (by simp) (by omega)
    rw [confOf_zero] at this
    exact Fun.nil1 this
  have hc0 := conf0_ok 4
  have hsl := hc0.sl
  have hA : actsOf l m = (conf0 4).ss.map deSw ++ actsL (conf0 4) (l.take m) := rfl
  generalize conf0 4 = c at *
  refine FunO.bodyL tbl_ok Tryz.func34 rfl (by kernel_rfl) rfl rfl rfl ?_
  repeat' (first | (apply X.loE; (· exact aR); (· first | exact .callL rfl rfl rfl (c0) rfl | exact bl (c0))) | refine X.loc ?_ | refine nx ?_ | refine X.cdT ?_ | refine X.cdF ?_ | refine cb ?_ ?_ | (refine cc ?_ ?_ <;> intro hcond) | (apply X.gsE; (· exact aR); (· exact aV); (· exact aW); (· intro hc; first | exact .callG rfl rfl rfl (c0) rfl | exact bg (c0)); (· exact aR)) | refine rb ?_ | refine nd ?_ | refine dk ?_ | fail)
  refine WP.loop (ι := Nat) (fun k => ⟨[(0, .fv (slOf encRq l)), (1, .fv (.int .i64 (m : Int))), (5, .osl 900), (6, .optr 6 0), (18, .fv (slOf encSw c.ss)), (19, .fv (.int .i64 c.ss.length)), (20, .fv (.int .i64 k))], [(6, .box 26 ((encCf c).map .fv)), (900, .row 74 28 ((c.ss.take k).map deSw).length ((((c.ss.take k).map deSw).flatMap encDe).map .fv))]⟩) (fun k => k ≤ c.ss.length) (fun k => c.ss.length - k) 0 (by omega) ?_ ?_
  · try dsimp only
    rw [List.take_zero, List.map_nil]
    exact tq [(900, .nil)] []
  rintro k hk
  try dsimp only
  by_cases hlt : k < c.ss.length
  case pos =>
    obtain ⟨x, hx⟩ : ∃ x, c.ss[k]? = some x := ⟨_, List.getElem?_eq_getElem hlt⟩
    have hs : (c.ss.take (k + 1)).map deSw = (c.ss.take k).map deSw ++ [deSw x] := by
      rw [List.take_add_one, hx, List.map_append]
      rfl
    have hQ : ((c.ss.take k).map deSw).length ≤ 200 := by
      rw [List.length_map, List.length_take]
      omega
    generalize (c.ss.take k).map deSw = Q at *
    repeat' (first | (apply X.loE; (· exact aR); (· first | (exact .eff (.idxS rfl rfl rfl encSw_len hx)))) | refine X.loc ?_ | refine nx ?_ | refine X.cdT ?_ | refine X.cdF ?_ | refine cb ?_ ?_ | (refine cc ?_ ?_ <;> intro hcond) | (apply X.gsE; (· exact aR); (· exact aV); (· exact aW); (· intro hc; first | (exact .eff (.idxS rfl rfl rfl encSw_len hx))); (· exact aR)) | refine rb ?_ | refine nd ?_ | refine dk ?_ | fail)
    refine ⟨k + 1, by omega, by omega, ?_⟩
    try dsimp only
    rw [hs]
    refine St.to [(900, .id 28)] [] rfl rfl ?_ ?_ <;> (repeat' (first | exact tA | refine t1 ?_ | exact tB | refine t2 ?_ ?_ | refine t3 ?_ | refine t4 ?_ ?_ | refine .ofEq ?_ | refine OB.To.cut rfl rfl ?_ ?_ ?_ ?_ | refine OB.To.box rfl rfl ?_ | refine ⟨⟨_, rfl, ?_⟩, ?_⟩ | refine ⟨?_, ?_⟩ | fail))
    all_goals first | omega | (simp; done) | (simp only [List.flatMap_append, List.map_append]; rfl)
  rw [List.take_of_length_le (by omega)]
  have hBl : (c.ss.map deSw).length ≤ 12 := by rw [List.length_map]; exact hsl
  generalize c.ss.map deSw = B at *
  repeat' (first | refine X.loc ?_ | refine nx ?_ | refine X.cdT ?_ | refine X.cdF ?_ | refine cb ?_ ?_ | (refine cc ?_ ?_ <;> intro hcond) | refine rb ?_ | refine nd ?_ | refine dk ?_ | fail)
  refine WP.loop (ι := Nat) (fun k => ⟨[(0, .fv (slOf encRq l)), (1, .fv (.int .i64 (m : Int))), (5, .osl 902), (6, .optr 901 0), (9, .fv (.int .i64 k))], [(901, .box 26 ((encCf (actsC c (l.take k))).map .fv)), (902, .row 74 28 (B ++ actsL c (l.take k)).length (((B ++ actsL c (l.take k)).flatMap encDe).map .fv))]⟩) (fun k => k ≤ l.length ∧ k ≤ m) (fun k => m - k) 0 (by omega) ?_ ?_
  · try dsimp only
    rw [List.take_zero, actsL, List.append_nil, show actsC c [] = c from rfl]
    exact tq [(901, .id 6), (902, .id 900)] []
  rintro k ⟨hk, hkm⟩
  try dsimp only
  by_cases hlt : k < l.length ∧ k < m
  case neg =>
    have e : l.take k = l.take m := by
      rcases Nat.lt_or_ge k m with h | h
      · rw [List.take_of_length_le (by omega), List.take_of_length_le (by omega)]
      · rw [show k = m by omega]
    rw [e, ← hA]
    generalize actsOf l m = W at *
    repeat' (first | refine X.loc ?_ | refine nx ?_ | refine X.cdT ?_ | refine X.cdF ?_ | refine cb ?_ ?_ | (refine cc ?_ ?_ <;> intro hcond) | refine rb ?_ | refine nd ?_ | refine dk ?_ | fail)
    exact rq ⟨[(4, .osl 7)], [(7, .row 74 28 W.length ((W.flatMap encDe).map .fv))]⟩ (tq [(7, .id 902)] [])
  case pos =>
    obtain ⟨x, hx⟩ : ∃ x, l[k]? = some x := ⟨_, List.getElem?_eq_getElem hlt.1⟩
    have hxo := hok x (List.mem_of_getElem? hx)
    have e1 : l.take (k + 1) = l.take k ++ [x] := take_succ hx
    have hcs : actsC c (l.take (k + 1)) = stepC (actsC c (l.take k)) (actK (actsC c (l.take k)) x) := by rw [e1, actsC_snoc]
    have hls : B ++ actsL c (l.take (k + 1)) = (B ++ actsL c (l.take k)) ++ [actK (actsC c (l.take k)) x] := by rw [e1, actsL_snoc, List.append_assoc]
    have hc := actsC_ok hc0 (l.take k)
    have hQ : (B ++ actsL c (l.take k)).length ≤ 200 := by
      rw [List.length_append, actsL_len, List.length_take]
      omega
    generalize (B ++ actsL c (l.take k)) = Q at *
    generalize actsC c (l.take k) = C at *
    have hch := change_T x hxo
    have n0 := hxo.kind
    have n2 := hxo.b
    have n3 := hxo.c
    unfold N64 at n2 n3
    have q16 := quoT_bd n0 (m := 16) (by omega)
    have k1 := picked_T (x.kind.tdiv 16) 3 (by omega) (by omega) (by omega)
    have k2 := picked_T x.c 2 n3.1 n3.2 (by omega)
    have k3 := picked_T x.b 5 n2.1 n2.2 (by omega)
    obtain ⟨id, f, hfr, hF, _⟩ := frameE_T C hc x hxo
    have hcfit := hc.fit
    have hap := fun a => apply_T C a hcfit
    have h78 := fun a h => step78 hc (a := a) h
    unfold actK at hcs hls
    generalize changeOf x = B1 at *
    generalize pick (x.kind.tdiv 16) 3 = v at *
    generalize pick x.c 2 = c2 at *
    generalize pick x.b 5 = b5 at *
    rw [hfr] at hcs hls
    dsimp only at hcs hls
    by_cases v0 : v = 0
    · rw [if_pos v0] at hcs hls
      have ha := hap (deSe id f)
      have h3 := h78 (deSe id f) (.inr rfl)
      unfold stepC at hcs
      rw [h3, if_neg (by decide)] at hcs
      rw [h3] at ha
      generalize applyR C (deSe id f) = R at *
      repeat' (first | (apply X.loE; (· exact aR); (· first | (refine .eff (.quoT rfl rfl ?_ ?_) <;> first | assumption | omega) | (exact .eff (.idxS rfl rfl rfl encRq_len hx)) | exact .callL rfl rfl rfl (by first | exact hch | exact k1 | exact k2 | exact k3 | exact hF | exact ha) rfl | exact bl (hch) | exact bl (k1) | exact bl (k2) | exact bl (k3) | exact bl (hF) | exact bl (ha))) | refine X.loc ?_ | refine nx ?_ | refine X.cdT ?_ | refine X.cdF ?_ | refine cb ?_ ?_ | (refine cc ?_ ?_ <;> intro hcond) | (apply X.gsE; (· exact aR); (· exact aV); (· exact aW); (· intro hc; first | (refine .eff (.quoT rfl rfl ?_ ?_) <;> first | assumption | omega) | (exact .eff (.idxS rfl rfl rfl encRq_len hx)) | exact .callG rfl rfl rfl (by first | exact hch | exact k1 | exact k2 | exact k3 | exact hF | exact ha) rfl | exact bg (hch) | exact bg (k1) | exact bg (k2) | exact bg (k3) | exact bg (hF) | exact bg (ha)); (· exact aR)) | refine rb ?_ | refine nd ?_ | refine dk ?_ | fail)
      refine ⟨k + 1, by omega, by omega, ?_⟩
      try dsimp only
      rw [hcs, hls]
      refine St.to [(902, .id 84)] [] rfl rfl ?_ ?_ <;> (repeat' (first | exact tA | refine t1 ?_ | exact tB | refine t2 ?_ ?_ | refine t3 ?_ | refine t4 ?_ ?_ | refine .ofEq ?_ | refine OB.To.cut rfl rfl ?_ ?_ ?_ ?_ | refine OB.To.box rfl rfl ?_ | refine ⟨⟨_, rfl, ?_⟩, ?_⟩ | refine ⟨?_, ?_⟩ | fail))
      all_goals first | omega | (simp; done) | (simp only [List.flatMap_append, List.map_append]; rfl)
    rw [if_neg v0] at hcs hls
    by_cases v1 : v = 1 ∧ c2 = 0
    · rw [if_pos v1] at hcs hls
      have ha := hap (deSy b5)
      have h3 := h78 (deSy b5) (.inl rfl)
      unfold stepC at hcs
      rw [h3, if_neg (by decide)] at hcs
      rw [h3] at ha
      generalize applyR C (deSy b5) = R at *
      have v11 := v1.1
      have v12 := v1.2
      repeat' (first | (apply X.loE; (· exact aR); (· first | (refine .eff (.quoT rfl rfl ?_ ?_) <;> first | assumption | omega) | (exact .eff (.idxS rfl rfl rfl encRq_len hx)) | exact .callL rfl rfl rfl (by first | exact hch | exact k1 | exact k2 | exact k3 | exact ha) rfl | exact bl (hch) | exact bl (k1) | exact bl (k2) | exact bl (k3) | exact bl (ha))) | refine X.loc ?_ | refine nx ?_ | refine X.cdT ?_ | refine X.cdF ?_ | refine cb ?_ ?_ | (refine cc ?_ ?_ <;> intro hcond) | (apply X.gsE; (· exact aR); (· exact aV); (· exact aW); (· intro hc; first | (refine .eff (.quoT rfl rfl ?_ ?_) <;> first | assumption | omega) | (exact .eff (.idxS rfl rfl rfl encRq_len hx)) | exact .callG rfl rfl rfl (by first | exact hch | exact k1 | exact k2 | exact k3 | exact ha) rfl | exact bg (hch) | exact bg (k1) | exact bg (k2) | exact bg (k3) | exact bg (ha)); (· exact aR)) | refine rb ?_ | refine nd ?_ | refine dk ?_ | fail)
      refine ⟨k + 1, by omega, by omega, ?_⟩
      try dsimp only
      rw [hcs, hls]
      refine St.to [(902, .id 84)] [] rfl rfl ?_ ?_ <;> (repeat' (first | exact tA | refine t1 ?_ | exact tB | refine t2 ?_ ?_ | refine t3 ?_ | refine t4 ?_ ?_ | refine .ofEq ?_ | refine OB.To.cut rfl rfl ?_ ?_ ?_ ?_ | refine OB.To.box rfl rfl ?_ | refine ⟨⟨_, rfl, ?_⟩, ?_⟩ | refine ⟨?_, ?_⟩ | fail))
      all_goals first | omega | (simp; done) | (simp only [List.flatMap_append, List.map_append]; rfl)
    rw [if_neg v1] at hcs hls
    have ha := hap B1
    unfold stepC at hcs
    generalize applyR C B1 = R at *
    generalize applyE C B1 = e at *
    by_cases v11 : v = 1
    · have v12 : c2 ≠ 0 := fun h => v1 ⟨v11, h⟩
      by_cases he : e = 0
      · rw [if_pos he] at hcs
        subst he
        repeat' (first | (apply X.loE; (· exact aR); (· first | (refine .eff (.quoT rfl rfl ?_ ?_) <;> first | assumption | omega) | (exact .eff (.idxS rfl rfl rfl encRq_len hx)) | exact .callL rfl rfl rfl (by first | exact hch | exact k1 | exact k2 | exact k3 | exact ha) rfl | exact bl (hch) | exact bl (k1) | exact bl (k2) | exact bl (k3) | exact bl (ha))) | refine X.loc ?_ | refine nx ?_ | refine X.cdT ?_ | refine X.cdF ?_ | refine cb ?_ ?_ | (refine cc ?_ ?_ <;> intro hcond) | (apply X.gsE; (· exact aR); (· exact aV); (· exact aW); (· intro hc; first | (refine .eff (.quoT rfl rfl ?_ ?_) <;> first | assumption | omega) | (exact .eff (.idxS rfl rfl rfl encRq_len hx)) | exact .callG rfl rfl rfl (by first | exact hch | exact k1 | exact k2 | exact k3 | exact ha) rfl | exact bg (hch) | exact bg (k1) | exact bg (k2) | exact bg (k3) | exact bg (ha)); (· exact aR)) | refine rb ?_ | refine nd ?_ | refine dk ?_ | fail)
        refine ⟨k + 1, by omega, by omega, ?_⟩
        try dsimp only
        rw [hcs, hls]
        refine St.to [(902, .id 84)] [] rfl rfl ?_ ?_ <;> (repeat' (first | exact tA | refine t1 ?_ | exact tB | refine t2 ?_ ?_ | refine t3 ?_ | refine t4 ?_ ?_ | refine .ofEq ?_ | refine OB.To.cut rfl rfl ?_ ?_ ?_ ?_ | refine OB.To.box rfl rfl ?_ | refine ⟨⟨_, rfl, ?_⟩, ?_⟩ | refine ⟨?_, ?_⟩ | fail))
        all_goals first | omega | (simp; done) | (simp only [List.flatMap_append, List.map_append]; rfl)
      · rw [if_neg he] at hcs
        repeat' (first | (apply X.loE; (· exact aR); (· first | (refine .eff (.quoT rfl rfl ?_ ?_) <;> first | assumption | omega) | (exact .eff (.idxS rfl rfl rfl encRq_len hx)) | exact .callL rfl rfl rfl (by first | exact hch | exact k1 | exact k2 | exact k3 | exact ha) rfl | exact bl (hch) | exact bl (k1) | exact bl (k2) | exact bl (k3) | exact bl (ha))) | refine X.loc ?_ | refine nx ?_ | refine X.cdT ?_ | refine X.cdF ?_ | refine cb ?_ ?_ | (refine cc ?_ ?_ <;> intro hcond) | (apply X.gsE; (· exact aR); (· exact aV); (· exact aW); (· intro hc; first | (refine .eff (.quoT rfl rfl ?_ ?_) <;> first | assumption | omega) | (exact .eff (.idxS rfl rfl rfl encRq_len hx)) | exact .callG rfl rfl rfl (by first | exact hch | exact k1 | exact k2 | exact k3 | exact ha) rfl | exact bg (hch) | exact bg (k1) | exact bg (k2) | exact bg (k3) | exact bg (ha)); (· exact aR)) | refine rb ?_ | refine nd ?_ | refine dk ?_ | fail)
        refine ⟨k + 1, by omega, by omega, ?_⟩
        try dsimp only
        rw [hcs, hls]
        refine St.to [(902, .id 84)] [] rfl rfl ?_ ?_ <;> (repeat' (first | exact tA | refine t1 ?_ | exact tB | refine t2 ?_ ?_ | refine t3 ?_ | refine t4 ?_ ?_ | refine .ofEq ?_ | refine OB.To.cut rfl rfl ?_ ?_ ?_ ?_ | refine OB.To.box rfl rfl ?_ | refine ⟨⟨_, rfl, ?_⟩, ?_⟩ | refine ⟨?_, ?_⟩ | fail))
        all_goals first | omega | (simp; done) | (simp only [List.flatMap_append, List.map_append]; rfl)
    · by_cases he : e = 0
      · rw [if_pos he] at hcs
        subst he
        repeat' (first | (apply X.loE; (· exact aR); (· first | (refine .eff (.quoT rfl rfl ?_ ?_) <;> first | assumption | omega) | (exact .eff (.idxS rfl rfl rfl encRq_len hx)) | exact .callL rfl rfl rfl (by first | exact hch | exact k1 | exact k2 | exact k3 | exact ha) rfl | exact bl (hch) | exact bl (k1) | exact bl (k2) | exact bl (k3) | exact bl (ha))) | refine X.loc ?_ | refine nx ?_ | refine X.cdT ?_ | refine X.cdF ?_ | refine cb ?_ ?_ | (refine cc ?_ ?_ <;> intro hcond) | (apply X.gsE; (· exact aR); (· exact aV); (· exact aW); (· intro hc; first | (refine .eff (.quoT rfl rfl ?_ ?_) <;> first | assumption | omega) | (exact .eff (.idxS rfl rfl rfl encRq_len hx)) | exact .callG rfl rfl rfl (by first | exact hch | exact k1 | exact k2 | exact k3 | exact ha) rfl | exact bg (hch) | exact bg (k1) | exact bg (k2) | exact bg (k3) | exact bg (ha)); (· exact aR)) | refine rb ?_ | refine nd ?_ | refine dk ?_ | fail)
        refine ⟨k + 1, by omega, by omega, ?_⟩
        try dsimp only
        rw [hcs, hls]
        refine St.to [(902, .id 84)] [] rfl rfl ?_ ?_ <;> (repeat' (first | exact tA | refine t1 ?_ | exact tB | refine t2 ?_ ?_ | refine t3 ?_ | refine t4 ?_ ?_ | refine .ofEq ?_ | refine OB.To.cut rfl rfl ?_ ?_ ?_ ?_ | refine OB.To.box rfl rfl ?_ | refine ⟨⟨_, rfl, ?_⟩, ?_⟩ | refine ⟨?_, ?_⟩ | fail))
        all_goals first | omega | (simp; done) | (simp only [List.flatMap_append, List.map_append]; rfl)
      · rw [if_neg he] at hcs
        repeat' (first | (apply X.loE; (· exact aR); (· first | (refine .eff (.quoT rfl rfl ?_ ?_) <;> first | assumption | omega) | (exact .eff (.idxS rfl rfl rfl encRq_len hx)) | exact .callL rfl rfl rfl (by first | exact hch | exact k1 | exact k2 | exact k3 | exact ha) rfl | exact bl (hch) | exact bl (k1) | exact bl (k2) | exact bl (k3) | exact bl (ha))) | refine X.loc ?_ | refine nx ?_ | refine X.cdT ?_ | refine X.cdF ?_ | refine cb ?_ ?_ | (refine cc ?_ ?_ <;> intro hcond) | (apply X.gsE; (· exact aR); (· exact aV); (· exact aW); (· intro hc; first | (refine .eff (.quoT rfl rfl ?_ ?_) <;> first | assumption | omega) | (exact .eff (.idxS rfl rfl rfl encRq_len hx)) | exact .callG rfl rfl rfl (by first | exact hch | exact k1 | exact k2 | exact k3 | exact ha) rfl | exact bg (hch) | exact bg (k1) | exact bg (k2) | exact bg (k3) | exact bg (ha)); (· exact aR)) | refine rb ?_ | refine nd ?_ | refine dk ?_ | fail)
        refine ⟨k + 1, by omega, by omega, ?_⟩
        try dsimp only
        rw [hcs, hls]
        refine St.to [(902, .id 84)] [] rfl rfl ?_ ?_ <;> (repeat' (first | exact tA | refine t1 ?_ | exact tB | refine t2 ?_ ?_ | refine t3 ?_ | refine t4 ?_ ?_ | refine .ofEq ?_ | refine OB.To.cut rfl rfl ?_ ?_ ?_ ?_ | refine OB.To.box rfl rfl ?_ | refine ⟨⟨_, rfl, ?_⟩, ?_⟩ | refine ⟨?_, ?_⟩ | fail))
        all_goals first | omega | (simp; done) | (simp only [List.flatMap_append, List.map_append]; rfl)
theorem actsF_T (l : List Rq) (m : Nat) (hok : ∀ r ∈ l, r.Ok) (hm : m ≤ 100) : Fun Tryz.prog 34 [.fv (slOf encRq l), .fv (.int .i64 (m : Int))] (.fv (slOf encDe (actsOf l m))) :=
  (acts_T l m hok hm).froz [7] (.frz rfl rfl rfl)

set_option maxHeartbeats 1000000 in
theorem eqAr_T (l : List Ar) (hl : l.length < 9223372036854775807) : Fun Tryz.prog 22 [.fv (slOf encAr l), .fv (slOf encAr l)] (.fv (.bool true)) := by
  refine Fun.body tbl_ok Tryz.func22 rfl (by kernel_rfl) rfl rfl rfl ?_
  repeat' (first | refine X.loc ?_ | refine nx ?_ | refine cb ?_ ?_ | (refine cc ?_ ?_ <;> intro hcond) | refine rb ?_ | refine nd ?_ | refine dk ?_ | fail)
  · exfalso
    simp at hcond
  refine WP.loop (ι := Nat) (fun k => ⟨[(0, .fv (slOf encAr l)), (1, .fv (slOf encAr l)), (12, .fv (.int .i64 l.length)), (13, .fv (.int .i64 k))], []⟩) (fun k => k ≤ l.length) (fun k => l.length - k) 0 (by omega) ?_ ?_
  · exact lq
  rintro k hk
  try dsimp only
  by_cases hlt : k < l.length
  case neg =>
    repeat' (first | refine X.loc ?_ | refine nx ?_ | refine X.cdT ?_ | refine X.cdF ?_ | refine cb ?_ ?_ | (refine cc ?_ ?_ <;> intro hcond) | refine rb ?_ | refine nd ?_ | refine dk ?_ | fail)
    refine .f1 (.inl rfl) rfl rfl
  case pos =>
    obtain ⟨x, hx⟩ : ∃ x, l[k]? = some x := ⟨_, List.getElem?_eq_getElem hlt⟩
    repeat' (first | refine X.loc ?_ | refine nx ?_ | refine X.cdT ?_ | refine X.cdF ?_ | refine cb ?_ ?_ | (refine cc ?_ ?_ <;> intro hcond) | refine rb ?_ | refine nd ?_ | refine dk ?_ | fail)
    · exfalso
      simp [beqL, beqV] at hcond
    · refine ⟨k + 1, by omega, by omega, ?_⟩
      exact lq
end Go.Proofs.YtmidechdlbcepaaGreat