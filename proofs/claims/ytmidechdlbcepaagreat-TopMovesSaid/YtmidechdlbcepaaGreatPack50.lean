import Derived.Test.YtmidechdlbcepaaGreatPack46
import Derived.Test.YtmidechdlbcepaaGreatPack48
import Derived.Test.YtmidechdlbcepaaGreatPack47
import Derived.Test.YtmidechdlbcepaaGreatPack49
import Derived.Test.YtmidechdlbcepaaGreatPack36
import Derived.Test.YtmidechdlbcepaaGreatPack33
import Derived.Test.YtmidechdlbcepaaGreatPack37
set_option linter.unusedSimpArgs false
set_option linter.unusedVariables false
namespace Go.Proofs.YtmidechdlbcepaaGreat
open Go.RowKit
set_option maxRecDepth 100000
theorem cfAt_K6 (c : Cf) {ch : Int} (h : 0 ≤ ch ∧ ch ≤ 5) : cfAt (K6 c) ch = c := by
  obtain ⟨n, rfl⟩ := Int.eq_ofNat_of_zero_le h.1
  unfold cfAt
  rw [Int.toNat_natCast]
  match n, (show n < 6 by omega) with
  | 0, _ | 1, _ | 2, _ | 3, _ | 4, _ | 5, _ => rfl
structure LikeP (g : Po → Po) : Prop where
  id : ∀ q, (g q).id = q.id
  sw : ∀ q, (g q).sw = q.sw
  mac : ∀ q, (g q).mac = q.mac
  ip : ∀ q, (g q).ip = q.ip
  ch : ∀ q, (g q).ch < 0 ↔ q.ch < 0
def mapP (c : Cf) (g : Po → Po) : Cf := { c with ps := c.ps.map g }
section
variable {c : Cf} {g : Po → Po}
theorem poAt_map (hg : LikeP g) (n : Int) : poAt (mapP c g) n = (poAt c n).map g := by
  show (c.ps.map g).find? (fun p => p.id == n) = _
  rw [List.find?_map]
  have : (fun p : Po => p.id == n) ∘ g = fun p => p.id == n := funext fun q => by simp [hg.id]
  rw [this]
  rfl
theorem tell_map (hg : LikeP g) (p : Po) (f : Fr) (net mac : Int) : tellG (g p) f net mac = tellG p f net mac := by
  unfold tellG
  rw [hg.id, hg.mac, hg.ip]
theorem ask_map (hg : LikeP g) (p : Po) (f : Fr) : askG (mapP c g) (g p) f = askG c p f := by
  unfold askG
  show (if 0 < (swAt c.ss (g p).sw).gate ∧ (swAt c.ss (g p).sw).gate = f.ipDst then [tellG (g p) f (swAt c.ss (g p).sw).id (60000 + (swAt c.ss (g p).sw).id)] else match (c.ps.map g).find? (askB f (swAt c.ss (g p).sw) (g p).id) with | some q => [tellG (g p) f (swAt c.ss (g p).sw).id q.mac] | none => []) = _
  have hb : askB f (swAt c.ss p.sw) p.id ∘ g = askB f (swAt c.ss p.sw) p.id := funext fun q => by simp [askB, hg.id, hg.sw, hg.ip]
  rw [hg.sw, hg.id, List.find?_map, hb]
  simp only [tell_map hg]
  cases c.ps.find? (askB f (swAt c.ss p.sw) p.id) with
  | none => rfl
  | some q => simp only [Option.map_some, hg.mac]
theorem goal_map (hg : LikeP g) (p q : Po) (f : Fr) : goalQ (mapP c g) (g p) f (g q) = goalQ c p f q := by
  have hs : (mapP c g).ss = c.ss := rfl
  have hl : ∀ t, ledFr f (g q) t = ledFr f q t := fun t => by unfold ledFr; rw [hg.mac]
  unfold goalQ
  simp only [hs, hg.sw, hg.id, hg.mac, hg.ip, hl, hg.ch]
theorem data_map (hg : LikeP g) (p : Po) (f : Fr) : dataG (mapP c g) (g p) f = dataG c p f := by
  unfold dataG
  have hs : (mapP c g).ss = c.ss := rfl
  have ha : allowB (mapP c g) = allowB c := rfl
  have hp : (mapP c g).ps = c.ps.map g := rfl
  rw [hs, hg.sw, ha, hp, List.flatMap_map]
  simp only [goal_map hg]
theorem led_map (hg : LikeP g) {p : Po} {id : Int} (hpo : poAt c id = some p) (f : Fr) : ledF (mapP c g) (g p).ch id f = ledF c p.ch id f := by
  unfold ledF
  rw [poAt_map hg, hpo]
  simp only [Option.map_some, hg.mac, hg.ip, ask_map hg, data_map hg, ne_eq, not_true_eq_false]
theorem comes_map (hg : LikeP g) {q : Po} {x : Gl} (hpo : poAt c x.to = some q) : comesG (mapP c g) (g q).ch x = comesG c q.ch x := by
  unfold comesG
  rw [poAt_map hg, hpo]
  have ha : allowB (mapP c g) = allowB c := rfl
  simp only [Option.map_some, hg.sw, ha, beq_self_eq_true]
theorem arr_map (hg : LikeP g) (hc : CfOk c) (hc2 : CfOk (mapP c g)) {ch ch2 : Int} (h1 : 0 ≤ ch ∧ ch ≤ 5) (h2 : 0 ≤ ch2 ∧ ch2 ≤ 5) {x : Gl} (hx : GlOk c x) : arrG (K6 (mapP c g)) ch2 x = arrG (K6 c) ch x := by
  obtain ⟨_, _, _, _, q, hq, hpo, h3, h4⟩ := hx
  have hq2 : g q ∈ (mapP c g).ps := List.mem_map_of_mem hq
  have hr := (hc2.pg _ hq2).1
  unfold PoR at hr
  have h5 := hg.ch q
  unfold arrG
  rw [cfAt_K6 _ h1, cfAt_K6 _ h2, poAt_map hg, hpo]
  simp only [Option.map_some]
  rw [cfAt_K6 _ ⟨h3, h4⟩, cfAt_K6 _ (by omega), comes_map hg hpo]
theorem del_map (hg : LikeP g) (hc : CfOk c) (hc2 : CfOk (mapP c g)) (id : Int) (f : Fr) : delE (mapP c g) id f = delE c id f ∧ delR (mapP c g) id f = delR c id f := by
  unfold delE delR
  rw [cfMay_iff.2 hc, cfMay_iff.2 hc2, poAt_map hg]
  simp only [Bool.true_eq_false, if_false]
  cases hpo : poAt c id with
  | none => exact ⟨rfl, rfl⟩
  | some p =>
    simp only [Option.map_some]
    by_cases h0 : p.ch < 0
    · rw [if_pos h0, if_pos h0, if_pos ((hg.ch p).2 h0), if_pos ((hg.ch p).2 h0)]
      exact ⟨rfl, rfl⟩
    have h0' : ¬ (g p).ch < 0 := fun h => h0 ((hg.ch p).1 h)
    rw [if_neg h0, if_neg h0, if_neg h0', if_neg h0']
    refine ⟨rfl, ?_⟩
    by_cases hff : frameFault f = 0
    · rw [if_neg (by omega), if_neg (by omega)]
      have hp := (poAt_mem hpo).1
      have r1 := (hc.pg p hp).1
      have r2 := (hc2.pg (g p) (List.mem_map_of_mem hp)).1
      unfold PoR at r1 r2
      have h1 : 0 ≤ p.ch ∧ p.ch ≤ 5 := by omega
      have h2 : 0 ≤ (g p).ch ∧ (g p).ch ≤ 5 := by omega
      unfold sentOfF
      rw [cfAt_K6 _ h1, cfAt_K6 _ h2, led_map hg hpo]
      have hG : ∀ x ∈ ledF c p.ch id f, arrG (K6 (mapP c g)) (g p).ch x = arrG (K6 c) p.ch x := fun x hx => arr_map hg hc hc2 h1 h2 (led_ok hc h1 hff hx)
      congr 1
      funext n
      generalize ledF c p.ch id f = G at *
      induction G with
      | nil => rfl
      | cons x G ih =>
        rw [List.flatMap_cons, List.flatMap_cons, hG x (by simp), ih fun y hy => hG y (by simp [hy])]
    · rw [if_pos hff, if_pos hff]
end
def mvP (n m : Int) (q : Po) : Po := if q.id = n ∧ 0 ≤ q.ch then { q with ch := m } else q
theorem mvP_like (n : Int) {m : Int} (hm : 0 ≤ m) : LikeP (mvP n m) := by
  refine ⟨fun q => ?_, fun q => ?_, fun q => ?_, fun q => ?_, fun q => ?_⟩ <;> unfold mvP <;> split
  any_goals rfl
  rename_i h
  dsimp only
  omega
theorem move_is {c : Cf} (hc : CfOk c) {k : Nat} {p : Po} (hk : c.ps[k]? = some p) (h0 : 0 ≤ p.ch) (m : Int) : ({ c with ps := c.ps.modify k fun q => { q with ch := m } } : Cf) = mapP c (mvP p.id m) := by
  unfold mapP
  congr 1
  apply List.ext_getElem?
  intro i
  rw [List.getElem?_modify, List.getElem?_map]
  cases hi : c.ps[i]? with
  | none => rfl
  | some q =>
    simp only [Option.map_some, Option.map_eq_map]
    congr 1
    by_cases e : k = i
    · subst e
      rw [hk] at hi
      obtain rfl := Option.some.inj hi
      rw [if_pos rfl, mvP, if_pos ⟨rfl, h0⟩]
    · rw [if_neg e, mvP, if_neg]
      rintro ⟨h, _⟩
      obtain ⟨g1, e1⟩ := List.getElem?_eq_some_iff.1 hk
      obtain ⟨g2, e2⟩ := List.getElem?_eq_some_iff.1 hi
      have hpw := List.pairwise_iff_getElem.1 hc.ids
      rcases Nat.lt_or_gt_of_ne e with h3 | h3
      · exact hpw k i g1 g2 h3 (by rw [e1, e2, h])
      · exact hpw i k g2 g1 h3 (by rw [e1, e2, h])
theorem move_del {c : Cf} (hc : CfOk c) {k : Nat} {p : Po} (hk : c.ps[k]? = some p) (h0 : 0 ≤ p.ch) {m : Int} (hm : 0 ≤ m ∧ m ≤ 5) (id : Int) (f : Fr) : CfOk { c with ps := c.ps.modify k fun q => { q with ch := m } } ∧ delE { c with ps := c.ps.modify k fun q => { q with ch := m } } id f = delE c id f ∧ delR { c with ps := c.ps.modify k fun q => { q with ch := m } } id f = delR c id f := by
  have hc2 : CfOk { c with ps := c.ps.modify k fun q => { q with ch := m } } := by
    have := hc.apply (bind_E hc hk (m := m) (by omega))
    rwa [← applyR_ok (bind_E hc hk (by omega)), bind_R hc hk (by omega)] at this
  refine ⟨hc2, ?_⟩
  rw [move_is hc hk h0 m] at hc2 ⊢
  exact del_map (mvP_like _ hm.1) hc hc2 id f
structure Fb where
  c : Cf
  K : Kn
structure Rep where
  code : Int
  come : List Ar
def encRep (r : Rep) : List FV := [.int .i64 r.code, slOf encAr r.come]
theorem encRep_len (r : Rep) : (encRep r).length = 2 := rfl
def repE (c : Cf) (id : Int) (f : Fr) : Int := match poAt c id with
  | none => 6
  | some q => if q.ch < 0 then 6 else frameFault f
def repR (c : Cf) (K : Kn) (id : Int) (f : Fr) : List Ar := match poAt c id with
  | none => []
  | some q => if q.ch < 0 then [] else if frameFault f ≠ 0 then [] else sentOfF K q.ch id f
def actR (s : Fb) (a : De) : Rep :=
  if a.kind = 7 then ⟨if a.n < 0 ∨ 6 ≤ a.n then 2 else 0, []⟩
  else if a.kind = 8 then ⟨repE s.c a.n a.fr, repR s.c s.K a.n a.fr⟩
  else ⟨applyE s.c a, []⟩
def actS (s : Fb) (a : De) : Fb :=
  if a.kind = 7 then (if a.n < 0 ∨ 6 ≤ a.n then s else ⟨s.c, s.K.set a.n.toNat (some s.c)⟩)
  else if a.kind = 8 then s
  else ⟨stepC s.c a, s.K⟩
structure FbOk (s : Fb) : Prop where
  c : CfOk s.c
  k : KnOk s.K
  six : s.K.length = 6
theorem KnOk.set {K : Kn} (h : KnOk K) {c : Cf} (hc : CfOk c) (n : Nat) : KnOk (K.set n (some c)) := ⟨fun k hk x hx => by
  rcases List.mem_or_eq_of_mem_set hk with hk | rfl
  · exact h.ok k hk x hx
  · obtain rfl := Option.some.inj hx
    exact hc⟩
theorem FbOk.act {s : Fb} (h : FbOk s) (a : De) : FbOk (actS s a) := by
  unfold actS
  split
  · split
    · exact h
    · exact ⟨h.c, h.k.set h.c _, by rw [List.length_set]; exact h.six⟩
  · split
    · exact h
    · exact ⟨h.c.step a, h.k, h.six⟩
def fb0 : Fb := ⟨cf0, [none, none, none, none, none, none]⟩
theorem fb0_ok : FbOk fb0 := ⟨CfOk.nil, ⟨fun k hk x hx => by
  simp only [fb0, List.mem_cons, List.not_mem_nil, or_false, or_self] at hk
  subst hk
  cases hx⟩, rfl⟩
def runR : Fb → List De → List Rep
  | _, [] => []
  | s, a :: l => actR s a :: runR (actS s a) l
def runS (s : Fb) (l : List De) : Fb := l.foldl actS s
theorem runR_len : ∀ (l : List De) (s : Fb), (runR s l).length = l.length
  | [], _ => rfl
  | a :: l, s => by rw [runR, List.length_cons, List.length_cons, runR_len l]
theorem runS_ok {s : Fb} (h : FbOk s) : ∀ l : List De, FbOk (runS s l) := fun l => by
  induction l generalizing s with
  | nil => exact h
  | cons a l ih => exact ih (h.act a)
theorem runS_snoc (s : Fb) (l : List De) (a : De) : runS s (l ++ [a]) = actS (runS s l) a := by simp [runS]
theorem runR_snoc : ∀ (s : Fb) (l : List De) (a : De), runR s (l ++ [a]) = runR s l ++ [actR (runS s l) a]
  | s, [], a => rfl
  | s, b :: l, a => by
    rw [List.cons_append, runR, runR, runR_snoc (actS s b) l a]
    rfl
theorem runR_app : ∀ (s : Fb) (l m : List De), runR s (l ++ m) = runR s l ++ runR (runS s l) m
  | s, [], m => rfl
  | s, b :: l, m => by
    rw [List.cons_append, runR, runR, runR_app (actS s b) l m]
    rfl
theorem runS_app (s : Fb) (l m : List De) : runS s (l ++ m) = runS (runS s l) m := by simp [runS]
theorem flsK_set {K : Kn} (h6 : K.length = 6) {c : Cf} {n : Nat} (hn : n < 6) : (flsK K).set n (compF_ c (n : Int)) = flsK (K.set n (some c)) := by
  unfold flsK
  apply List.ext_getElem?
  intro i
  rw [List.getElem?_set]
  rcases Nat.lt_or_ge i 6 with hi | hi
  · rw [List.getElem?_map, List.getElem?_map, List.getElem?_range hi, List.length_map, List.length_range]
    simp only [Option.map_some]
    by_cases e : n = i
    · subst e
      rw [if_pos rfl, if_pos hn, List.getD_eq_getElem?_getD, List.getElem?_set, if_pos rfl, if_pos (by omega)]
      rfl
    · rw [if_neg e, List.getD_eq_getElem?_getD, List.getD_eq_getElem?_getD, List.getElem?_set, if_neg e]
  · rw [if_neg (by omega), List.getElem?_eq_none (by simp; omega), List.getElem?_eq_none (by simp; omega)]
theorem flsK_ok {K : Kn} (hK : KnOk K) : FlsOk (flsK K) := by
  have key : ∀ {P : List Fl → Prop}, (∀ (c : Cf) (ch : Int), CfOk c → 0 ≤ ch ∧ ch ≤ 5 → P (compF_ c ch)) → P [] → ∀ L ∈ flsK K, P L := fun h1 h2 L hL => by
    obtain ⟨i, hi, rfl⟩ := List.mem_map.1 hL
    have := List.mem_range.1 hi
    have hk := hK.at i
    unfold flK
    split
    · exact h2
    · rename_i c hc
      exact h1 c i (hk c hc) (by omega)
  exact ⟨by simp [flsK], key (fun c ch hc h => comp_room hc h) ⟨fun f hf => by simp at hf, by simp⟩, key (fun c ch _ _ => comp_strict c ch) .nil, key (fun c ch hc _ => comp_len hc) (by simp)⟩
def scrE (l : List De) : Int := if 300 < l.length then 1 else 0
def scrR (l : List De) : List Rep := if 300 < l.length then [] else runR fb0 l
def scrC (l : List De) : Cf := if 300 < l.length then cf0 else (runS fb0 l).c
theorem send_rep {s : Fb} (h : FbOk s) (id : Int) (f : Fr) : sendE s.c id f = repE s.c id f ∧ sendR s.c (flsK s.K) id f = repR s.c s.K id f ∧ (∀ q, poAt s.c id = some q → 0 ≤ q.ch → pkE f id 0 0 = 0 → SendOk (flsK s.K) q.ch (pkOf f id 0 0)) := by
  unfold sendE sendR repE repR
  cases hpo : poAt s.c id with
  | none => exact ⟨rfl, rfl, fun q hq => by cases hq⟩
  | some q =>
    obtain ⟨hq, hid⟩ := poAt_mem hpo
    have hqr := (h.c.pg q hq).1
    unfold PoR at hqr
    dsimp only
    rw [pkE_id (by omega)]
    refine ⟨rfl, ?_, fun p hp h0 he => ?_⟩
    · by_cases h0 : q.ch < 0
      · rw [if_pos h0, if_pos h0]
      rw [if_neg h0, if_neg h0]
      by_cases hff : frameFault f = 0
      · rw [if_neg (show ¬ frameFault f ≠ 0 by omega), if_neg (show ¬ frameFault f ≠ 0 by omega)]
        exact send_sorted h.k (by omega) hff (by omega)
      · rw [if_pos hff, if_pos hff]
    · obtain rfl := Option.some.inj hp
      exact send_ok h.k (by omega) he (by omega)
theorem CfOk.fitM {c : Cf} (h : CfOk c) : c.Fit := ⟨by have := h.sl; omega, by have := h.pl; omega, by have := h.al; omega⟩
theorem copyW_T (c : Cf) (hl : c.Fit) : Fun Tryz.prog 32 [.agg ((encCf c).map .fv)] (.agg ((encCf c).map .fv)) :=
  (copy_T c hl).froz [7, 8, 9] (.agg (.cons (.frz rfl rfl rfl) (.cons (.frz rfl rfl rfl) (.cons (.frz rfl rfl rfl) .nil))))
theorem setFabC (c d : Cf) (Fs : List (List Fl)) : setC ((encFab c Fs).map .fv) 0 ((encCf d).map .fv) = some ((encFab d Fs).map .fv) := by
  unfold encFab
  generalize Fs.map (slOf encFl) = r
  cases r with
  | nil => rfl
  | cons a r => rfl
set_option maxHeartbeats 8000000 in
theorem act_T (s : Fb) (a : De) (h : FbOk s) : FunO Tryz.prog 51 [.optr 1000 0, .agg ((encDe a).map .fv)] [(1000, fabB s.c (flsK s.K))] (.agg [.fv (.int .i64 (actR s a).code), .fv (slOf encAr (actR s a).come)]) [(1000, fabB (actS s a).c (flsK (actS s a).K))] := by
  obtain ⟨hc, hk, h6⟩ := h
  have hF := flsK_ok hk
  obtain ⟨e1, e2, e3⟩ := send_rep ⟨hc, hk, h6⟩ a.n a.fr
  refine FunO.bodyL tbl_ok Tryz.func51 rfl (by kernel_rfl) rfl rfl rfl ?_
  unfold actR actS fabB
  by_cases k7 : a.kind = 7
  · rw [if_pos k7, if_pos k7]
    by_cases hr : a.n < 0 ∨ 6 ≤ a.n
    · rw [if_pos hr, if_pos hr]
      obtain ⟨A0, A1, A2, A3, A4, A5, hA⟩ := six hF.len
      rw [hA]
      try dsimp only
      repeat' (first | refine X.loc ?_ | refine nx ?_ | refine X.cdT ?_ | refine X.cdF ?_ | refine cb ?_ ?_ | (refine cc ?_ ?_ <;> intro hcond) | refine rb ?_ | refine nd ?_ | refine dk ?_ | fail)
      exact rq ⟨[(4, .optr 4 0)], [(4, .box 55 [.fv (.int .i64 2), .fv (.sl [] 0)]), (1000, .box 88 ((encFab s.c [A0, A1, A2, A3, A4, A5]).map .fv))]⟩ (tq [] [])
    · rw [if_neg hr, if_neg hr]
      obtain ⟨n, hn⟩ := Int.eq_ofNat_of_zero_le (show 0 ≤ a.n by omega)
      have u1 := sync_T s.c (flsK s.K) a.n hc (by omega) hF
      have hs := flsK_set h6 (c := s.c) (n := n) (by omega)
      rw [hn, Int.toNat_natCast, hs] at u1
      rw [hn, Int.toNat_natCast]
      try dsimp only
      have hF2 := flsK_ok (hk.set hc n)
      obtain ⟨A0, A1, A2, A3, A4, A5, hA⟩ := six hF.len
      obtain ⟨B0, B1, B2, B3, B4, B5, hB⟩ := six hF2.len
      rw [hA, hB] at u1
      rw [hA, hB]
      unfold fabB at u1
      rw [← hn] at u1
      clear hs hF hF2 hA hB
      repeat' (first | refine X.loc ?_ | refine nx ?_ | refine X.cdT ?_ | refine X.cdF ?_ | refine cb ?_ ?_ | (refine cc ?_ ?_ <;> intro hcond) | refine rb ?_ | refine X.c0 (u1) ?_ | refine nd ?_ | refine dk ?_ | fail)
      exact rq ⟨[(4, .optr 4 0)], [(4, .box 55 [.fv (.int .i64 0), .fv (.sl [] 0)]), (1000, .box 88 ((encFab s.c [B0, B1, B2, B3, B4, B5]).map .fv))]⟩ (tq [] [])
  rw [if_neg k7, if_neg k7]
  by_cases k8 : a.kind = 8
  · rw [if_pos k8, if_pos k8]
    try dsimp only
    have u1 := send_T s.c (flsK s.K) a.n a.fr hc.pl hF.len e3
    rw [e1, e2] at u1
    generalize repE s.c a.n a.fr = e at *
    generalize repR s.c s.K a.n a.fr = R at *
    unfold fabB at u1
    obtain ⟨A0, A1, A2, A3, A4, A5, hA⟩ := six hF.len
    rw [hA] at u1 ⊢
    clear e1 e2 e3 hF hA
    repeat' (first | refine X.loc ?_ | refine nx ?_ | refine X.cdT ?_ | refine X.cdF ?_ | refine cb ?_ ?_ | (refine cc ?_ ?_ <;> intro hcond) | refine rb ?_ | refine X.c0 (u1) ?_ | refine nd ?_ | refine dk ?_ | fail)
    exact rq ⟨[(4, .optr 4 0)], [(4, .box 55 [.fv (.int .i64 e), .fv (slOf encAr R)]), (1000, .box 88 ((encFab s.c [A0, A1, A2, A3, A4, A5]).map .fv))]⟩ (tq [] [52])
  · rw [if_neg k8, if_neg k8]
    try dsimp only
    have c1 := apply_T s.c a hc.fitM
    obtain ⟨A0, A1, A2, A3, A4, A5, hA⟩ := six hF.len
    rw [hA]
    clear e1 e2 e3 hF hA
    unfold stepC
    by_cases h0 : applyE s.c a = 0
    · rw [if_pos h0, h0]
      rw [h0] at c1
      have s1 := setFabC s.c (applyR s.c a) [A0, A1, A2, A3, A4, A5]
      generalize applyR s.c a = d at *
      repeat' (first | (apply X.loE; (· exact aR); (· first | (exact .eff (.loadO rfl rfl (readFabC s.c _))) | exact .callL rfl rfl rfl (c1) rfl | exact bl (c1))) | refine X.loc ?_ | (apply X.stBE; (· exact aS); (· exact s1); (· exact aE)) | refine nx ?_ | refine X.cdT ?_ | refine X.cdF ?_ | refine cb ?_ ?_ | (refine cc ?_ ?_ <;> intro hcond) | (apply X.gsE; (· exact aR); (· exact aV); (· exact aW); (· intro hc; first | (exact .eff (.loadO rfl rfl (readFabC s.c _))) | exact .callG rfl rfl rfl (c1) rfl | exact bg (c1)); (· exact aR)) | refine rb ?_ | refine nd ?_ | refine dk ?_ | fail)
      exact rq ⟨[(4, .optr 4 0)], [(4, .box 55 [.fv (.int .i64 0), .fv (.sl [] 0)]), (1000, .box 88 ((encFab d [A0, A1, A2, A3, A4, A5]).map .fv))]⟩ (tq [] [])
    · rw [if_neg h0]
      generalize applyE s.c a = e at *
      generalize applyR s.c a = d at *
      repeat' (first | (apply X.loE; (· exact aR); (· first | (exact .eff (.loadO rfl rfl (readFabC s.c _))) | exact .callL rfl rfl rfl (c1) rfl | exact bl (c1))) | refine X.loc ?_ | refine nx ?_ | refine X.cdT ?_ | refine X.cdF ?_ | refine cb ?_ ?_ | (refine cc ?_ ?_ <;> intro hcond) | (apply X.gsE; (· exact aR); (· exact aV); (· exact aW); (· intro hc; first | (exact .eff (.loadO rfl rfl (readFabC s.c _))) | exact .callG rfl rfl rfl (c1) rfl | exact bg (c1)); (· exact aR)) | refine rb ?_ | refine nd ?_ | refine dk ?_ | fail)
      exact rq ⟨[(4, .optr 4 0)], [(4, .box 55 [.fv (.int .i64 e), .fv (.sl [] 0)]), (1000, .box 88 ((encFab s.c [A0, A1, A2, A3, A4, A5]).map .fv))]⟩ (tq [] [])
set_option maxHeartbeats 8000000 in
theorem run0s_T (l : List De) (hl : l.length < 9223372036854775807) : FunO Tryz.prog 25 [.fv (slOf encDe l)] [] (.tup [.osl 7, .agg ((encCf (scrC l)).map .fv), .fv (.int .i64 (scrE l))]) [(7, .row 55 2 (scrR l).length (((scrR l).flatMap encRep).map .fv))] := by
  refine FunO.bodyL tbl_ok Tryz.func25 rfl (by kernel_rfl) rfl rfl rfl ?_
  unfold scrC scrE scrR
  by_cases h3 : 300 < l.length
  · rw [if_pos h3, if_pos h3, if_pos h3]
    repeat' (first | refine X.loc ?_ | refine nx ?_ | refine X.cdT ?_ | refine X.cdF ?_ | refine cb ?_ ?_ | (refine cc ?_ ?_ <;> intro hcond) | refine rb ?_ | refine nd ?_ | refine dk ?_ | fail)
    exact rq ⟨[(2, .osl 7), (3, .optr 3 0), (4, .fv (.int .i64 1))], [(7, .row 55 2 0 []), (3, .box 26 ((encCf cf0).map .fv))]⟩ (tq [(7, .nil)] [])
  rw [if_neg h3, if_neg h3, if_neg h3]
  repeat' (first | refine X.loc ?_ | refine nx ?_ | refine X.cdT ?_ | refine X.cdF ?_ | refine cb ?_ ?_ | (refine cc ?_ ?_ <;> intro hcond) | refine rb ?_ | refine nd ?_ | refine dk ?_ | fail)
  refine WP.loop (ι := Nat) (fun k => ⟨[(3, .optr 3 0), (5, .optr 900 0), (6, .osl 901), (15, .fv (slOf encDe l)), (16, .fv (.int .i64 l.length)), (17, .fv (.int .i64 k))], [(3, .box 26 ((encCf cf0).map .fv)), (900, fabB (runS fb0 (l.take k)).c (flsK (runS fb0 (l.take k)).K)), (901, .row 55 2 (runR fb0 (l.take k)).length (((runR fb0 (l.take k)).flatMap encRep).map .fv))]⟩) (fun k => k ≤ l.length) (fun k => l.length - k) 0 (by omega) ?_ ?_
  · try dsimp only
    rw [List.take_zero]
    have e0 : (encFab (runS fb0 []).c (flsK (runS fb0 []).K)).map AV.fv = (encCf cf0).map AV.fv ++ [.fv (.sl [] 0), .fv (.sl [] 0), .fv (.sl [] 0), .fv (.sl [] 0), .fv (.sl [] 0), .fv (.sl [] 0)] := rfl
    unfold fabB
    rw [e0, show runR fb0 [] = [] from rfl]
    exact tq [(900, .id 14), (901, .nil)] []
  rintro k hk
  try dsimp only
  have hok := runS_ok fb0_ok (l.take k)
  have hrl := runR_len (l.take k) fb0
  rw [List.length_take] at hrl
  by_cases hlt : k < l.length
  case pos =>
    obtain ⟨x, hx⟩ : ∃ x, l[k]? = some x := ⟨_, List.getElem?_eq_getElem hlt⟩
    have u1 := act_T (runS fb0 (l.take k)) x hok
    have hsS : runS fb0 (l.take (k + 1)) = actS (runS fb0 (l.take k)) x := by rw [take_succ hx, runS_snoc]
    have hsR : runR fb0 (l.take (k + 1)) = runR fb0 (l.take k) ++ [actR (runS fb0 (l.take k)) x] := by rw [take_succ hx, runR_snoc]
    have hok2 := hok.act x
    generalize actR (runS fb0 (l.take k)) x = r at *
    generalize actS (runS fb0 (l.take k)) x = s2 at *
    generalize runS fb0 (l.take k) = s1 at *
    generalize runR fb0 (l.take k) = R at *
    obtain ⟨A0, A1, A2, A3, A4, A5, hA⟩ := six (flsK_ok hok.k).len
    obtain ⟨B0, B1, B2, B3, B4, B5, hB⟩ := six (flsK_ok hok2.k).len
    rw [hA, hB] at u1
    rw [hA]
    unfold fabB at u1 ⊢
    repeat' (first | (apply X.loE; (· exact aR); (· first | (exact .eff (.idxS rfl rfl rfl encDe_len hx)))) | refine X.loc ?_ | refine nx ?_ | refine X.cdT ?_ | refine X.cdF ?_ | refine cb ?_ ?_ | (refine cc ?_ ?_ <;> intro hcond) | (apply X.gsE; (· exact aR); (· exact aV); (· exact aW); (· intro hc; first | (exact .eff (.idxS rfl rfl rfl encDe_len hx))); (· exact aR)) | refine rb ?_ | refine X.c0 (u1) ?_ | refine nd ?_ | refine dk ?_ | fail)
    refine ⟨k + 1, by omega, by omega, ?_⟩
    try dsimp only
    rw [hsS, hsR, hB]
    refine St.to [(901, .id 26)] [] rfl rfl ?_ ?_ <;> (repeat' (first | exact tA | refine t1 ?_ | exact tB | refine t2 ?_ ?_ | refine t3 ?_ | refine t4 ?_ ?_ | refine .ofEq ?_ | refine OB.To.cut rfl rfl ?_ ?_ ?_ ?_ | refine OB.To.box rfl rfl ?_ | refine ⟨⟨_, rfl, ?_⟩, ?_⟩ | refine ⟨?_, ?_⟩ | fail))
    all_goals first | omega | (simp; done) | (simp only [List.flatMap_append, List.map_append]; rfl)
  case neg =>
    rw [List.take_of_length_le (by omega)] at hok ⊢
    have c1 := copyW_T (runS fb0 l).c hok.c.fitM
    generalize runR fb0 l = R at *
    obtain ⟨A0, A1, A2, A3, A4, A5, hA⟩ := six (flsK_ok hok.k).len
    rw [hA]
    generalize (runS fb0 l).c = c at *
    unfold fabB
    repeat' (first | (apply X.loE; (· exact aR); (· first | (exact .eff (.loadO rfl rfl (readFabC c _))) | exact .callL rfl rfl rfl (c1) rfl | exact bl (c1))) | refine X.loc ?_ | refine nx ?_ | refine X.cdT ?_ | refine X.cdF ?_ | refine cb ?_ ?_ | (refine cc ?_ ?_ <;> intro hcond) | (apply X.gsE; (· exact aR); (· exact aV); (· exact aW); (· intro hc; first | (exact .eff (.loadO rfl rfl (readFabC c _))) | exact .callG rfl rfl rfl (c1) rfl | exact bg (c1)); (· exact aR)) | refine rb ?_ | refine nd ?_ | refine dk ?_ | fail)
    exact rq ⟨[(2, .osl 7), (3, .optr 3 0), (4, .fv (.int .i64 0))], [(7, .row 55 2 R.length ((R.flatMap encRep).map .fv)), (3, .box 26 ((encCf c).map .fv))]⟩ (tq [(7, .id 901)] [])
theorem script_T (l : List De) (hl : l.length < 9223372036854775807) : Fun Tryz.prog 25 [.fv (slOf encDe l)] (.tup [.fv (slOf encRep (scrR l)), .agg ((encCf (scrC l)).map .fv), .fv (.int .i64 (scrE l))]) :=
  (run0s_T l hl).froz [7] (.tup (.cons (.frz rfl rfl rfl) (.cons (.le (.refl _) rfl) (.cons (.le (.refl _) rfl) .nil))))
set_option maxHeartbeats 1000000 in
theorem eqAr_T (l : List Ar) (hl : l.length < 9223372036854775807) : Fun Tryz.prog 22 [.fv (slOf encAr l), .fv (slOf encAr l)] (.fv (.bool true)) := by
  refine Fun.body tbl_ok Tryz.func22 rfl (by kernel_rfl) rfl rfl rfl ?_
  repeat' (first | refine X.loc ?_ | refine nx ?_ | refine cb ?_ ?_ | (refine cc ?_ ?_ <;> intro hcond) | refine rb ?_ | refine nd ?_ | refine dk ?_ | fail)
  · exfalso
    simp at hcond
  refine WP.loop (ι := Nat) (fun k => ⟨[(0, .fv (slOf encAr l)), (1, .fv (slOf encAr l)), (12, .fv (.int .i64 l.length)), (13, .fv (.int .i64 k))], []⟩) (fun k => k ≤ l.length) (fun k => l.length - k) 0 (by omega) ?_ ?_
  · exact lq
  rintro k hk
  try dsimp only
  by_cases hlt : k < l.length
  case neg =>
    repeat' (first | refine X.loc ?_ | refine nx ?_ | refine X.cdT ?_ | refine X.cdF ?_ | refine cb ?_ ?_ | (refine cc ?_ ?_ <;> intro hcond) | refine rb ?_ | refine nd ?_ | refine dk ?_ | fail)
    refine .f1 (.inl rfl) rfl rfl
  case pos =>
    obtain ⟨x, hx⟩ : ∃ x, l[k]? = some x := ⟨_, List.getElem?_eq_getElem hlt⟩
    repeat' (first | refine X.loc ?_ | refine nx ?_ | refine X.cdT ?_ | refine X.cdF ?_ | refine cb ?_ ?_ | (refine cc ?_ ?_ <;> intro hcond) | refine rb ?_ | refine nd ?_ | refine dk ?_ | fail)
    · exfalso
      simp [beqL, beqV] at hcond
    · refine ⟨k + 1, by omega, by omega, ?_⟩
      exact lq
end Go.Proofs.YtmidechdlbcepaaGreat
namespace Go.Proofs.YtmidechdlbcepaaGreat
open Go.ChangeShapes Go.WideShapes Go.ChangeAt Go.RowKit
set_option maxRecDepth 100000
theorem del_errs {c : Cf} (hc : CfOk c) (h : c.ps = []) (id : Int) (f : Fr) : delE c id f = 6 := by
  have hpo : poAt c id = none := by unfold poAt; rw [h]; rfl
  unfold delE
  rw [if_neg (by rw [cfMay_iff.2 hc]; simp), hpo]
theorem po_ch : ∀ {l : List Po} {i : Nat} {p : Po}, l[i]? = some p → (l.flatMap encPo).drop (i * 5 + 4) = FV.int .i64 p.ch :: (l.drop (i + 1)).flatMap encPo
  | [], _, _, h => by simp at h
  | x :: l, 0, p, h => by
    obtain rfl := Option.some.inj h
    rfl
  | x :: l, i + 1, p, h => by
    have := po_ch (l := l) (i := i) (p := p) (by simpa using h)
    rw [show (i + 1) * 5 + 4 = (i * 5 + 4) + 5 by omega, List.flatMap_cons]
    exact this
theorem po_readCh {l : List Po} {i : Nat} {p : Po} (h : l[i]? = some p) : readA tbl 3 ((i : Int).toNat * 5 + 4) ((l.flatMap encPo).map .fv) = some (.fv (.int .i64 p.ch)) := by
  have hlt := (List.getElem?_eq_some_iff.1 h).1
  unfold readA
  rw [Int.toNat_natCast, dropO_mk (by rw [List.length_map, flatMap_len encPo_len]; omega), ← List.map_drop, po_ch h]
  generalize (l.drop (i + 1)).flatMap encPo = z
  cases z with
  | nil => rfl
  | cons a r => rfl
set_option maxHeartbeats 8000000 in
theorem topMoves_T (l : List Rq) (r : Rq) (a b : Int) (hl : ∀ x ∈ l, x.Ok) (ho : r.Ok) (ha : N64 a) (hb : N64 b) : Fun Tryz.prog 10 [.fv (slOf encRq l), .agg ((encRq r).map .fv), .fv (.int .i64 a), .fv (.int .i64 b)] (.fv (.bool true)) := by
  have c1 := conf_T l 40 hl (by omega)
  have hc := confOf_ok l 40
  generalize confOf l 40 = c at *
  have hpl := hc.pl
  obtain ⟨id, f, c2, _⟩ := frameK_T c hc r ho
  have c3 := deliver_T c id f hc.small
  have u4 := copy_T c hc.fit
  have hlen := del_le c id f
  unfold N64 at ha hb
  by_cases h0 : c.ps.length = 0
  · have he := del_errs hc (List.length_eq_zero_iff.1 h0) id f
    rw [he] at c3
    generalize delR c id f = R at *
    refine Fun.body tbl_ok Tryz.func10 rfl (by kernel_rfl) rfl rfl rfl ?_
    repeat' (first | (apply X.loE; (· exact aR); (· first | exact .callL rfl rfl rfl (by first | exact c1 | exact c2 | exact c3) rfl | exact bl (c1) | exact bl (c2) | exact bl (c3))) | refine X.loc ?_ | refine nx ?_ | refine X.cdT ?_ | refine X.cdF ?_ | refine cb ?_ ?_ | (refine cc ?_ ?_ <;> intro hcond) | (apply X.gsE; (· exact aR); (· exact aV); (· exact aW); (· intro hc; first | exact .callG rfl rfl rfl (by first | exact c1 | exact c2 | exact c3) rfl | exact bg (c1) | exact bg (c2) | exact bg (c3)); (· exact aR)) | refine rb ?_ | refine X.c0 (u4) ?_ | refine nd ?_ | refine dk ?_ | fail)
    exact .f1 (.inl rfl) rfl rfl
  have k1 := Picked_T a c.ps.length ha.1 ha.2 (by omega)
  have k2 := Picked_T b 6 hb.1 hb.2 (by omega)
  have g1 := pick_le (n := a) (m := (c.ps.length : Int)) (by omega)
  have g2 := pick_le (n := b) (m := 6) (by omega)
  generalize pick a c.ps.length = i at *
  generalize pick b 6 = m at *
  obtain ⟨i, rfl⟩ := Int.eq_ofNat_of_zero_le g1.1
  have hi : i < c.ps.length := by omega
  obtain ⟨p, hp⟩ : ∃ p, c.ps[i]? = some p := ⟨_, List.getElem?_eq_getElem hi⟩
  have hread := po_readCh hp
  by_cases hneg : p.ch < 0
  · generalize delR c id f = R at *
    generalize delE c id f = e at *
    refine Fun.body tbl_ok Tryz.func10 rfl (by kernel_rfl) rfl rfl rfl ?_
    repeat' (first | (apply X.loE; (· exact aR); (· first | (exact .eff (.loadO rfl rfl hread)) | exact .callL rfl rfl rfl (by first | exact c1 | exact c2 | exact c3 | exact k1 | exact k2) rfl | exact bl (c1) | exact bl (c2) | exact bl (c3) | exact bl (k1) | exact bl (k2))) | refine X.loc ?_ | refine nx ?_ | refine X.cdT ?_ | refine X.cdF ?_ | refine cb ?_ ?_ | (refine cc ?_ ?_ <;> intro hcond) | (apply X.gsE; (· exact aR); (· exact aV); (· exact aW); (· intro hc; first | (exact .eff (.loadO rfl rfl hread)) | exact .callG rfl rfl rfl (by first | exact c1 | exact c2 | exact c3 | exact k1 | exact k2) rfl | exact bg (c1) | exact bg (c2) | exact bg (c3) | exact bg (k1) | exact bg (k2)); (· exact aR)) | refine rb ?_ | refine X.c0 (u4) ?_ | refine nd ?_ | refine dk ?_ | fail)
    exact .f1 (.inl rfl) rfl rfl
  obtain ⟨hc2, e1, e2⟩ := move_del hc hp (by omega) (m := m) (by omega) id f
  have c5 : FunO Tryz.prog 17 [.agg ((encCf { c with ps := c.ps.modify i fun q => { q with ch := m } }).map .fv), .fv (.int .i64 id), .agg ((encFr f).map .fv)] [] (.tup [.fv (slOf encAr (delR { c with ps := c.ps.modify i fun q => { q with ch := m } } id f)), .fv (.int .i64 (delE { c with ps := c.ps.modify i fun q => { q with ch := m } } id f))]) [] := deliver_T _ id f hc2.small
  rw [e1, e2] at c5
  have q1 := eqAr_T (delR c id f) (by omega)
  have hset := po_modify c.ps i hi m
  have hml : (c.ps.modify i fun q => { q with ch := m }).length = c.ps.length := List.length_modify ..
  have hrow : (((c.ps.modify i fun q => { q with ch := m }).flatMap encPo).map AV.fv) = (((c.ps.modify i fun q => { q with ch := m }).flatMap encPo).map AV.fv) := rfl
  generalize delR c id f = R at *
  generalize delE c id f = e at *
  refine Fun.body tbl_ok Tryz.func10 rfl (by kernel_rfl) rfl rfl rfl ?_
  repeat' (first | (apply X.loE; (· exact aR); (· first | (exact .eff (.loadO rfl rfl hread)) | exact .callL rfl rfl rfl (by first | exact c1 | exact c2 | exact c3 | exact k1 | exact k2 | exact q1) rfl | exact bl (c1) | exact bl (c2) | exact bl (c3) | exact bl (k1) | exact bl (k2) | exact bl (q1))) | refine X.loc ?_ | (apply X.stRE; (· exact aS); (· exact hset); (· exact aE)) | refine nx ?_ | refine X.cdT ?_ | refine X.cdF ?_ | refine cb ?_ ?_ | (refine cc ?_ ?_ <;> intro hcond) | (apply X.gsE; (· exact aR); (· exact aV); (· exact aW); (· intro hc; first | (exact .eff (.loadO rfl rfl hread)) | exact .callG rfl rfl rfl (by first | exact c1 | exact c2 | exact c3 | exact k1 | exact k2 | exact q1) rfl | exact bg (c1) | exact bg (c2) | exact bg (c3) | exact bg (k1) | exact bg (k2) | exact bg (q1)); (· exact aR)) | refine rb ?_ | refine X.c0 (u4) ?_ | (apply X.cal false; (· exact aR); (· exact c5); (· (refine ⟨?_, ?_, ?_, ?_, ?_, ?_, ?_, ?_, ?_, ?_, ?_⟩; (· skip; (repeat' (first | exact trivial | exact AV.ToL.nil | exact .ptr rfl | exact .sl rfl | exact AV.To.nil rfl | exact .le (.refl _) rfl | exact .frz rfl rfl rfl | exact .frp rfl rfl rfl | exact .le AV.Le.nil rfl | exact AV.To.frzE rfl (by first | rfl | omega | (simp; done)) (by first | assumption | (simp only [List.flatMap_append, List.map_append]; rfl)) rfl | refine AV.To.agg ?_ | refine AV.To.fn ?_ | refine AV.ToL.cons ?_ ?_ | exact OB.To.nil rfl | refine OB.To.row rfl rfl rfl ?_ | refine OB.To.box rfl rfl ?_ | exact .ofEq rfl | refine ⟨?_, ?_⟩ | exact AV.To.cut rfl | fail))); (· skip; (repeat' (first | exact trivial | exact AV.ToL.nil | exact .ptr rfl | exact .sl rfl | exact AV.To.nil rfl | exact .le (.refl _) rfl | exact .frz rfl rfl rfl | exact .frp rfl rfl rfl | exact .le AV.Le.nil rfl | exact AV.To.frzE rfl (by first | rfl | omega | (simp; done)) (by first | assumption | (simp only [List.flatMap_append, List.map_append]; rfl)) rfl | refine AV.To.agg ?_ | refine AV.To.fn ?_ | refine AV.ToL.cons ?_ ?_ | exact OB.To.nil rfl | refine OB.To.row rfl rfl rfl ?_ | refine OB.To.box rfl rfl ?_ | exact .ofEq rfl | refine ⟨?_, ?_⟩ | exact AV.To.cut rfl | fail))); (· rfl); (· rfl); (· skip; (repeat' (first | exact OwnRn.nil | apply OwnRn.cons rfl | apply OB.Rn.row | apply OB.Rn.box | exact AV.RnL.maps _ | exact AV.RnL.nil | exact AV.Rn.nil | exact AV.Rn.le rfl | exact AV.Rn.ptr rfl | exact AV.Rn.sl rfl | apply AV.RnL.cons | apply AV.Rn.agg | apply AV.Rn.tup | apply AV.Rn.fn | apply AV.RnL.app | apply AV.RnL.mapsS | fail))); (· skip; (repeat' (first | exact OwnRn.nil | apply OwnRn.cons rfl | apply OB.Rn.row | apply OB.Rn.box | exact AV.RnL.maps _ | exact AV.RnL.nil | exact AV.Rn.nil | exact AV.Rn.le rfl | exact AV.Rn.ptr rfl | exact AV.Rn.sl rfl | apply AV.RnL.cons | apply AV.Rn.agg | apply AV.Rn.tup | apply AV.Rn.fn | apply AV.RnL.app | apply AV.RnL.mapsS | fail))); (· rfl); (· rfl); (· exact (by first | exact (rfl : _ = []) | exact (rfl : _ = [_]) | exact (rfl : _ = [_, _]) | exact (rfl : _ = [_, _, _]) | exact (rfl : _ = [_, _, _, _]) | exact (rfl : _ = [_, _, _, _, _]) | exact (rfl : _ = [_, _, _, _, _, _]) | exact (rfl : _ = [_, _, _, _, _, _, _]) | exact (rfl : _ = [_, _, _, _, _, _, _, _]) | exact (rfl : _ = [_, _, _, _, _, _, _, _, _]) | exact (rfl : _ = [_, _, _, _, _, _, _, _, _, _]) | exact (rfl : _ = [_, _, _, _, _, _, _, _, _, _, _]) | exact (rfl : _ = [_, _, _, _, _, _, _, _, _, _, _, _]) | exact (rfl : _ = [_, _, _, _, _, _, _, _, _, _, _, _, _]) | exact (rfl : _ = [_, _, _, _, _, _, _, _, _, _, _, _, _, _]) | exact (rfl : _ = [_, _, _, _, _, _, _, _, _, _, _, _, _, _, _]) | exact (rfl : _ = [_, _, _, _, _, _, _, _, _, _, _, _, _, _, _, _]))); (· first | rfl | (simp only [freeNs, noRefH, OB.cells, refsL_fv, refsL_app]; rfl)); (· exact (by first | exact (rfl : _ = []) | exact (rfl : _ = [_]) | exact (rfl : _ = [_, _]) | exact (rfl : _ = [_, _, _]) | exact (rfl : _ = [_, _, _, _]) | exact (rfl : _ = [_, _, _, _, _]) | exact (rfl : _ = [_, _, _, _, _, _]) | exact (rfl : _ = [_, _, _, _, _, _, _]) | exact (rfl : _ = [_, _, _, _, _, _, _, _]) | exact (rfl : _ = [_, _, _, _, _, _, _, _, _]) | exact (rfl : _ = [_, _, _, _, _, _, _, _, _, _]) | exact (rfl : _ = [_, _, _, _, _, _, _, _, _, _, _]) | exact (rfl : _ = [_, _, _, _, _, _, _, _, _, _, _, _]) | exact (rfl : _ = [_, _, _, _, _, _, _, _, _, _, _, _, _]) | exact (rfl : _ = [_, _, _, _, _, _, _, _, _, _, _, _, _, _]) | exact (rfl : _ = [_, _, _, _, _, _, _, _, _, _, _, _, _, _, _]) | exact (rfl : _ = [_, _, _, _, _, _, _, _, _, _, _, _, _, _, _, _])))))) | refine nd ?_ | refine dk ?_ | fail)
  refine .f1 (.inl rfl) rfl ?_
  simp
theorem topMoves_open {H : Type} {enc : TypeId × Value → H} (W : World) (base : Nat) {v0 v1 v2 v3 : Value} {d0 d1 d2 d3 : DataW H} {p0 p1 p2 p3 : List MemPlace} (hv0 : Value.okWide Tryz.prog W .any base 57 v0)
    (h0 : DataW.Trod enc Tryz.prog W 0 (fun _ => true) true 57 v0 d0 p0) (hs0 : SizedCl Tryz.prog 57 d0) (hv1 : Value.okWide Tryz.prog W .any base 59 v1)
    (h1 : DataW.Trod enc Tryz.prog W 0 (fun _ => true) true 59 v1 d1 p1) (_hs1 : SizedCl Tryz.prog 59 d1) (hv2 : Value.okWide Tryz.prog W .any base 3 v2)
    (h2 : DataW.Trod enc Tryz.prog W 0 (fun _ => true) true 3 v2 d2 p2) (_hs2 : SizedCl Tryz.prog 3 d2) (hv3 : Value.okWide Tryz.prog W .any base 3 v3)
    (h3 : DataW.Trod enc Tryz.prog W 0 (fun _ => true) true 3 v3 d3 p3) (_hs3 : SizedCl Tryz.prog 3 d3) : Calls Tryz.prog 10 #[v0, v1, v2, v3] W fun e W' => e = .returned (.bool true) ∧ Below W.heap.size W W' := by
  obtain ⟨l, hl, _, hr⟩ := open_raws hv0 h0 hs0
  obtain ⟨r, ho, cs, rfl, hc⟩ := open_raw hv1 h1
  obtain ⟨a, rfl, _, _, ha⟩ := open_int Tryz.underlying3 hv2 h2
  obtain ⟨b, rfl, _, _, hb⟩ := open_int Tryz.underlying3 hv3 h3
  exact (topMoves_T l r a b hl ho (i64_of_wf ha) (i64_of_wf hb)).yes ⟨hr, rep_agg hc, rfl, rfl, trivial⟩
end Go.Proofs.YtmidechdlbcepaaGreat