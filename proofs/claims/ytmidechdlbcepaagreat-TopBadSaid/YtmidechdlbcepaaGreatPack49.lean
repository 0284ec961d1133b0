import Derived.Test.YtmidechdlbcepaaGreatPack46
import Derived.Test.YtmidechdlbcepaaGreatPack37
import Derived.Test.YtmidechdlbcepaaGreatPack33
import Derived.Test.YtmidechdlbcepaaGreatPack45
import Derived.Test.YtmidechdlbcepaaGreatPack47
import Derived.Test.YtmidechdlbcepaaGreatPack36
import Derived.Test.YtmidechdlbcepaaGreatPack40
import Derived.Test.YtmidechdlbcepaaGreatPack26
set_option linter.unusedSimpArgs false
set_option linter.unusedVariables false
namespace Go.Proofs.YtmidechdlbcepaaGreat
open Go.RowKit
set_option maxRecDepth 100000
structure Fb where
  c : Cf
  K : Kn
structure Rep where
  code : Int
  come : List Ar
def encRep (r : Rep) : List FV := [.int .i64 r.code, slOf encAr r.come]
theorem encRep_len (r : Rep) : (encRep r).length = 2 := rfl
def repE (c : Cf) (id : Int) (f : Fr) : Int := match poAt c id with
  | none => 6
  | some q => if q.ch < 0 then 6 else frameFault f
def repR (c : Cf) (K : Kn) (id : Int) (f : Fr) : List Ar := match poAt c id with
  | none => []
  | some q => if q.ch < 0 then [] else if frameFault f ≠ 0 then [] else sentOfF K q.ch id f
def actR (s : Fb) (a : De) : Rep :=
  if a.kind = 7 then ⟨if a.n < 0 ∨ 6 ≤ a.n then 2 else 0, []⟩
  else if a.kind = 8 then ⟨repE s.c a.n a.fr, repR s.c s.K a.n a.fr⟩
  else ⟨applyE s.c a, []⟩
def actS (s : Fb) (a : De) : Fb :=
  if a.kind = 7 then (if a.n < 0 ∨ 6 ≤ a.n then s else ⟨s.c, s.K.set a.n.toNat (some s.c)⟩)
  else if a.kind = 8 then s
  else ⟨stepC s.c a, s.K⟩
structure FbOk (s : Fb) : Prop where
  c : CfOk s.c
  k : KnOk s.K
  six : s.K.length = 6
theorem KnOk.set {K : Kn} (h : KnOk K) {c : Cf} (hc : CfOk c) (n : Nat) : KnOk (K.set n (some c)) := ⟨fun k hk x hx => by
  rcases List.mem_or_eq_of_mem_set hk with hk | rfl
  · exact h.ok k hk x hx
  · obtain rfl := Option.some.inj hx
    exact hc⟩
theorem FbOk.act {s : Fb} (h : FbOk s) (a : De) : FbOk (actS s a) := by
  unfold actS
  split
  · split
    · exact h
    · exact ⟨h.c, h.k.set h.c _, by rw [List.length_set]; exact h.six⟩
  · split
    · exact h
    · exact ⟨h.c.step a, h.k, h.six⟩
def fb0 : Fb := ⟨cf0, [none, none, none, none, none, none]⟩
theorem fb0_ok : FbOk fb0 := ⟨CfOk.nil, ⟨fun k hk x hx => by
  simp only [fb0, List.mem_cons, List.not_mem_nil, or_false, or_self] at hk
  subst hk
  cases hx⟩, rfl⟩
def runR : Fb → List De → List Rep
  | _, [] => []
  | s, a :: l => actR s a :: runR (actS s a) l
def runS (s : Fb) (l : List De) : Fb := l.foldl actS s
theorem runR_len : ∀ (l : List De) (s : Fb), (runR s l).length = l.length
  | [], _ => rfl
  | a :: l, s => by rw [runR, List.length_cons, List.length_cons, runR_len l]
theorem runS_ok {s : Fb} (h : FbOk s) : ∀ l : List De, FbOk (runS s l) := fun l => by
  induction l generalizing s with
  | nil => exact h
  | cons a l ih => exact ih (h.act a)
theorem runS_snoc (s : Fb) (l : List De) (a : De) : runS s (l ++ [a]) = actS (runS s l) a := by simp [runS]
theorem runR_snoc : ∀ (s : Fb) (l : List De) (a : De), runR s (l ++ [a]) = runR s l ++ [actR (runS s l) a]
  | s, [], a => rfl
  | s, b :: l, a => by
    rw [List.cons_append, runR, runR, runR_snoc (actS s b) l a]
    rfl
theorem runR_app : ∀ (s : Fb) (l m : List De), runR s (l ++ m) = runR s l ++ runR (runS s l) m
  | s, [], m => rfl
  | s, b :: l, m => by
    rw [List.cons_append, runR, runR, runR_app (actS s b) l m]
    rfl
theorem runS_app (s : Fb) (l m : List De) : runS s (l ++ m) = runS (runS s l) m := by simp [runS]
theorem flsK_set {K : Kn} (h6 : K.length = 6) {c : Cf} {n : Nat} (hn : n < 6) : (flsK K).set n (compF_ c (n : Int)) = flsK (K.set n (some c)) := by
  unfold flsK
  apply List.ext_getElem?
  intro i
  rw [List.getElem?_set]
  rcases Nat.lt_or_ge i 6 with hi | hi
  · rw [List.getElem?_map, List.getElem?_map, List.getElem?_range hi, List.length_map, List.length_range]
    simp only [Option.map_some]
    by_cases e : n = i
    · subst e
      rw [if_pos rfl, if_pos hn, List.getD_eq_getElem?_getD, List.getElem?_set, if_pos rfl, if_pos (by omega)]
      rfl
    · rw [if_neg e, List.getD_eq_getElem?_getD, List.getD_eq_getElem?_getD, List.getElem?_set, if_neg e]
  · rw [if_neg (by omega), List.getElem?_eq_none (by simp; omega), List.getElem?_eq_none (by simp; omega)]
theorem flsK_ok {K : Kn} (hK : KnOk K) : FlsOk (flsK K) := by
  have key : ∀ {P : List Fl → Prop}, (∀ (c : Cf) (ch : Int), CfOk c → 0 ≤ ch ∧ ch ≤ 5 → P (compF_ c ch)) → P [] → ∀ L ∈ flsK K, P L := fun h1 h2 L hL => by
    obtain ⟨i, hi, rfl⟩ := List.mem_map.1 hL
    have := List.mem_range.1 hi
    have hk := hK.at i
    unfold flK
    split
    · exact h2
    · rename_i c hc
      exact h1 c i (hk c hc) (by omega)
  exact ⟨by simp [flsK], key (fun c ch hc h => comp_room hc h) ⟨fun f hf => by simp at hf, by simp⟩, key (fun c ch _ _ => comp_strict c ch) .nil, key (fun c ch hc _ => comp_len hc) (by simp)⟩
def scrE (l : List De) : Int := if 300 < l.length then 1 else 0
def scrR (l : List De) : List Rep := if 300 < l.length then [] else runR fb0 l
def scrC (l : List De) : Cf := if 300 < l.length then cf0 else (runS fb0 l).c
theorem send_rep {s : Fb} (h : FbOk s) (id : Int) (f : Fr) : sendE s.c id f = repE s.c id f ∧ sendR s.c (flsK s.K) id f = repR s.c s.K id f ∧ (∀ q, poAt s.c id = some q → 0 ≤ q.ch → pkE f id 0 0 = 0 → SendOk (flsK s.K) q.ch (pkOf f id 0 0)) := by
  unfold sendE sendR repE repR
  cases hpo : poAt s.c id with
  | none => exact ⟨rfl, rfl, fun q hq => by cases hq⟩
  | some q =>
    obtain ⟨hq, hid⟩ := poAt_mem hpo
    have hqr := (h.c.pg q hq).1
    unfold PoR at hqr
    dsimp only
    rw [pkE_id (by omega)]
    refine ⟨rfl, ?_, fun p hp h0 he => ?_⟩
    · by_cases h0 : q.ch < 0
      · rw [if_pos h0, if_pos h0]
      rw [if_neg h0, if_neg h0]
      by_cases hff : frameFault f = 0
      · rw [if_neg (show ¬ frameFault f ≠ 0 by omega), if_neg (show ¬ frameFault f ≠ 0 by omega)]
        exact send_sorted h.k (by omega) hff (by omega)
      · rw [if_pos hff, if_pos hff]
    · obtain rfl := Option.some.inj hp
      exact send_ok h.k (by omega) he (by omega)
def deSw (s : Sw) : De := { de0 with kind := 1, sw := s }
def dePo (p : Po) : De := { de0 with kind := 2, po := p }
def deAc (a : Ac) : De := { de0 with kind := 3, ac := a }
def deSy (ch : Int) : De := { de0 with kind := 7, n := ch }
def deSe (id : Int) (f : Fr) : De := { de0 with kind := 8, n := id, fr := f }
def wantA (c : Cf) : List De := c.ss.map deSw ++ c.ps.map dePo ++ c.acs.map deAc
def allA : List De := (List.range 6).map fun i : Nat => deSy (i : Int)
theorem wantA_len {c : Cf} (hc : CfOk c) : (wantA c).length ≤ 100 := by
  have h1 := hc.sl
  have h2 := hc.pl
  have h3 := hc.al
  simp only [wantA, List.length_append, List.length_map]
  omega
theorem wantA_kind {c : Cf} {a : De} (h : a ∈ wantA c) : a.kind ≠ 7 ∧ a.kind ≠ 8 := by
  unfold wantA at h
  rcases List.mem_append.1 h with h | h
  · rcases List.mem_append.1 h with h | h
    · obtain ⟨s, _, rfl⟩ := List.mem_map.1 h
      exact ⟨by show (1 : Int) ≠ 7; decide, by show (1 : Int) ≠ 8; decide⟩
    · obtain ⟨s, _, rfl⟩ := List.mem_map.1 h
      exact ⟨by show (2 : Int) ≠ 7; decide, by show (2 : Int) ≠ 8; decide⟩
  · obtain ⟨s, _, rfl⟩ := List.mem_map.1 h
    exact ⟨by show (3 : Int) ≠ 7; decide, by show (3 : Int) ≠ 8; decide⟩
theorem runS_K : ∀ {l : List De} {s : Fb}, (∀ a ∈ l, a.kind ≠ 7) → (runS s l).K = s.K
  | [], _, _ => rfl
  | a :: l, s, h => by
    have ih := runS_K (l := l) (s := actS s a) fun x hx => h x (by simp [hx])
    show (runS (actS s a) l).K = s.K
    rw [ih]
    unfold actS
    rw [if_neg (h a (by simp))]
    split <;> rfl
theorem led_cf0 (ch id : Int) (f : Fr) : ledF cf0 ch id f = [] := rfl
theorem sent_none {ch : Int} (hch : 0 ≤ ch ∧ ch ≤ 5) (id : Int) (f : Fr) : sentOfF fb0.K ch id f = [] := by
  have e : cfAt fb0.K ch = cf0 := by
    obtain ⟨n, hn⟩ := Int.eq_ofNat_of_zero_le hch.1
    rw [hn]
    match n, (show n < 6 by omega) with
    | 0, _ => rfl
    | 1, _ => rfl
    | 2, _ => rfl
    | 3, _ => rfl
    | 4, _ => rfl
    | 5, _ => rfl
  unfold sentOfF
  rw [e, led_cf0]
  exact List.flatMap_eq_nil_iff.2 fun _ _ => rfl
theorem silent {c : Cf} (hc : CfOk c) (id : Int) (f : Fr) : (actR (runS fb0 (wantA c)) (deSe id f)).come = [] := by
  have hk := runS_K (s := fb0) (l := wantA c) fun a ha => (wantA_kind ha).1
  have hok := runS_ok fb0_ok (wantA c)
  have h7 : (deSe id f).kind ≠ 7 := by show (8 : Int) ≠ 7; decide
  have h8 : (deSe id f).kind = 8 := rfl
  unfold actR
  rw [if_neg h7, if_pos h8]
  show repR _ _ id f = []
  rw [hk]
  unfold repR
  split
  · rfl
  · rename_i q hpo
    split
    · rfl
    · split
      · rfl
      · have hq := (hok.c.pg q (poAt_mem hpo).1).1
        unfold PoR at hq
        exact sent_none (by omega) id f
theorem scrR_snoc {l : List De} {a : De} (h : l.length < 300) : scrR (l ++ [a]) = runR fb0 l ++ [actR (runS fb0 l) a] ∧ scrE (l ++ [a]) = 0 ∧ scrC (l ++ [a]) = (actS (runS fb0 l) a).c := by
  have h1 : ¬ 300 < (l ++ [a]).length := by simp; omega
  unfold scrR scrE scrC
  rw [if_neg h1, if_neg h1, if_neg h1, runR_snoc, runS_snoc]
  exact ⟨rfl, rfl, rfl⟩
def dbl1 (a : De) : List De := [a] ++ (if a.kind = 7 then [a] else []) ++ (if a.kind = 8 then [a] else [])
def dblA (l : List De) : List De := l.flatMap dbl1
theorem dblA_snoc (l : List De) (a : De) : dblA (l ++ [a]) = dblA l ++ dbl1 a := by simp [dblA]
theorem dbl1_len (a : De) : (dbl1 a).length ≤ 2 := by
  unfold dbl1
  by_cases h7 : a.kind = 7
  · rw [if_pos h7, if_neg (by omega)]; simp
  · rw [if_neg h7]
    split <;> simp
theorem dblA_len : ∀ l : List De, (dblA l).length ≤ 2 * l.length
  | [] => by simp [dblA]
  | a :: l => by
    have h1 := dblA_len l
    have h2 := dbl1_len a
    show (List.flatMap dbl1 (a :: l)).length ≤ _
    rw [List.flatMap_cons, List.length_append, List.length_cons]
    have : (List.flatMap dbl1 l).length = (dblA l).length := rfl
    omega
theorem act_twice (s : Fb) (a : De) (h : a.kind = 7 ∨ a.kind = 8) : actS (actS s a) a = actS s a ∧ actR (actS s a) a = actR s a := by
  rcases h with h | h
  · constructor
    · unfold actS
      rw [if_pos h, if_pos h]
      by_cases hr : a.n < 0 ∨ 6 ≤ a.n
      · rw [if_pos hr, if_pos hr]
      · rw [if_neg hr, if_neg hr]
        simp
    · unfold actR
      rw [if_pos h, if_pos h]
  · have e : actS s a = s := by
      unfold actS
      rw [if_neg (by omega), if_pos h]
    rw [e]
    exact ⟨e, rfl⟩
theorem runS_dbl1 (s : Fb) (a : De) : runS s (dbl1 a) = actS s a := by
  unfold dbl1
  by_cases h7 : a.kind = 7
  · rw [if_pos h7, if_neg (by omega)]
    exact (act_twice s a (.inl h7)).1
  · rw [if_neg h7]
    by_cases h8 : a.kind = 8
    · rw [if_pos h8]
      exact (act_twice s a (.inr h8)).1
    · rw [if_neg h8]
      rfl
theorem runR_dbl1 (s : Fb) (a : De) : runR s (dbl1 a) = if a.kind = 7 ∨ a.kind = 8 then [actR s a, actR s a] else [actR s a] := by
  unfold dbl1
  by_cases h7 : a.kind = 7
  · rw [if_pos h7, if_neg (by omega), if_pos (.inl h7)]
    show [actR s a, actR (actS s a) a] = _
    rw [(act_twice s a (.inl h7)).2]
  · rw [if_neg h7]
    by_cases h8 : a.kind = 8
    · rw [if_pos h8, if_pos (.inr h8)]
      show [actR s a, actR (actS s a) a] = _
      rw [(act_twice s a (.inr h8)).2]
    · rw [if_neg h8, if_neg (by omega)]
      rfl
theorem runS_dbl (s : Fb) : ∀ l : List De, runS s (dblA l) = runS s l := fun l => by
  induction l generalizing s with
  | nil => rfl
  | cons a l ih =>
    show runS s (dbl1 a ++ dblA l) = runS (actS s a) l
    rw [runS_app, runS_dbl1, ih]
theorem runR_dbl_at (s : Fb) {l : List De} {k : Nat} {a : De} (h : l[k]? = some a) :
    (runR s (dblA l))[(dblA (l.take k)).length]? = some (actR (runS s (l.take k)) a) ∧ (a.kind = 7 ∨ a.kind = 8 → (runR s (dblA l))[(dblA (l.take k)).length + 1]? = some (actR (runS s (l.take k)) a)) := by
  have hl : l = l.take k ++ (a :: l.drop (k + 1)) := by
    have hlt := (List.getElem?_eq_some_iff.1 h).1
    rw [← (List.getElem?_eq_some_iff.1 h).2, ← List.drop_eq_getElem_cons hlt, List.take_append_drop]
  have e : dblA l = dblA (l.take k) ++ (dbl1 a ++ dblA (l.drop (k + 1))) := by
    conv => lhs; rw [hl]
    unfold dblA
    rw [List.flatMap_append, List.flatMap_cons]
  rw [e, runR_app, runR_app, runR_dbl1, runS_dbl]
  have hn : (dblA (l.take k)).length = (runR s (dblA (l.take k))).length := (runR_len _ _).symm
  generalize runR (runS (runS s (l.take k)) (dbl1 a)) (dblA (l.drop (k + 1))) = Z
  generalize actR (runS s (l.take k)) a = r
  constructor
  · rw [List.getElem?_append_right (by omega), hn, Nat.sub_self]
    split <;> rfl
  · intro hk
    rw [List.getElem?_append_right (by omega), hn, if_pos hk]
    rw [show (runR s (dblA (l.take k))).length + 1 - (runR s (dblA (l.take k))).length = 1 by omega]
    rfl
theorem runR_at (s : Fb) : ∀ {l : List De} {k : Nat} {a : De}, l[k]? = some a → (runR s l)[k]? = some (actR (runS s (l.take k)) a)
  | [], _, _, h => by simp at h
  | b :: l, 0, a, h => by
    obtain rfl := Option.some.inj h
    rfl
  | b :: l, k + 1, a, h => runR_at (actS s b) (l := l) (k := k) (by simpa using h)
theorem act_come {s : Fb} (h : FbOk s) (a : De) : (actR s a).come.length ≤ 80000 := by
  unfold actR
  split
  · simp
  · split
    · dsimp only
      unfold repR
      split
      · simp
      · split
        · simp
        · split
          · simp
          · exact sentOfF_len h.k _ _ _
    · simp
theorem scr_short {l : List De} (h : l.length ≤ 300) : scrR l = runR fb0 l ∧ scrE l = 0 ∧ scrC l = (runS fb0 l).c := by
  unfold scrR scrE scrC
  rw [if_neg (by omega), if_neg (by omega), if_neg (by omega)]
  exact ⟨rfl, rfl, rfl⟩
theorem bad_kind {c : Cf} {a : De} (hc : CfOk c) (h : 8 < a.kind) : applyE c a = 3 := by
  have hm : ¬ cfMay c = false := by rw [cfMay_iff.2 hc]; simp
  unfold applyE
  rw [if_neg hm]
  repeat rw [if_neg (by omega)]
theorem bad_run {k : Int} (hk : 1 ≤ k) : runR fb0 [deSy (6 + k), { de0 with kind := 8 + k }, deSe k frZ] = [⟨2, []⟩, ⟨3, []⟩, ⟨6, []⟩] := by
  have e1 : actR fb0 (deSy (6 + k)) = ⟨2, []⟩ := by
    unfold actR deSy
    dsimp only
    rw [if_pos rfl, if_pos (by omega)]
  have s1 : actS fb0 (deSy (6 + k)) = fb0 := by
    unfold actS deSy
    dsimp only
    rw [if_pos rfl, if_pos (by omega)]
  have hb : applyE fb0.c { de0 with kind := 8 + k } = 3 := bad_kind fb0_ok.c (by show 8 < 8 + k; omega)
  have e2 : actR fb0 { de0 with kind := 8 + k } = ⟨3, []⟩ := by
    unfold actR
    rw [hb]
    dsimp only
    rw [if_neg (by omega), if_neg (by omega)]
  have s2 : actS fb0 { de0 with kind := 8 + k } = fb0 := by
    unfold actS stepC
    rw [hb]
    dsimp only
    rw [if_neg (by omega), if_neg (by omega), if_neg (by omega)]
  have e3 : actR fb0 (deSe k frZ) = ⟨6, []⟩ := rfl
  rw [runR, runR, runR, runR, s1, s2, e1, e2, e3]
theorem bad_len {l : List De} (h : 300 < l.length) : scrR l = [] ∧ scrE l = 1 ∧ scrC l = cf0 := by
  unfold scrR scrE scrC
  rw [if_pos h, if_pos h, if_pos h]
  exact ⟨rfl, rfl, rfl⟩
theorem bad_port {c : Cf} (hc : CfOk c) (hs : SwSome c) (f : Fr) : delE c 999 f = 6 ∧ delR c 999 f = [] := by
  have hn : poAt c 999 = none := by
    unfold poAt
    rw [List.find?_eq_none]
    intro p hp
    have := (hs.2.2 p hp).1
    simp only [beq_iff_eq]
    omega
  have hm : ¬ cfMay c = false := by rw [cfMay_iff.2 hc]; simp
  unfold delE delR
  rw [if_neg hm, if_neg hm, hn]
  exact ⟨rfl, rfl⟩
theorem bad_two {c : Cf} {s : Sw} (hs : s ∈ c.ss) (id : Int) (f : Fr) : delE ⟨c.ss ++ [s], c.ps, c.acs⟩ id f = 8 ∧ delR ⟨c.ss ++ [s], c.ps, c.acs⟩ id f = [] := by
  have hm : cfMay ⟨c.ss ++ [s], c.ps, c.acs⟩ = false := by
    rw [Bool.eq_false_iff]
    intro h
    have h2 := (cfMay_iff.1 h).sd
    exact ((List.pairwise_append.1 h2).2.2 s hs s (List.mem_singleton.2 rfl)).1 rfl
  unfold delE delR
  rw [if_pos hm, if_pos hm]
  exact ⟨rfl, rfl⟩
theorem Eff.idxSE {T : Tbl} {ρ : Operand → AV} {H : Own} {d : Nat} {α : Type} {enc : α → List FV} {t : Nat} {x y : Operand} {l : List α} {e s b : Nat} {k : IntKind} (i : Nat) {v : Int} {u : α} (h1 : ρ x = .fv (slOf enc l)) (h2 : ρ y = .fv (.int k v)) (hv : v = i) (h3 : lk T.sli t = some (e, s, b)) (hs : ∀ x, (enc x).length = s) (hu : l[i]? = some u) :
    Eff T ρ H d (.indexAddr t x y) (.fptr (enc u)) [] := by
  subst hv
  exact .idxS h1 h2 h3 hs hu
set_option maxHeartbeats 4000000 in
theorem tenant_T (c : Cf) (hc : CfOk c) (id : Int) : Fun Tryz.prog 31 [.agg ((encCf c).map .fv), .fv (.int .i64 id)] (.fv (.int .i64 (tenN c id))) := by
  have hpl := hc.pl
  have hsl := hc.sl
  refine Fun.body tbl_ok Tryz.func31 rfl (by kernel_rfl) rfl rfl rfl ?_
  repeat' (first | refine X.loc ?_ | refine nx ?_ | refine X.cdT ?_ | refine X.cdF ?_ | refine cb ?_ ?_ | (refine cc ?_ ?_ <;> intro hcond) | refine rb ?_ | refine nd ?_ | refine dk ?_ | fail)
  refine WP.loop (ι := Nat) (fun k => ⟨[(1, .fv (.int .i64 id)), (2, .optr 2 0), (10, .fv (slOf encPo c.ps)), (11, .fv (.int .i64 c.ps.length)), (12, .fv (.int .i64 k))], [(2, .box 26 ((encCf c).map .fv))]⟩) (fun k => k ≤ c.ps.length ∧ ∀ x ∈ c.ps.take k, x.id ≠ id) (fun k => c.ps.length - k) 0 ⟨by omega, by simp⟩ ?_ ?_
  · exact tq [] []
  rintro k ⟨hk, hno⟩
  try dsimp only
  by_cases hlt : k < c.ps.length
  case neg =>
    rw [List.take_of_length_le (by omega)] at hno
    have e : tenN c id = 0 := by
      unfold tenN
      cases hpo : poAt c id with
      | none => rfl
      | some q => exact absurd (poAt_mem hpo).2 (hno q (poAt_mem hpo).1)
    rw [e]
    repeat' (first | refine X.loc ?_ | refine nx ?_ | refine X.cdT ?_ | refine X.cdF ?_ | refine cb ?_ ?_ | (refine cc ?_ ?_ <;> intro hcond) | refine rb ?_ | refine nd ?_ | refine dk ?_ | fail)
    exact .f1 (.inl rfl) rfl rfl
  case pos =>
    obtain ⟨x, hx⟩ : ∃ x, c.ps[k]? = some x := ⟨_, List.getElem?_eq_getElem hlt⟩
    have hxm := List.mem_of_getElem? hx
    by_cases hxi : x.id = id
    case neg =>
      repeat' (first | (apply X.loE; (· exact aR); (· first | (exact .eff (.idxS rfl rfl rfl encPo_len hx)))) | refine X.loc ?_ | (refine X.cdT ?_ rfl (by exact bne_iff_ne.2 hxi)) | refine nx ?_ | refine X.cdT ?_ | refine X.cdF ?_ | refine cb ?_ ?_ | (refine cc ?_ ?_ <;> intro hcond) | (apply X.gsE; (· exact aR); (· exact aV); (· exact aW); (· intro hc; first | (exact .eff (.idxS rfl rfl rfl encPo_len hx))); (· exact aR)) | refine rb ?_ | refine nd ?_ | refine dk ?_ | fail)
      refine ⟨k + 1, ⟨by omega, fun y hy => ?_⟩, by omega, ?_⟩
      · rw [List.take_add_one, hx] at hy
        rcases List.mem_append.1 hy with hy | hy
        · exact hno y hy
        · obtain rfl := List.mem_singleton.1 hy
          exact hxi
      try dsimp only
      exact tq [] []
    case pos =>
      have hin := hc.swIn hxm
      have e : tenN c id = (swAt c.ss x.sw).tenant := by
        unfold tenN
        rw [← hxi, poAt_is hc hxm]
      rw [e]
      repeat' (first | (apply X.loE; (· exact aR); (· first | (exact .eff (.idxS rfl rfl rfl encPo_len hx)))) | refine X.loc ?_ | (refine X.cdF ?_ rfl (by exact bne_eq_false_iff_eq.2 hxi)) | refine nx ?_ | refine X.cdT ?_ | refine X.cdF ?_ | refine cb ?_ ?_ | (refine cc ?_ ?_ <;> intro hcond) | (apply X.gsE; (· exact aR); (· exact aV); (· exact aW); (· intro hc; first | (exact .eff (.idxS rfl rfl rfl encPo_len hx))); (· exact aR)) | refine rb ?_ | refine nd ?_ | refine dk ?_ | fail)
      refine WP.loop (ι := Nat) (fun j => ⟨[(6, .optr 901 0), (21, .fv (slOf encSw c.ss)), (22, .fv (.int .i64 c.ss.length)), (23, .fv (.int .i64 j))], [(901, .box 69 ((encPo x).map .fv))]⟩) (fun j => j ≤ c.ss.length ∧ ∀ s ∈ c.ss.take j, s.id ≠ x.sw) (fun j => c.ss.length - j) 0 ⟨by omega, by simp⟩ ?_ ?_
      · exact tq [(901, .id 6)] []
      rintro j ⟨hj, hns⟩
      try dsimp only
      by_cases hlt2 : j < c.ss.length
      case neg =>
        exfalso
        rw [List.take_of_length_le (by omega)] at hns
        exact hns _ hin.1 hin.2
      case pos =>
        obtain ⟨s, hs⟩ : ∃ s, c.ss[j]? = some s := ⟨_, List.getElem?_eq_getElem hlt2⟩
        by_cases hsi : s.id = x.sw
        · have es : swAt c.ss x.sw = s := hc.sid hin.1 (List.mem_of_getElem? hs) (by rw [hin.2, hsi])
          rw [es]
          repeat' (first | (apply X.loE; (· exact aR); (· first | (exact .eff (.idxS rfl rfl rfl encSw_len hs)))) | refine X.loc ?_ | (refine X.cdT ?_ rfl (by exact beq_iff_eq.2 hsi)) | refine nx ?_ | refine X.cdT ?_ | refine X.cdF ?_ | refine cb ?_ ?_ | (refine cc ?_ ?_ <;> intro hcond) | (apply X.gsE; (· exact aR); (· exact aV); (· exact aW); (· intro hc; first | (exact .eff (.idxS rfl rfl rfl encSw_len hs))); (· exact aR)) | refine rb ?_ | refine nd ?_ | refine dk ?_ | fail)
          exact .f1 (.inl rfl) rfl rfl
        · skip
          repeat' (first | (apply X.loE; (· exact aR); (· first | (exact .eff (.idxS rfl rfl rfl encSw_len hs)))) | refine X.loc ?_ | (refine X.cdF ?_ rfl (by exact beq_eq_false_iff_ne.2 hsi)) | refine nx ?_ | refine X.cdT ?_ | refine X.cdF ?_ | refine cb ?_ ?_ | (refine cc ?_ ?_ <;> intro hcond) | (apply X.gsE; (· exact aR); (· exact aV); (· exact aW); (· intro hc; first | (exact .eff (.idxS rfl rfl rfl encSw_len hs))); (· exact aR)) | refine rb ?_ | refine nd ?_ | refine dk ?_ | fail)
          refine ⟨j + 1, ⟨by omega, fun y hy => ?_⟩, by omega, ?_⟩
          · rw [List.take_add_one, hs] at hy
            rcases List.mem_append.1 hy with hy | hy
            · exact hns y hy
            · obtain rfl := List.mem_singleton.1 hy
              exact hsi
          try dsimp only
          exact tq [] []
theorem CfOk.fitM {c : Cf} (h : CfOk c) : c.Fit := ⟨by have := h.sl; omega, by have := h.pl; omega, by have := h.al; omega⟩
theorem copyW_T (c : Cf) (hl : c.Fit) : Fun Tryz.prog 32 [.agg ((encCf c).map .fv)] (.agg ((encCf c).map .fv)) :=
  (copy_T c hl).froz [7, 8, 9] (.agg (.cons (.frz rfl rfl rfl) (.cons (.frz rfl rfl rfl) (.cons (.frz rfl rfl rfl) .nil))))
theorem setFabC (c d : Cf) (Fs : List (List Fl)) : setC ((encFab c Fs).map .fv) 0 ((encCf d).map .fv) = some ((encFab d Fs).map .fv) := by
  unfold encFab
  generalize Fs.map (slOf encFl) = r
  cases r with
  | nil => rfl
  | cons a r => rfl
set_option maxHeartbeats 8000000 in
theorem act_T (s : Fb) (a : De) (h : FbOk s) : FunO Tryz.prog 51 [.optr 1000 0, .agg ((encDe a).map .fv)] [(1000, fabB s.c (flsK s.K))] (.agg [.fv (.int .i64 (actR s a).code), .fv (slOf encAr (actR s a).come)]) [(1000, fabB (actS s a).c (flsK (actS s a).K))] := by
  obtain ⟨hc, hk, h6⟩ := h
  have hF := flsK_ok hk
  obtain ⟨e1, e2, e3⟩ := send_rep ⟨hc, hk, h6⟩ a.n a.fr
  refine FunO.bodyL tbl_ok Tryz.func51 rfl (by kernel_rfl) rfl rfl rfl ?_
  unfold actR actS fabB
  by_cases k7 : a.kind = 7
  · rw [if_pos k7, if_pos k7]
    by_cases hr : a.n < 0 ∨ 6 ≤ a.n
    · rw [if_pos hr, if_pos hr]
      obtain ⟨A0, A1, A2, A3, A4, A5, hA⟩ := six hF.len
      rw [hA]
      try dsimp only
      repeat' (first | refine X.loc ?_ | refine nx ?_ | refine X.cdT ?_ | refine X.cdF ?_ | refine cb ?_ ?_ | (refine cc ?_ ?_ <;> intro hcond) | refine rb ?_ | refine nd ?_ | refine dk ?_ | fail)
      exact rq ⟨[(4, .optr 4 0)], [(4, .box 55 [.fv (.int .i64 2), .fv (.sl [] 0)]), (1000, .box 88 ((encFab s.c [A0, A1, A2, A3, A4, A5]).map .fv))]⟩ (tq [] [])
    · rw [if_neg hr, if_neg hr]
      obtain ⟨n, hn⟩ := Int.eq_ofNat_of_zero_le (show 0 ≤ a.n by omega)
      have u1 := sync_T s.c (flsK s.K) a.n hc (by omega) hF
      have hs := flsK_set h6 (c := s.c) (n := n) (by omega)
      rw [hn, Int.toNat_natCast, hs] at u1
      rw [hn, Int.toNat_natCast]
      try dsimp only
      have hF2 := flsK_ok (hk.set hc n)
      obtain ⟨A0, A1, A2, A3, A4, A5, hA⟩ := six hF.len
      obtain ⟨B0, B1, B2, B3, B4, B5, hB⟩ := six hF2.len
      rw [hA, hB] at u1
      rw [hA, hB]
      unfold fabB at u1
      rw [← hn] at u1
      clear hs hF hF2 hA hB
      repeat' (first | refine X.loc ?_ | refine nx ?_ | refine X.cdT ?_ | refine X.cdF ?_ | refine cb ?_ ?_ | (refine cc ?_ ?_ <;> intro hcond) | refine rb ?_ | refine X.c0 (u1) ?_ | refine nd ?_ | refine dk ?_ | fail)
      exact rq ⟨[(4, .optr 4 0)], [(4, .box 55 [.fv (.int .i64 0), .fv (.sl [] 0)]), (1000, .box 88 ((encFab s.c [B0, B1, B2, B3, B4, B5]).map .fv))]⟩ (tq [] [])
  rw [if_neg k7, if_neg k7]
  by_cases k8 : a.kind = 8
  · rw [if_pos k8, if_pos k8]
    try dsimp only
    have u1 := send_T s.c (flsK s.K) a.n a.fr hc.pl hF.len e3
    rw [e1, e2] at u1
    generalize repE s.c a.n a.fr = e at *
    generalize repR s.c s.K a.n a.fr = R at *
    unfold fabB at u1
    obtain ⟨A0, A1, A2, A3, A4, A5, hA⟩ := six hF.len
    rw [hA] at u1 ⊢
    clear e1 e2 e3 hF hA
    repeat' (first | refine X.loc ?_ | refine nx ?_ | refine X.cdT ?_ | refine X.cdF ?_ | refine cb ?_ ?_ | (refine cc ?_ ?_ <;> intro hcond) | refine rb ?_ | refine X.c0 (u1) ?_ | refine nd ?_ | refine dk ?_ | fail)
    exact rq ⟨[(4, .optr 4 0)], [(4, .box 55 [.fv (.int .i64 e), .fv (slOf encAr R)]), (1000, .box 88 ((encFab s.c [A0, A1, A2, A3, A4, A5]).map .fv))]⟩ (tq [] [52])
  · rw [if_neg k8, if_neg k8]
    try dsimp only
    have c1 := apply_T s.c a hc.fitM
    obtain ⟨A0, A1, A2, A3, A4, A5, hA⟩ := six hF.len
    rw [hA]
    clear e1 e2 e3 hF hA
    unfold stepC
    by_cases h0 : applyE s.c a = 0
    · rw [if_pos h0, h0]
      rw [h0] at c1
      have s1 := setFabC s.c (applyR s.c a) [A0, A1, A2, A3, A4, A5]
      generalize applyR s.c a = d at *
      repeat' (first | (apply X.loE; (· exact aR); (· first | (exact .eff (.loadO rfl rfl (readFabC s.c _))) | exact .callL rfl rfl rfl (c1) rfl | exact bl (c1))) | refine X.loc ?_ | (apply X.stBE; (· exact aS); (· exact s1); (· exact aE)) | refine nx ?_ | refine X.cdT ?_ | refine X.cdF ?_ | refine cb ?_ ?_ | (refine cc ?_ ?_ <;> intro hcond) | (apply X.gsE; (· exact aR); (· exact aV); (· exact aW); (· intro hc; first | (exact .eff (.loadO rfl rfl (readFabC s.c _))) | exact .callG rfl rfl rfl (c1) rfl | exact bg (c1)); (· exact aR)) | refine rb ?_ | refine nd ?_ | refine dk ?_ | fail)
      exact rq ⟨[(4, .optr 4 0)], [(4, .box 55 [.fv (.int .i64 0), .fv (.sl [] 0)]), (1000, .box 88 ((encFab d [A0, A1, A2, A3, A4, A5]).map .fv))]⟩ (tq [] [])
    · rw [if_neg h0]
      generalize applyE s.c a = e at *
      generalize applyR s.c a = d at *
      repeat' (first | (apply X.loE; (· exact aR); (· first | (exact .eff (.loadO rfl rfl (readFabC s.c _))) | exact .callL rfl rfl rfl (c1) rfl | exact bl (c1))) | refine X.loc ?_ | refine nx ?_ | refine X.cdT ?_ | refine X.cdF ?_ | refine cb ?_ ?_ | (refine cc ?_ ?_ <;> intro hcond) | (apply X.gsE; (· exact aR); (· exact aV); (· exact aW); (· intro hc; first | (exact .eff (.loadO rfl rfl (readFabC s.c _))) | exact .callG rfl rfl rfl (c1) rfl | exact bg (c1)); (· exact aR)) | refine rb ?_ | refine nd ?_ | refine dk ?_ | fail)
      exact rq ⟨[(4, .optr 4 0)], [(4, .box 55 [.fv (.int .i64 e), .fv (.sl [] 0)]), (1000, .box 88 ((encFab s.c [A0, A1, A2, A3, A4, A5]).map .fv))]⟩ (tq [] [])
set_option maxHeartbeats 8000000 in
theorem run0s_T (l : List De) (hl : l.length < 9223372036854775807) : FunO Tryz.prog 25 [.fv (slOf encDe l)] [] (.tup [.osl 7, .agg ((encCf (scrC l)).map .fv), .fv (.int .i64 (scrE l))]) [(7, .row 55 2 (scrR l).length (((scrR l).flatMap encRep).map .fv))] := by
  refine FunO.bodyL tbl_ok Tryz.func25 rfl (by kernel_rfl) rfl rfl rfl ?_
  unfold scrC scrE scrR
  by_cases h3 : 300 < l.length
  · rw [if_pos h3, if_pos h3, if_pos h3]
    repeat' (first | refine X.loc ?_ | refine nx ?_ | refine X.cdT ?_ | refine X.cdF ?_ | refine cb ?_ ?_ | (refine cc ?_ ?_ <;> intro hcond) | refine rb ?_ | refine nd ?_ | refine dk ?_ | fail)
    exact rq ⟨[(2, .osl 7), (3, .optr 3 0), (4, .fv (.int .i64 1))], [(7, .row 55 2 0 []), (3, .box 26 ((encCf cf0).map .fv))]⟩ (tq [(7, .nil)] [])
  rw [if_neg h3, if_neg h3, if_neg h3]
  repeat' (first | refine X.loc ?_ | refine nx ?_ | refine X.cdT ?_ | refine X.cdF ?_ | refine cb ?_ ?_ | (refine cc ?_ ?_ <;> intro hcond) | refine rb ?_ | refine nd ?_ | refine dk ?_ | fail)
  refine WP.loop (ι := Nat) (fun k => ⟨[(3, .optr 3 0), (5, .optr 900 0), (6, .osl 901), (15, .fv (slOf encDe l)), (16, .fv (.int .i64 l.length)), (17, .fv (.int .i64 k))], [(3, .box 26 ((encCf cf0).map .fv)), (900, fabB (runS fb0 (l.take k)).c (flsK (runS fb0 (l.take k)).K)), (901, .row 55 2 (runR fb0 (l.take k)).length (((runR fb0 (l.take k)).flatMap encRep).map .fv))]⟩) (fun k => k ≤ l.length) (fun k => l.length - k) 0 (by omega) ?_ ?_
  · try dsimp only
    rw [List.take_zero]
    have e0 : (encFab (runS fb0 []).c (flsK (runS fb0 []).K)).map AV.fv = (encCf cf0).map AV.fv ++ [.fv (.sl [] 0), .fv (.sl [] 0), .fv (.sl [] 0), .fv (.sl [] 0), .fv (.sl [] 0), .fv (.sl [] 0)] := rfl
    unfold fabB
    rw [e0, show runR fb0 [] = [] from rfl]
    exact tq [(900, .id 14), (901, .nil)] []
  rintro k hk
  try dsimp only
  have hok := runS_ok fb0_ok (l.take k)
  have hrl := runR_len (l.take k) fb0
  rw [List.length_take] at hrl
  by_cases hlt : k < l.length
  case pos =>
    obtain ⟨x, hx⟩ : ∃ x, l[k]? = some x := ⟨_, List.getElem?_eq_getElem hlt⟩
    have u1 := act_T (runS fb0 (l.take k)) x hok
    have hsS : runS fb0 (l.take (k + 1)) = actS (runS fb0 (l.take k)) x := by rw [take_succ hx, runS_snoc]
    have hsR : runR fb0 (l.take (k + 1)) = runR fb0 (l.take k) ++ [actR (runS fb0 (l.take k)) x] := by rw [take_succ hx, runR_snoc]
    have hok2 := hok.act x
    generalize actR (runS fb0 (l.take k)) x = r at *
    generalize actS (runS fb0 (l.take k)) x = s2 at *
    generalize runS fb0 (l.take k) = s1 at *
    generalize runR fb0 (l.take k) = R at *
    obtain ⟨A0, A1, A2, A3, A4, A5, hA⟩ := six (flsK_ok hok.k).len
    obtain ⟨B0, B1, B2, B3, B4, B5, hB⟩ := six (flsK_ok hok2.k).len
    rw [hA, hB] at u1
    rw [hA]
    unfold fabB at u1 ⊢
    repeat' (first | (apply X.loE; (· exact aR); (· first | (exact .eff (.idxS rfl rfl rfl encDe_len hx)))) | refine X.loc ?_ | refine nx ?_ | refine X.cdT ?_ | refine X.cdF ?_ | refine cb ?_ ?_ | (refine cc ?_ ?_ <;> intro hcond) | (apply X.gsE; (· exact aR); (· exact aV); (· exact aW); (· intro hc; first | (exact .eff (.idxS rfl rfl rfl encDe_len hx))); (· exact aR)) | refine rb ?_ | refine X.c0 (u1) ?_ | refine nd ?_ | refine dk ?_ | fail)
    refine ⟨k + 1, by omega, by omega, ?_⟩
    try dsimp only
    rw [hsS, hsR, hB]
    refine St.to [(901, .id 26)] [] rfl rfl ?_ ?_ <;> (repeat' (first | exact tA | refine t1 ?_ | exact tB | refine t2 ?_ ?_ | refine t3 ?_ | refine t4 ?_ ?_ | refine .ofEq ?_ | refine OB.To.cut rfl rfl ?_ ?_ ?_ ?_ | refine OB.To.box rfl rfl ?_ | refine ⟨⟨_, rfl, ?_⟩, ?_⟩ | refine ⟨?_, ?_⟩ | fail))
    all_goals first | omega | (simp; done) | (simp only [List.flatMap_append, List.map_append]; rfl)
  case neg =>
    rw [List.take_of_length_le (by omega)] at hok ⊢
    have c1 := copyW_T (runS fb0 l).c hok.c.fitM
    generalize runR fb0 l = R at *
    obtain ⟨A0, A1, A2, A3, A4, A5, hA⟩ := six (flsK_ok hok.k).len
    rw [hA]
    generalize (runS fb0 l).c = c at *
    unfold fabB
    repeat' (first | (apply X.loE; (· exact aR); (· first | (exact .eff (.loadO rfl rfl (readFabC c _))) | exact .callL rfl rfl rfl (c1) rfl | exact bl (c1))) | refine X.loc ?_ | refine nx ?_ | refine X.cdT ?_ | refine X.cdF ?_ | refine cb ?_ ?_ | (refine cc ?_ ?_ <;> intro hcond) | (apply X.gsE; (· exact aR); (· exact aV); (· exact aW); (· intro hc; first | (exact .eff (.loadO rfl rfl (readFabC c _))) | exact .callG rfl rfl rfl (c1) rfl | exact bg (c1)); (· exact aR)) | refine rb ?_ | refine nd ?_ | refine dk ?_ | fail)
    exact rq ⟨[(2, .osl 7), (3, .optr 3 0), (4, .fv (.int .i64 0))], [(7, .row 55 2 R.length ((R.flatMap encRep).map .fv)), (3, .box 26 ((encCf c).map .fv))]⟩ (tq [(7, .id 901)] [])
theorem script_T (l : List De) (hl : l.length < 9223372036854775807) : Fun Tryz.prog 25 [.fv (slOf encDe l)] (.tup [.fv (slOf encRep (scrR l)), .agg ((encCf (scrC l)).map .fv), .fv (.int .i64 (scrE l))]) :=
  (run0s_T l hl).froz [7] (.tup (.cons (.frz rfl rfl rfl) (.cons (.le (.refl _) rfl) (.cons (.le (.refl _) rfl) .nil))))
theorem scr_lenE (l : List De) : scrE l = 0 → (scrR l).length = l.length := by
  unfold scrE scrR
  split
  · intro h; cases h
  · intro _; exact runR_len l fb0
theorem scr_len (l : List De) : (scrR l).length ≤ 300 := by
  unfold scrR
  split
  · simp
  · rw [runR_len]; omega
set_option maxHeartbeats 4000000 in
theorem topRun_T (l : List De) (hl : l.length ≤ 140737488355328) : Fun Tryz.prog 35 [.fv (slOf encDe l)] (.tup [.fv (slOf encRep (scrR l)), .agg ((encCf (scrC l)).map .fv), .fv (.int .i64 (scrE l))]) := by
  have c1 := script_T l (by omega)
  have hE := scr_lenE l
  have hl2 := scr_len l
  generalize scrR l = R at *
  generalize scrC l = c at *
  generalize scrE l = e at *
  have hb : (e == 0 && (R.length : Int) != (l.length : Int)) = false := by
    rw [Bool.and_eq_false_iff]
    by_cases h : e = 0
    · right
      rw [bne_eq_false_iff_eq, hE h]
    · left
      exact beq_eq_false_iff_ne.2 h
  refine Fun.body tbl_ok Tryz.func35 rfl (by kernel_rfl) rfl rfl rfl ?_
  repeat' (first | (apply X.loE; (· exact aR); (· first | exact .callL rfl rfl rfl (c1) rfl | exact bl (c1))) | refine X.loc ?_ | (refine X.cdF ?_ rfl hb) | refine nx ?_ | refine X.cdT ?_ | refine X.cdF ?_ | refine cb ?_ ?_ | (refine cc ?_ ?_ <;> intro hcond) | (apply X.gsE; (· exact aR); (· exact aV); (· exact aW); (· intro hc; first | exact .callG rfl rfl rfl (c1) rfl | exact bg (c1)); (· exact aR)) | refine rb ?_ | refine nd ?_ | refine dk ?_ | fail)
  refine .le (s' := ⟨[(2, .fv (slOf encRep R)), (3, .optr 3 0), (4, .fv (.int .i64 e))], [(3, .box 26 ((encCf c).map .fv))]⟩) ?_ (.fun (.inl rfl) rfl rfl)
  exact tq [] []
set_option maxHeartbeats 8000000 in
theorem wanted_T (c : Cf) (hc : CfOk c) : FunO Tryz.prog 39 [.agg ((encCf c).map .fv)] [] (.osl 7) [(7, .row 74 28 (wantA c).length (((wantA c).flatMap encDe).map .fv))] := by
  have h1 := hc.sl
  have h2 := hc.pl
  have h3 := hc.al
  have hW : wantA c = c.ss.map deSw ++ c.ps.map dePo ++ c.acs.map deAc := rfl
  refine FunO.bodyL tbl_ok Tryz.func39 rfl (by kernel_rfl) rfl rfl rfl ?_
  repeat' (first | refine X.loc ?_ | refine nx ?_ | refine X.cdT ?_ | refine X.cdF ?_ | refine cb ?_ ?_ | (refine cc ?_ ?_ <;> intro hcond) | refine rb ?_ | refine nd ?_ | refine dk ?_ | fail)
  refine WP.loop (ι := Nat) (fun k => ⟨[(1, .optr 1 0), (3, .osl 900), (11, .fv (slOf encSw c.ss)), (12, .fv (.int .i64 c.ss.length)), (13, .fv (.int .i64 k))], [(1, .box 26 ((encCf c).map .fv)), (900, .row 74 28 ((c.ss.take k).map deSw).length ((((c.ss.take k).map deSw).flatMap encDe).map .fv))]⟩) (fun k => k ≤ c.ss.length) (fun k => c.ss.length - k) 0 (by omega) ?_ ?_
  · try dsimp only
    rw [List.take_zero, List.map_nil]
    exact tq [(900, .nil)] []
  rintro k hk
  try dsimp only
  by_cases hlt : k < c.ss.length
  case pos =>
    obtain ⟨x, hx⟩ : ∃ x, c.ss[k]? = some x := ⟨_, List.getElem?_eq_getElem hlt⟩
    have hs : ((c.ss.take (k + 1)).map deSw) = ((c.ss.take k).map deSw) ++ [deSw x] := by
      rw [List.take_add_one, hx, List.map_append]
      rfl
    have hQ : ((c.ss.take k).map deSw).length ≤ 200 := by
      simp only [List.length_append, List.length_map, List.length_take]
      omega
    generalize ((c.ss.take k).map deSw) = Q at *
    repeat' (first | (apply X.loE; (· exact aR); (· first | (exact .eff (.idxS rfl rfl rfl encSw_len hx)))) | refine X.loc ?_ | refine nx ?_ | refine X.cdT ?_ | refine X.cdF ?_ | refine cb ?_ ?_ | (refine cc ?_ ?_ <;> intro hcond) | (apply X.gsE; (· exact aR); (· exact aV); (· exact aW); (· intro hc; first | (exact .eff (.idxS rfl rfl rfl encSw_len hx))); (· exact aR)) | refine rb ?_ | refine nd ?_ | refine dk ?_ | fail)
    refine ⟨k + 1, by omega, by omega, ?_⟩
    try dsimp only
    rw [hs]
    refine St.to [(900, .id 21)] [] rfl rfl ?_ ?_ <;> (repeat' (first | exact tA | refine t1 ?_ | exact tB | refine t2 ?_ ?_ | refine t3 ?_ | refine t4 ?_ ?_ | refine .ofEq ?_ | refine OB.To.cut rfl rfl ?_ ?_ ?_ ?_ | refine OB.To.box rfl rfl ?_ | refine ⟨⟨_, rfl, ?_⟩, ?_⟩ | refine ⟨?_, ?_⟩ | fail))
    all_goals first | omega | (simp; done) | (simp only [List.flatMap_append, List.map_append]; rfl)
  rw [List.take_of_length_le (by omega)]
  have hQl : (c.ss.map deSw).length ≤ 200 := by
    simp only [List.length_append, List.length_map]
    omega
  repeat' (first | refine X.loc ?_ | refine nx ?_ | refine X.cdT ?_ | refine X.cdF ?_ | refine cb ?_ ?_ | (refine cc ?_ ?_ <;> intro hcond) | refine rb ?_ | refine nd ?_ | refine dk ?_ | fail)
  refine WP.loop (ι := Nat) (fun k => ⟨[(1, .optr 1 0), (3, .osl 901), (24, .fv (slOf encPo c.ps)), (25, .fv (.int .i64 c.ps.length)), (26, .fv (.int .i64 k))], [(1, .box 26 ((encCf c).map .fv)), (901, .row 74 28 (c.ss.map deSw ++ (c.ps.take k).map dePo).length (((c.ss.map deSw ++ (c.ps.take k).map dePo).flatMap encDe).map .fv))]⟩) (fun k => k ≤ c.ps.length) (fun k => c.ps.length - k) 0 (by omega) ?_ ?_
  · try dsimp only
    rw [List.take_zero, List.map_nil, List.append_nil]
    exact tq [(901, .id 900)] []
  rintro k hk
  try dsimp only
  by_cases hlt : k < c.ps.length
  case pos =>
    obtain ⟨x, hx⟩ : ∃ x, c.ps[k]? = some x := ⟨_, List.getElem?_eq_getElem hlt⟩
    have hs : (c.ss.map deSw ++ (c.ps.take (k + 1)).map dePo) = (c.ss.map deSw ++ (c.ps.take k).map dePo) ++ [dePo x] := by
      rw [List.take_add_one, hx, List.map_append, ← List.append_assoc]
      rfl
    have hQ : (c.ss.map deSw ++ (c.ps.take k).map dePo).length ≤ 200 := by
      simp only [List.length_append, List.length_map, List.length_take]
      omega
    generalize (c.ss.map deSw ++ (c.ps.take k).map dePo) = Q at *
    repeat' (first | (apply X.loE; (· exact aR); (· first | (exact .eff (.idxS rfl rfl rfl encPo_len hx)))) | refine X.loc ?_ | refine nx ?_ | refine X.cdT ?_ | refine X.cdF ?_ | refine cb ?_ ?_ | (refine cc ?_ ?_ <;> intro hcond) | (apply X.gsE; (· exact aR); (· exact aV); (· exact aW); (· intro hc; first | (exact .eff (.idxS rfl rfl rfl encPo_len hx))); (· exact aR)) | refine rb ?_ | refine nd ?_ | refine dk ?_ | fail)
    refine ⟨k + 1, by omega, by omega, ?_⟩
    try dsimp only
    rw [hs]
    refine St.to [(901, .id 34)] [] rfl rfl ?_ ?_ <;> (repeat' (first | exact tA | refine t1 ?_ | exact tB | refine t2 ?_ ?_ | refine t3 ?_ | refine t4 ?_ ?_ | refine .ofEq ?_ | refine OB.To.cut rfl rfl ?_ ?_ ?_ ?_ | refine OB.To.box rfl rfl ?_ | refine ⟨⟨_, rfl, ?_⟩, ?_⟩ | refine ⟨?_, ?_⟩ | fail))
    all_goals first | omega | (simp; done) | (simp only [List.flatMap_append, List.map_append]; rfl)
  rw [List.take_of_length_le (by omega)]
  have hQl : (c.ss.map deSw ++ c.ps.map dePo).length ≤ 200 := by
    simp only [List.length_append, List.length_map]
    omega
  repeat' (first | refine X.loc ?_ | refine nx ?_ | refine X.cdT ?_ | refine X.cdF ?_ | refine cb ?_ ?_ | (refine cc ?_ ?_ <;> intro hcond) | refine rb ?_ | refine nd ?_ | refine dk ?_ | fail)
  refine WP.loop (ι := Nat) (fun k => ⟨[(1, .optr 1 0), (3, .osl 902), (37, .fv (slOf encAc c.acs)), (38, .fv (.int .i64 c.acs.length)), (39, .fv (.int .i64 k))], [(1, .box 26 ((encCf c).map .fv)), (902, .row 74 28 (c.ss.map deSw ++ c.ps.map dePo ++ (c.acs.take k).map deAc).length (((c.ss.map deSw ++ c.ps.map dePo ++ (c.acs.take k).map deAc).flatMap encDe).map .fv))]⟩) (fun k => k ≤ c.acs.length) (fun k => c.acs.length - k) 0 (by omega) ?_ ?_
  · try dsimp only
    rw [List.take_zero, List.map_nil, List.append_nil]
    exact tq [(902, .id 901)] []
  rintro k hk
  try dsimp only
  by_cases hlt : k < c.acs.length
  case pos =>
    obtain ⟨x, hx⟩ : ∃ x, c.acs[k]? = some x := ⟨_, List.getElem?_eq_getElem hlt⟩
    have hs : (c.ss.map deSw ++ c.ps.map dePo ++ (c.acs.take (k + 1)).map deAc) = (c.ss.map deSw ++ c.ps.map dePo ++ (c.acs.take k).map deAc) ++ [deAc x] := by
      rw [List.take_add_one, hx, List.map_append, ← List.append_assoc]
      rfl
    have hQ : (c.ss.map deSw ++ c.ps.map dePo ++ (c.acs.take k).map deAc).length ≤ 200 := by
      simp only [List.length_append, List.length_map, List.length_take]
      omega
    generalize (c.ss.map deSw ++ c.ps.map dePo ++ (c.acs.take k).map deAc) = Q at *
    repeat' (first | (apply X.loE; (· exact aR); (· first | (exact .eff (.idxS rfl rfl rfl encAc_len hx)))) | refine X.loc ?_ | refine nx ?_ | refine X.cdT ?_ | refine X.cdF ?_ | refine cb ?_ ?_ | (refine cc ?_ ?_ <;> intro hcond) | (apply X.gsE; (· exact aR); (· exact aV); (· exact aW); (· intro hc; first | (exact .eff (.idxS rfl rfl rfl encAc_len hx))); (· exact aR)) | refine rb ?_ | refine nd ?_ | refine dk ?_ | fail)
    refine ⟨k + 1, by omega, by omega, ?_⟩
    try dsimp only
    rw [hs]
    refine St.to [(902, .id 47)] [] rfl rfl ?_ ?_ <;> (repeat' (first | exact tA | refine t1 ?_ | exact tB | refine t2 ?_ ?_ | refine t3 ?_ | refine t4 ?_ ?_ | refine .ofEq ?_ | refine OB.To.cut rfl rfl ?_ ?_ ?_ ?_ | refine OB.To.box rfl rfl ?_ | refine ⟨⟨_, rfl, ?_⟩, ?_⟩ | refine ⟨?_, ?_⟩ | fail))
    all_goals first | omega | (simp; done) | (simp only [List.flatMap_append, List.map_append]; rfl)
  rw [List.take_of_length_le (by omega), ← hW]
  have hQl : (wantA c).length ≤ 200 := by
    simp only [wantA, List.length_append, List.length_map]
    omega
  repeat' (first | refine X.loc ?_ | refine nx ?_ | refine X.cdT ?_ | refine X.cdF ?_ | refine cb ?_ ?_ | (refine cc ?_ ?_ <;> intro hcond) | refine rb ?_ | refine nd ?_ | refine dk ?_ | fail)
  generalize wantA c = W at *
  exact rq ⟨[(2, .osl 7)], [(7, .row 74 28 W.length ((W.flatMap encDe).map .fv))]⟩ (tq [(7, .id 902)] [])
theorem readRSw {l : List Sw} {i off : Nat} {x : Sw} (h : off = i * 3) (hx : l[i]? = some x) : readA tbl 44 off ((l.flatMap encSw).map .fv) = some (.agg ((encSw x).map .fv)) := by
  unfold readA
  rw [readE encSw_len h hx]
  generalize ((l.drop (i + 1)).flatMap encSw).map AV.fv = r
  cases r with
  | nil => rfl
  | cons a r => rfl
end Go.Proofs.YtmidechdlbcepaaGreat