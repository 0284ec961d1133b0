import Derived.Test.YtmidechdlbcepaaGreatPack45
import Derived.Test.YtmidechdlbcepaaGreatPack47
import Derived.Test.YtmidechdlbcepaaGreatPack46
import Derived.Test.YtmidechdlbcepaaGreatPack37
import Derived.Test.YtmidechdlbcepaaGreatPack33
import Derived.Test.YtmidechdlbcepaaGreatPack48
set_option linter.unusedSimpArgs false
set_option linter.unusedVariables false
namespace Go.Proofs.YtmidechdlbcepaaGreat
open Go.RowKit
set_option maxRecDepth 100000
theorem Eff.idxSE {T : Tbl} {ρ : Operand → AV} {H : Own} {d : Nat} {α : Type} {enc : α → List FV} {t : Nat} {x y : Operand} {l : List α} {e s b : Nat} {k : IntKind} (i : Nat) {v : Int} {u : α} (h1 : ρ x = .fv (slOf enc l)) (h2 : ρ y = .fv (.int k v)) (hv : v = i) (h3 : lk T.sli t = some (e, s, b)) (hs : ∀ x, (enc x).length = s) (hu : l[i]? = some u) :
    Eff T ρ H d (.indexAddr t x y) (.fptr (enc u)) [] := by
  subst hv
  exact .idxS h1 h2 h3 hs hu
set_option maxHeartbeats 4000000 in
theorem tenant_T (c : Cf) (hc : CfOk c) (id : Int) : Fun Tryz.prog 31 [.agg ((encCf c).map .fv), .fv (.int .i64 id)] (.fv (.int .i64 (tenN c id))) := by
  have hpl := hc.pl
  have hsl := hc.sl
  refine Fun.body tbl_ok Tryz.func31 rfl (by kernel_rfl) rfl rfl rfl ?_
  repeat' (first | refine X.loc ?_ | refine nx ?_ | refine X.cdT ?_ | refine X.cdF ?_ | refine cb ?_ ?_ | (refine cc ?_ ?_ <;> intro hcond) | refine rb ?_ | refine nd ?_ | refine dk ?_ | fail)
  refine WP.loop (ι := Nat) (fun k => ⟨[(1, .fv (.int .i64 id)), (2, .optr 2 0), (10, .fv (slOf encPo c.ps)), (11, .fv (.int .i64 c.ps.length)), (12, .fv (.int .i64 k))], [(2, .box 26 ((encCf c).map .fv))]⟩) (fun k => k ≤ c.ps.length ∧ ∀ x ∈ c.ps.take k, x.id ≠ id) (fun k => c.ps.length - k) 0 ⟨by omega, by simp⟩ ?_ ?_
  · exact tq [] []
  rintro k ⟨hk, hno⟩
  try dsimp only
  by_cases hlt : k < c.ps.length
  case neg =>
    rw [List.take_of_length_le (by omega)] at hno
    have e : tenN c id = 0 := by
      unfold tenN
      cases hpo : poAt c id with
      | none => rfl
      | some q => exact absurd (poAt_mem hpo).2 (hno q (poAt_mem hpo).1)
    rw [e]
    repeat' (first | refine X.loc ?_ | refine nx ?_ | refine X.cdT ?_ | refine X.cdF ?_ | refine cb ?_ ?_ | (refine cc ?_ ?_ <;> intro hcond) | refine rb ?_ | refine nd ?_ | refine dk ?_ | fail)
    exact .f1 (.inl rfl) rfl rfl
  case pos =>
    obtain ⟨x, hx⟩ : ∃ x, c.ps[k]? = some x := ⟨_, List.getElem?_eq_getElem hlt⟩
    have hxm := List.mem_of_getElem? hx
    by_cases hxi : x.id = id
    case neg =>
      repeat' (first | (apply X.loE; (· exact aR); (· first | (exact .eff (.idxS rfl rfl rfl encPo_len hx)))) | refine X.loc ?_ | (refine X.cdT ?_ rfl (by exact bne_iff_ne.2 hxi)) | refine nx ?_ | refine X.cdT ?_ | refine X.cdF ?_ | refine cb ?_ ?_ | (refine cc ?_ ?_ <;> intro hcond) | (apply X.gsE; (· exact aR); (· exact aV); (· exact aW); (· intro hc; first | (exact .eff (.idxS rfl rfl rfl encPo_len hx))); (· exact aR)) | refine rb ?_ | refine nd ?_ | refine dk ?_ | fail)
      refine ⟨k + 1, ⟨by omega, fun y hy => ?_⟩, by omega, ?_⟩
      · rw [List.take_add_one, hx] at hy
        rcases List.mem_append.1 hy with hy | hy
        · exact hno y hy
        · obtain rfl := List.mem_singleton.1 hy
          exact hxi
      try dsimp only
      exact tq [] []
    case pos =>
      have hin := hc.swIn hxm
      have e : tenN c id = (swAt c.ss x.sw).tenant := by
        unfold tenN
        rw [← hxi, poAt_is hc hxm]
      rw [e]
      repeat' (first | (apply X.loE; (· exact aR); (· first | (exact .eff (.idxS rfl rfl rfl encPo_len hx)))) | refine X.loc ?_ | (refine X.cdF ?_ rfl (by exact bne_eq_false_iff_eq.2 hxi)) | refine nx ?_ | refine X.cdT ?_ | refine X.cdF ?_ | refine cb ?_ ?_ | (refine cc ?_ ?_ <;> intro hcond) | (apply X.gsE; (· exact aR); (· exact aV); (· exact aW); (· intro hc; first | (exact .eff (.idxS rfl rfl rfl encPo_len hx))); (· exact aR)) | refine rb ?_ | refine nd ?_ | refine dk ?_ | fail)
      refine WP.loop (ι := Nat) (fun j => ⟨[(6, .optr 901 0), (21, .fv (slOf encSw c.ss)), (22, .fv (.int .i64 c.ss.length)), (23, .fv (.int .i64 j))], [(901, .box 69 ((encPo x).map .fv))]⟩) (fun j => j ≤ c.ss.length ∧ ∀ s ∈ c.ss.take j, s.id ≠ x.sw) (fun j => c.ss.length - j) 0 ⟨by omega, by simp⟩ ?_ ?_
      · exact tq [(901, .id 6)] []
      rintro j ⟨hj, hns⟩
      try dsimp only
      by_cases hlt2 : j < c.ss.length
      case neg =>
        exfalso
        rw [List.take_of_length_le (by omega)] at hns
        exact hns _ hin.1 hin.2
      case pos =>
        obtain ⟨s, hs⟩ : ∃ s, c.ss[j]? = some s := ⟨_, List.getElem?_eq_getElem hlt2⟩
        by_cases hsi : s.id = x.sw
        · have es : swAt c.ss x.sw = s := hc.sid hin.1 (List.mem_of_getElem? hs) (by rw [hin.2, hsi])
          rw [es]
          repeat' (first | (apply X.loE; (· exact aR); (· first | (exact .eff (.idxS rfl rfl rfl encSw_len hs)))) | refine X.loc ?_ | (refine X.cdT ?_ rfl (by exact beq_iff_eq.2 hsi)) | refine nx ?_ | refine X.cdT ?_ | refine X.cdF ?_ | refine cb ?_ ?_ | (refine cc ?_ ?_ <;> intro hcond) | (apply X.gsE; (· exact aR); (· exact aV); (· exact aW); (· intro hc; first | (exact .eff (.idxS rfl rfl rfl encSw_len hs))); (· exact aR)) | refine rb ?_ | refine nd ?_ | refine dk ?_ | fail)
          exact .f1 (.inl rfl) rfl rfl
        · skip
          repeat' (first | (apply X.loE; (· exact aR); (· first | (exact .eff (.idxS rfl rfl rfl encSw_len hs)))) | refine X.loc ?_ | (refine X.cdF ?_ rfl (by exact beq_eq_false_iff_ne.2 hsi)) | refine nx ?_ | refine X.cdT ?_ | refine X.cdF ?_ | refine cb ?_ ?_ | (refine cc ?_ ?_ <;> intro hcond) | (apply X.gsE; (· exact aR); (· exact aV); (· exact aW); (· intro hc; first | (exact .eff (.idxS rfl rfl rfl encSw_len hs))); (· exact aR)) | refine rb ?_ | refine nd ?_ | refine dk ?_ | fail)
          refine ⟨j + 1, ⟨by omega, fun y hy => ?_⟩, by omega, ?_⟩
          · rw [List.take_add_one, hs] at hy
            rcases List.mem_append.1 hy with hy | hy
            · exact hns y hy
            · obtain rfl := List.mem_singleton.1 hy
              exact hsi
          try dsimp only
          exact tq [] []
structure Fb where
  c : Cf
  K : Kn
structure Rep where
  code : Int
  come : List Ar
def encRep (r : Rep) : List FV := [.int .i64 r.code, slOf encAr r.come]
theorem encRep_len (r : Rep) : (encRep r).length = 2 := rfl
def repE (c : Cf) (id : Int) (f : Fr) : Int := match poAt c id with
  | none => 6
  | some q => if q.ch < 0 then 6 else frameFault f
def repR (c : Cf) (K : Kn) (id : Int) (f : Fr) : List Ar := match poAt c id with
  | none => []
  | some q => if q.ch < 0 then [] else if frameFault f ≠ 0 then [] else sentOfF K q.ch id f
def actR (s : Fb) (a : De) : Rep :=
  if a.kind = 7 then ⟨if a.n < 0 ∨ 6 ≤ a.n then 2 else 0, []⟩
  else if a.kind = 8 then ⟨repE s.c a.n a.fr, repR s.c s.K a.n a.fr⟩
  else ⟨applyE s.c a, []⟩
def actS (s : Fb) (a : De) : Fb :=
  if a.kind = 7 then (if a.n < 0 ∨ 6 ≤ a.n then s else ⟨s.c, s.K.set a.n.toNat (some s.c)⟩)
  else if a.kind = 8 then s
  else ⟨stepC s.c a, s.K⟩
structure FbOk (s : Fb) : Prop where
  c : CfOk s.c
  k : KnOk s.K
  six : s.K.length = 6
theorem KnOk.set {K : Kn} (h : KnOk K) {c : Cf} (hc : CfOk c) (n : Nat) : KnOk (K.set n (some c)) := ⟨fun k hk x hx => by
  rcases List.mem_or_eq_of_mem_set hk with hk | rfl
  · exact h.ok k hk x hx
  · obtain rfl := Option.some.inj hx
    exact hc⟩
theorem FbOk.act {s : Fb} (h : FbOk s) (a : De) : FbOk (actS s a) := by
  unfold actS
  split
  · split
    · exact h
    · exact ⟨h.c, h.k.set h.c _, by rw [List.length_set]; exact h.six⟩
  · split
    · exact h
    · exact ⟨h.c.step a, h.k, h.six⟩
def fb0 : Fb := ⟨cf0, [none, none, none, none, none, none]⟩
theorem fb0_ok : FbOk fb0 := ⟨CfOk.nil, ⟨fun k hk x hx => by
  simp only [fb0, List.mem_cons, List.not_mem_nil, or_false, or_self] at hk
  subst hk
  cases hx⟩, rfl⟩
def runR : Fb → List De → List Rep
  | _, [] => []
  | s, a :: l => actR s a :: runR (actS s a) l
def runS (s : Fb) (l : List De) : Fb := l.foldl actS s
theorem runR_len : ∀ (l : List De) (s : Fb), (runR s l).length = l.length
  | [], _ => rfl
  | a :: l, s => by rw [runR, List.length_cons, List.length_cons, runR_len l]
theorem runS_ok {s : Fb} (h : FbOk s) : ∀ l : List De, FbOk (runS s l) := fun l => by
  induction l generalizing s with
  | nil => exact h
  | cons a l ih => exact ih (h.act a)
theorem runS_snoc (s : Fb) (l : List De) (a : De) : runS s (l ++ [a]) = actS (runS s l) a := by simp [runS]
theorem runR_snoc : ∀ (s : Fb) (l : List De) (a : De), runR s (l ++ [a]) = runR s l ++ [actR (runS s l) a]
  | s, [], a => rfl
  | s, b :: l, a => by
    rw [List.cons_append, runR, runR, runR_snoc (actS s b) l a]
    rfl
theorem runR_app : ∀ (s : Fb) (l m : List De), runR s (l ++ m) = runR s l ++ runR (runS s l) m
  | s, [], m => rfl
  | s, b :: l, m => by
    rw [List.cons_append, runR, runR, runR_app (actS s b) l m]
    rfl
theorem runS_app (s : Fb) (l m : List De) : runS s (l ++ m) = runS (runS s l) m := by simp [runS]
theorem flsK_set {K : Kn} (h6 : K.length = 6) {c : Cf} {n : Nat} (hn : n < 6) : (flsK K).set n (compF_ c (n : Int)) = flsK (K.set n (some c)) := by
  unfold flsK
  apply List.ext_getElem?
  intro i
  rw [List.getElem?_set]
  rcases Nat.lt_or_ge i 6 with hi | hi
  · rw [List.getElem?_map, List.getElem?_map, List.getElem?_range hi, List.length_map, List.length_range]
    simp only [Option.map_some]
    by_cases e : n = i
    · subst e
      rw [if_pos rfl, if_pos hn, List.getD_eq_getElem?_getD, List.getElem?_set, if_pos rfl, if_pos (by omega)]
      rfl
    · rw [if_neg e, List.getD_eq_getElem?_getD, List.getD_eq_getElem?_getD, List.getElem?_set, if_neg e]
  · rw [if_neg (by omega), List.getElem?_eq_none (by simp; omega), List.getElem?_eq_none (by simp; omega)]
theorem flsK_ok {K : Kn} (hK : KnOk K) : FlsOk (flsK K) := by
  have key : ∀ {P : List Fl → Prop}, (∀ (c : Cf) (ch : Int), CfOk c → 0 ≤ ch ∧ ch ≤ 5 → P (compF_ c ch)) → P [] → ∀ L ∈ flsK K, P L := fun h1 h2 L hL => by
    obtain ⟨i, hi, rfl⟩ := List.mem_map.1 hL
    have := List.mem_range.1 hi
    have hk := hK.at i
    unfold flK
    split
    · exact h2
    · rename_i c hc
      exact h1 c i (hk c hc) (by omega)
  exact ⟨by simp [flsK], key (fun c ch hc h => comp_room hc h) ⟨fun f hf => by simp at hf, by simp⟩, key (fun c ch _ _ => comp_strict c ch) .nil, key (fun c ch hc _ => comp_len hc) (by simp)⟩
def scrE (l : List De) : Int := if 300 < l.length then 1 else 0
def scrR (l : List De) : List Rep := if 300 < l.length then [] else runR fb0 l
def scrC (l : List De) : Cf := if 300 < l.length then cf0 else (runS fb0 l).c
theorem send_rep {s : Fb} (h : FbOk s) (id : Int) (f : Fr) : sendE s.c id f = repE s.c id f ∧ sendR s.c (flsK s.K) id f = repR s.c s.K id f ∧ (∀ q, poAt s.c id = some q → 0 ≤ q.ch → pkE f id 0 0 = 0 → SendOk (flsK s.K) q.ch (pkOf f id 0 0)) := by
  unfold sendE sendR repE repR
  cases hpo : poAt s.c id with
  | none => exact ⟨rfl, rfl, fun q hq => by cases hq⟩
  | some q =>
    obtain ⟨hq, hid⟩ := poAt_mem hpo
    have hqr := (h.c.pg q hq).1
    unfold PoR at hqr
    dsimp only
    rw [pkE_id (by omega)]
    refine ⟨rfl, ?_, fun p hp h0 he => ?_⟩
    · by_cases h0 : q.ch < 0
      · rw [if_pos h0, if_pos h0]
      rw [if_neg h0, if_neg h0]
      by_cases hff : frameFault f = 0
      · rw [if_neg (show ¬ frameFault f ≠ 0 by omega), if_neg (show ¬ frameFault f ≠ 0 by omega)]
        exact send_sorted h.k (by omega) hff (by omega)
      · rw [if_pos hff, if_pos hff]
    · obtain rfl := Option.some.inj hp
      exact send_ok h.k (by omega) he (by omega)
def deSw (s : Sw) : De := { de0 with kind := 1, sw := s }
def dePo (p : Po) : De := { de0 with kind := 2, po := p }
def deAc (a : Ac) : De := { de0 with kind := 3, ac := a }
def deSy (ch : Int) : De := { de0 with kind := 7, n := ch }
def deSe (id : Int) (f : Fr) : De := { de0 with kind := 8, n := id, fr := f }
def wantA (c : Cf) : List De := c.ss.map deSw ++ c.ps.map dePo ++ c.acs.map deAc
def allA : List De := (List.range 6).map fun i : Nat => deSy (i : Int)
theorem wantA_len {c : Cf} (hc : CfOk c) : (wantA c).length ≤ 100 := by
  have h1 := hc.sl
  have h2 := hc.pl
  have h3 := hc.al
  simp only [wantA, List.length_append, List.length_map]
  omega
theorem wantA_kind {c : Cf} {a : De} (h : a ∈ wantA c) : a.kind ≠ 7 ∧ a.kind ≠ 8 := by
  unfold wantA at h
  rcases List.mem_append.1 h with h | h
  · rcases List.mem_append.1 h with h | h
    · obtain ⟨s, _, rfl⟩ := List.mem_map.1 h
      exact ⟨by show (1 : Int) ≠ 7; decide, by show (1 : Int) ≠ 8; decide⟩
    · obtain ⟨s, _, rfl⟩ := List.mem_map.1 h
      exact ⟨by show (2 : Int) ≠ 7; decide, by show (2 : Int) ≠ 8; decide⟩
  · obtain ⟨s, _, rfl⟩ := List.mem_map.1 h
    exact ⟨by show (3 : Int) ≠ 7; decide, by show (3 : Int) ≠ 8; decide⟩
theorem runS_K : ∀ {l : List De} {s : Fb}, (∀ a ∈ l, a.kind ≠ 7) → (runS s l).K = s.K
  | [], _, _ => rfl
  | a :: l, s, h => by
    have ih := runS_K (l := l) (s := actS s a) fun x hx => h x (by simp [hx])
    show (runS (actS s a) l).K = s.K
    rw [ih]
    unfold actS
    rw [if_neg (h a (by simp))]
    split <;> rfl
theorem led_cf0 (ch id : Int) (f : Fr) : ledF cf0 ch id f = [] := rfl
theorem sent_none {ch : Int} (hch : 0 ≤ ch ∧ ch ≤ 5) (id : Int) (f : Fr) : sentOfF fb0.K ch id f = [] := by
  have e : cfAt fb0.K ch = cf0 := by
    obtain ⟨n, hn⟩ := Int.eq_ofNat_of_zero_le hch.1
    rw [hn]
    match n, (show n < 6 by omega) with
    | 0, _ => rfl
    | 1, _ => rfl
    | 2, _ => rfl
    | 3, _ => rfl
    | 4, _ => rfl
    | 5, _ => rfl
  unfold sentOfF
  rw [e, led_cf0]
  exact List.flatMap_eq_nil_iff.2 fun _ _ => rfl
theorem silent {c : Cf} (hc : CfOk c) (id : Int) (f : Fr) : (actR (runS fb0 (wantA c)) (deSe id f)).come = [] := by
  have hk := runS_K (s := fb0) (l := wantA c) fun a ha => (wantA_kind ha).1
  have hok := runS_ok fb0_ok (wantA c)
  have h7 : (deSe id f).kind ≠ 7 := by show (8 : Int) ≠ 7; decide
  have h8 : (deSe id f).kind = 8 := rfl
  unfold actR
  rw [if_neg h7, if_pos h8]
  show repR _ _ id f = []
  rw [hk]
  unfold repR
  split
  · rfl
  · rename_i q hpo
    split
    · rfl
    · split
      · rfl
      · have hq := (hok.c.pg q (poAt_mem hpo).1).1
        unfold PoR at hq
        exact sent_none (by omega) id f
theorem scrR_snoc {l : List De} {a : De} (h : l.length < 300) : scrR (l ++ [a]) = runR fb0 l ++ [actR (runS fb0 l) a] ∧ scrE (l ++ [a]) = 0 ∧ scrC (l ++ [a]) = (actS (runS fb0 l) a).c := by
  have h1 : ¬ 300 < (l ++ [a]).length := by simp; omega
  unfold scrR scrE scrC
  rw [if_neg h1, if_neg h1, if_neg h1, runR_snoc, runS_snoc]
  exact ⟨rfl, rfl, rfl⟩
def dbl1 (a : De) : List De := [a] ++ (if a.kind = 7 then [a] else []) ++ (if a.kind = 8 then [a] else [])
def dblA (l : List De) : List De := l.flatMap dbl1
theorem dblA_snoc (l : List De) (a : De) : dblA (l ++ [a]) = dblA l ++ dbl1 a := by simp [dblA]
theorem dbl1_len (a : De) : (dbl1 a).length ≤ 2 := by
  unfold dbl1
  by_cases h7 : a.kind = 7
  · rw [if_pos h7, if_neg (by omega)]; simp
  · rw [if_neg h7]
    split <;> simp
theorem dblA_len : ∀ l : List De, (dblA l).length ≤ 2 * l.length
  | [] => by simp [dblA]
  | a :: l => by
    have h1 := dblA_len l
    have h2 := dbl1_len a
    show (List.flatMap dbl1 (a :: l)).length ≤ _
    rw [List.flatMap_cons, List.length_append, List.length_cons]
    have : (List.flatMap dbl1 l).length = (dblA l).length := rfl
    omega
theorem act_twice (s : Fb) (a : De) (h : a.kind = 7 ∨ a.kind = 8) : actS (actS s a) a = actS s a ∧ actR (actS s a) a = actR s a := by
  rcases h with h | h
  · constructor
    · unfold actS
      rw [if_pos h, if_pos h]
      by_cases hr : a.n < 0 ∨ 6 ≤ a.n
      · rw [if_pos hr, if_pos hr]
      · rw [if_neg hr, if_neg hr]
        simp
    · unfold actR
      rw [if_pos h, if_pos h]
  · have e : actS s a = s := by
      unfold actS
      rw [if_neg (by omega), if_pos h]
    rw [e]
    exact ⟨e, rfl⟩
theorem runS_dbl1 (s : Fb) (a : De) : runS s (dbl1 a) = actS s a := by
  unfold dbl1
  by_cases h7 : a.kind = 7
  · rw [if_pos h7, if_neg (by omega)]
    exact (act_twice s a (.inl h7)).1
  · rw [if_neg h7]
    by_cases h8 : a.kind = 8
    · rw [if_pos h8]
      exact (act_twice s a (.inr h8)).1
    · rw [if_neg h8]
      rfl
theorem runR_dbl1 (s : Fb) (a : De) : runR s (dbl1 a) = if a.kind = 7 ∨ a.kind = 8 then [actR s a, actR s a] else [actR s a] := by
  unfold dbl1
  by_cases h7 : a.kind = 7
  · rw [if_pos h7, if_neg (by omega), if_pos (.inl h7)]
    show [actR s a, actR (actS s a) a] = _
    rw [(act_twice s a (.inl h7)).2]
  · rw [if_neg h7]
    by_cases h8 : a.kind = 8
    · rw [if_pos h8, if_pos (.inr h8)]
      show [actR s a, actR (actS s a) a] = _
      rw [(act_twice s a (.inr h8)).2]
    · rw [if_neg h8, if_neg (by omega)]
      rfl
theorem runS_dbl (s : Fb) : ∀ l : List De, runS s (dblA l) = runS s l := fun l => by
  induction l generalizing s with
  | nil => rfl
  | cons a l ih =>
    show runS s (dbl1 a ++ dblA l) = runS (actS s a) l
    rw [runS_app, runS_dbl1, ih]
theorem runR_dbl_at (s : Fb) {l : List De} {k : Nat} {a : De} (h : l[k]? = some a) :
    (runR s (dblA l))[(dblA (l.take k)).length]? = some (actR (runS s (l.take k)) a) ∧ (a.kind = 7 ∨ a.kind = 8 → (runR s (dblA l))[(dblA (l.take k)).length + 1]? = some (actR (runS s (l.take k)) a)) := by
  have hl : l = l.take k ++ (a :: l.drop (k + 1)) := by
    have hlt := (List.getElem?_eq_some_iff.1 h).1
    rw [← (List.getElem?_eq_some_iff.1 h).2, ← List.drop_eq_getElem_cons hlt, List.take_append_drop]
  have e : dblA l = dblA (l.take k) ++ (dbl1 a ++ dblA (l.drop (k + 1))) := by
    conv => lhs; rw [hl]
    unfold dblA
    rw [List.flatMap_append, List.flatMap_cons]
  rw [e, runR_app, runR_app, runR_dbl1, runS_dbl]
  have hn : (dblA (l.take k)).length = (runR s (dblA (l.take k))).length := (runR_len _ _).symm
  generalize runR (runS (runS s (l.take k)) (dbl1 a)) (dblA (l.drop (k + 1))) = Z
  generalize actR (runS s (l.take k)) a = r
  constructor
  · rw [List.getElem?_append_right (by omega), hn, Nat.sub_self]
    split <;> rfl
  · intro hk
    rw [List.getElem?_append_right (by omega), hn, if_pos hk]
    rw [show (runR s (dblA (l.take k))).length + 1 - (runR s (dblA (l.take k))).length = 1 by omega]
    rfl
theorem runR_at (s : Fb) : ∀ {l : List De} {k : Nat} {a : De}, l[k]? = some a → (runR s l)[k]? = some (actR (runS s (l.take k)) a)
  | [], _, _, h => by simp at h
  | b :: l, 0, a, h => by
    obtain rfl := Option.some.inj h
    rfl
  | b :: l, k + 1, a, h => runR_at (actS s b) (l := l) (k := k) (by simpa using h)
theorem act_come {s : Fb} (h : FbOk s) (a : De) : (actR s a).come.length ≤ 80000 := by
  unfold actR
  split
  · simp
  · split
    · dsimp only
      unfold repR
      split
      · simp
      · split
        · simp
        · split
          · simp
          · exact sentOfF_len h.k _ _ _
    · simp
theorem scr_short {l : List De} (h : l.length ≤ 300) : scrR l = runR fb0 l ∧ scrE l = 0 ∧ scrC l = (runS fb0 l).c := by
  unfold scrR scrE scrC
  rw [if_neg (by omega), if_neg (by omega), if_neg (by omega)]
  exact ⟨rfl, rfl, rfl⟩
def actK (c : Cf) (r : Rq) : De := if pick (r.kind.tdiv 16) 3 = 0 then deSe (frK c r).1 (frK c r).2 else if pick (r.kind.tdiv 16) 3 = 1 ∧ pick r.c 2 = 0 then deSy (pick r.b 5) else changeOf r
def actsC (c : Cf) (l : List Rq) : Cf := l.foldl (fun c r => stepC c (actK c r)) c
def actsL : Cf → List Rq → List De
  | _, [] => []
  | c, r :: l => actK c r :: actsL (stepC c (actK c r)) l
theorem actsC_snoc (c : Cf) (l : List Rq) (r : Rq) : actsC c (l ++ [r]) = stepC (actsC c l) (actK (actsC c l) r) := by simp [actsC]
theorem actsL_snoc : ∀ (c : Cf) (l : List Rq) (r : Rq), actsL c (l ++ [r]) = actsL c l ++ [actK (actsC c l) r]
  | c, [], r => rfl
  | c, b :: l, r => by
    rw [List.cons_append, actsL, actsL, actsL_snoc (stepC c (actK c b)) l r]
    rfl
theorem actsL_len : ∀ (c : Cf) (l : List Rq), (actsL c l).length = l.length
  | _, [] => rfl
  | c, b :: l => by rw [actsL, List.length_cons, List.length_cons, actsL_len]
theorem actsC_ok {c : Cf} (hc : CfOk c) (l : List Rq) : CfOk (actsC c l) := by
  induction l generalizing c with
  | nil => exact hc
  | cons r l ih => exact ih (hc.step _)
def actsOf (l : List Rq) (m : Nat) : List De := (conf0 4).ss.map deSw ++ actsL (conf0 4) (l.take m)
theorem actsOf_len (l : List Rq) (m : Nat) : (actsOf l m).length ≤ 12 + m := by
  have h := (conf0_ok 4).sl
  unfold actsOf
  rw [List.length_append, List.length_map, actsL_len, List.length_take]
  omega
theorem step78 {c : Cf} (hc : CfOk c) {a : De} (h : a.kind = 7 ∨ a.kind = 8) : applyE c a = 3 := by
  unfold applyE
  rw [if_neg (by rw [cfMay_iff.2 hc]; simp), if_neg (by omega), if_neg (by omega), if_neg (by omega), if_neg (by omega), if_neg (by omega)]
theorem Fun.nil1 {P : Program} {f : FuncId} {xs : List AV} {r : AV} (h : Fun P f (.fv (.sl [] 0) :: xs) r) : Fun P f (.nil :: xs) r := ⟨h.1, fun σ Z w vs hI hrep => h.2 σ Z w vs hI (by
  cases vs with
  | nil => exact hrep.elim
  | cons v vs => exact ⟨AV.Le.nil _ _ _ _ hrep.1, hrep.2⟩)⟩
set_option maxHeartbeats 16000000 in
theorem acts_T (l : List Rq) (m : Nat) (hok : ∀ r ∈ l, r.Ok) (hm : m ≤ 100) : FunO Tryz.prog 34 [.fv (slOf encRq l), .fv (.int .i64 (m : Int))] [] (.osl 7) [(7, .row 74 28 (actsOf l m).length (((actsOf l m).flatMap encDe).map .fv))] := by
  have c0 : Fun Tryz.prog 29 [.nil, .fv (.int .i64 0)] (.agg ((encCf (conf0 4)).map .fv)) := by
    have := conf_T [] 0 (by simp) (by omega)
    rw [confOf_zero] at this
    exact Fun.nil1 this
  have hc0 := conf0_ok 4
  have hsl := hc0.sl
  have hA : actsOf l m = (conf0 4).ss.map deSw ++ actsL (conf0 4) (l.take m) := rfl
  generalize conf0 4 = c at *
  refine FunO.bodyL tbl_ok Tryz.func34 rfl (by kernel_rfl) rfl rfl rfl ?_
  repeat' (first | (apply X.loE; (· exact aR); (· first | exact .callL rfl rfl rfl (c0) rfl | exact bl (c0))) | refine X.loc ?_ | refine nx ?_ | refine X.cdT ?_ | refine X.cdF ?_ | refine cb ?_ ?_ | (refine cc ?_ ?_ <;> intro hcond) | (apply X.gsE; (· exact aR); (· exact aV); (· exact aW); (· intro hc; first | exact .callG rfl rfl rfl (c0) rfl | exact bg (c0)); (· exact aR)) | refine rb ?_ | refine nd ?_ | refine dk ?_ | fail)
  refine WP.loop (ι := Nat) (fun k => ⟨[(0, .fv (slOf encRq l)), (1, .fv (.int .i64 (m : Int))), (5, .osl 900), (6, .optr 6 0), (18, .fv (slOf encSw c.ss)), (19, .fv (.int .i64 c.ss.length)), (20, .fv (.int .i64 k))], [(6, .box 26 ((encCf c).map .fv)), (900, .row 74 28 ((c.ss.take k).map deSw).length ((((c.ss.take k).map deSw).flatMap encDe).map .fv))]⟩) (fun k => k ≤ c.ss.length) (fun k => c.ss.length - k) 0 (by omega) ?_ ?_
  · try dsimp only
    rw [List.take_zero, List.map_nil]
    exact tq [(900, .nil)] []
  rintro k hk
  try dsimp only
  by_cases hlt : k < c.ss.length
  case pos =>
    obtain ⟨x, hx⟩ : ∃ x, c.ss[k]? = some x := ⟨_, List.getElem?_eq_getElem hlt⟩
    have hs : (c.ss.take (k + 1)).map deSw = (c.ss.take k).map deSw ++ [deSw x] := by
      rw [List.take_add_one, hx, List.map_append]
      rfl
    have hQ : ((c.ss.take k).map deSw).length ≤ 200 := by
      rw [List.length_map, List.length_take]
      omega
    generalize (c.ss.take k).map deSw = Q at *
    repeat' (first | (apply X.loE; (· exact aR); (· first | (exact .eff (.idxS rfl rfl rfl encSw_len hx)))) | refine X.loc ?_ | refine nx ?_ | refine X.cdT ?_ | refine X.cdF ?_ | refine cb ?_ ?_ | (refine cc ?_ ?_ <;> intro hcond) | (apply X.gsE; (· exact aR); (· exact aV); (· exact aW); (· intro hc; first | (exact .eff (.idxS rfl rfl rfl encSw_len hx))); (· exact aR)) | refine rb ?_ | refine nd ?_ | refine dk ?_ | fail)
    refine ⟨k + 1, by omega, by omega, ?_⟩
    try dsimp only
    rw [hs]
    refine St.to [(900, .id 28)] [] rfl rfl ?_ ?_ <;> (repeat' (first | exact tA | refine t1 ?_ | exact tB | refine t2 ?_ ?_ | refine t3 ?_ | refine t4 ?_ ?_ | refine .ofEq ?_ | refine OB.To.cut rfl rfl ?_ ?_ ?_ ?_ | refine OB.To.box rfl rfl ?_ | refine ⟨⟨_, rfl, ?_⟩, ?_⟩ | refine ⟨?_, ?_⟩ | fail))
    all_goals first | omega | (simp; done) | (simp only [List.flatMap_append, List.map_append]; rfl)
  rw [List.take_of_length_le (by omega)]
  have hBl : (c.ss.map deSw).length ≤ 12 := by rw [List.length_map]; exact hsl
  generalize c.ss.map deSw = B at *
  repeat' (first | refine X.loc ?_ | refine nx ?_ | refine X.cdT ?_ | refine X.cdF ?_ | refine cb ?_ ?_ | (refine cc ?_ ?_ <;> intro hcond) | refine rb ?_ | refine nd ?_ | refine dk ?_ | fail)
  refine WP.loop (ι := Nat) (fun k => ⟨[(0, .fv (slOf encRq l)), (1, .fv (.int .i64 (m : Int))), (5, .osl 902), (6, .optr 901 0), (9, .fv (.int .i64 k))], [(901, .box 26 ((encCf (actsC c (l.take k))).map .fv)), (902, .row 74 28 (B ++ actsL c (l.take k)).length (((B ++ actsL c (l.take k)).flatMap encDe).map .fv))]⟩) (fun k => k ≤ l.length ∧ k ≤ m) (fun k => m - k) 0 (by omega) ?_ ?_
  · try dsimp only
    rw [List.take_zero, actsL, List.append_nil, show actsC c [] = c from rfl]
    exact tq [(901, .id 6), (902, .id 900)] []
  rintro k ⟨hk, hkm⟩
  try dsimp only
  by_cases hlt : k < l.length ∧ k < m
  case neg =>
    have e : l.take k = l.take m := by
      rcases Nat.lt_or_ge k m with h | h
      · rw [List.take_of_length_le (by omega), List.take_of_length_le (by omega)]
      · rw [show k = m by omega]
    rw [e, ← hA]
    generalize actsOf l m = W at *
    repeat' (first | refine X.loc ?_ | refine nx ?_ | refine X.cdT ?_ | refine X.cdF ?_ | refine cb ?_ ?_ | (refine cc ?_ ?_ <;> intro hcond) | refine rb ?_ | refine nd ?_ | refine dk ?_ | fail)
    exact rq ⟨[(4, .osl 7)], [(7, .row 74 28 W.length ((W.flatMap encDe).map .fv))]⟩ (tq [(7, .id 902)] [])
  case pos =>
    obtain ⟨x, hx⟩ : ∃ x, l[k]? = some x := ⟨_, List.getElem?_eq_getElem hlt.1⟩
    have hxo := hok x (List.mem_of_getElem? hx)
    have e1 : l.take (k + 1) = l.take k ++ [x] := take_succ hx
    have hcs : actsC c (l.take (k + 1)) = stepC (actsC c (l.take k)) (actK (actsC c (l.take k)) x) := by rw [e1, actsC_snoc]
    have hls : B ++ actsL c (l.take (k + 1)) = (B ++ actsL c (l.take k)) ++ [actK (actsC c (l.take k)) x] := by rw [e1, actsL_snoc, List.append_assoc]
    have hc := actsC_ok hc0 (l.take k)
    have hQ : (B ++ actsL c (l.take k)).length ≤ 200 := by
      rw [List.length_append, actsL_len, List.length_take]
      omega
    generalize (B ++ actsL c (l.take k)) = Q at *
    generalize actsC c (l.take k) = C at *
    have hch := change_T x hxo
    have n0 := hxo.kind
    have n2 := hxo.b
    have n3 := hxo.c
    unfold N64 at n2 n3
    have q16 := quoT_bd n0 (m := 16) (by omega)
    have k1 := picked_T (x.kind.tdiv 16) 3 (by omega) (by omega) (by omega)
    have k2 := picked_T x.c 2 n3.1 n3.2 (by omega)
    have k3 := picked_T x.b 5 n2.1 n2.2 (by omega)
    obtain ⟨id, f, hfr, hF, _⟩ := frameE_T C hc x hxo
    have hcfit := hc.fit
    have hap := fun a => apply_T C a hcfit
    have h78 := fun a h => step78 hc (a := a) h
    unfold actK at hcs hls
    generalize changeOf x = B1 at *
    generalize pick (x.kind.tdiv 16) 3 = v at *
    generalize pick x.c 2 = c2 at *
    generalize pick x.b 5 = b5 at *
    rw [hfr] at hcs hls
    dsimp only at hcs hls
    by_cases v0 : v = 0
    · rw [if_pos v0] at hcs hls
      have ha := hap (deSe id f)
      have h3 := h78 (deSe id f) (.inr rfl)
      unfold stepC at hcs
      rw [h3, if_neg (by decide)] at hcs
      rw [h3] at ha
      generalize applyR C (deSe id f) = R at *
      repeat' (first | (apply X.loE; (· exact aR); (· first | (refine .eff (.quoT rfl rfl ?_ ?_) <;> first | assumption | omega) | (exact .eff (.idxS rfl rfl rfl encRq_len hx)) | exact .callL rfl rfl rfl (by first | exact hch | exact k1 | exact k2 | exact k3 | exact hF | exact ha) rfl | exact bl (hch) | exact bl (k1) | exact bl (k2) | exact bl (k3) | exact bl (hF) | exact bl (ha))) | refine X.loc ?_ | refine nx ?_ | refine X.cdT ?_ | refine X.cdF ?_ | refine cb ?_ ?_ | (refine cc ?_ ?_ <;> intro hcond) | (apply X.gsE; (· exact aR); (· exact aV); (· exact aW); (· intro hc; first | (refine .eff (.quoT rfl rfl ?_ ?_) <;> first | assumption | omega) | (exact .eff (.idxS rfl rfl rfl encRq_len hx)) | exact .callG rfl rfl rfl (by first | exact hch | exact k1 | exact k2 | exact k3 | exact hF | exact ha) rfl | exact bg (hch) | exact bg (k1) | exact bg (k2) | exact bg (k3) | exact bg (hF) | exact bg (ha)); (· exact aR)) | refine rb ?_ | refine nd ?_ | refine dk ?_ | fail)
      refine ⟨k + 1, by omega, by omega, ?_⟩
      try dsimp only
      rw [hcs, hls]
      refine St.to [(902, .id 84)] [] rfl rfl ?_ ?_ <;> (repeat' (first | exact tA | refine t1 ?_ | exact tB | refine t2 ?_ ?_ | refine t3 ?_ | refine t4 ?_ ?_ | refine .ofEq ?_ | refine OB.To.cut rfl rfl ?_ ?_ ?_ ?_ | refine OB.To.box rfl rfl ?_ | refine ⟨⟨_, rfl, ?_⟩, ?_⟩ | refine ⟨?_, ?_⟩ | fail))
      all_goals first | omega | (simp; done) | (simp only [List.flatMap_append, List.map_append]; rfl)
    rw [if_neg v0] at hcs hls
    by_cases v1 : v = 1 ∧ c2 = 0
    · rw [if_pos v1] at hcs hls
      have ha := hap (deSy b5)
      have h3 := h78 (deSy b5) (.inl rfl)
      unfold stepC at hcs
      rw [h3, if_neg (by decide)] at hcs
      rw [h3] at ha
      generalize applyR C (deSy b5) = R at *
      have v11 := v1.1
      have v12 := v1.2
      repeat' (first | (apply X.loE; (· exact aR); (· first | (refine .eff (.quoT rfl rfl ?_ ?_) <;> first | assumption | omega) | (exact .eff (.idxS rfl rfl rfl encRq_len hx)) | exact .callL rfl rfl rfl (by first | exact hch | exact k1 | exact k2 | exact k3 | exact ha) rfl | exact bl (hch) | exact bl (k1) | exact bl (k2) | exact bl (k3) | exact bl (ha))) | refine X.loc ?_ | refine nx ?_ | refine X.cdT ?_ | refine X.cdF ?_ | refine cb ?_ ?_ | (refine cc ?_ ?_ <;> intro hcond) | (apply X.gsE; (· exact aR); (· exact aV); (· exact aW); (· intro hc; first | (refine .eff (.quoT rfl rfl ?_ ?_) <;> first | assumption | omega) | (exact .eff (.idxS rfl rfl rfl encRq_len hx)) | exact .callG rfl rfl rfl (by first | exact hch | exact k1 | exact k2 | exact k3 | exact ha) rfl | exact bg (hch) | exact bg (k1) | exact bg (k2) | exact bg (k3) | exact bg (ha)); (· exact aR)) | refine rb ?_ | refine nd ?_ | refine dk ?_ | fail)
      refine ⟨k + 1, by omega, by omega, ?_⟩
      try dsimp only
      rw [hcs, hls]
      refine St.to [(902, .id 84)] [] rfl rfl ?_ ?_ <;> (repeat' (first | exact tA | refine t1 ?_ | exact tB | refine t2 ?_ ?_ | refine t3 ?_ | refine t4 ?_ ?_ | refine .ofEq ?_ | refine OB.To.cut rfl rfl ?_ ?_ ?_ ?_ | refine OB.To.box rfl rfl ?_ | refine ⟨⟨_, rfl, ?_⟩, ?_⟩ | refine ⟨?_, ?_⟩ | fail))
      all_goals first | omega | (simp; done) | (simp only [List.flatMap_append, List.map_append]; rfl)
    rw [if_neg v1] at hcs hls
    have ha := hap B1
    unfold stepC at hcs
    generalize applyR C B1 = R at *
    generalize applyE C B1 = e at *
    by_cases v11 : v = 1
    · have v12 : c2 ≠ 0 := fun h => v1 ⟨v11, h⟩
      by_cases he : e = 0
      · rw [if_pos he] at hcs
        subst he
        repeat' (first | (apply X.loE; (· exact aR); (· first | (refine .eff (.quoT rfl rfl ?_ ?_) <;> first | assumption | omega) | (exact .eff (.idxS rfl rfl rfl encRq_len hx)) | exact .callL rfl rfl rfl (by first | exact hch | exact k1 | exact k2 | exact k3 | exact ha) rfl | exact bl (hch) | exact bl (k1) | exact bl (k2) | exact bl (k3) | exact bl (ha))) | refine X.loc ?_ | refine nx ?_ | refine X.cdT ?_ | refine X.cdF ?_ | refine cb ?_ ?_ | (refine cc ?_ ?_ <;> intro hcond) | (apply X.gsE; (· exact aR); (· exact aV); (· exact aW); (· intro hc; first | (refine .eff (.quoT rfl rfl ?_ ?_) <;> first | assumption | omega) | (exact .eff (.idxS rfl rfl rfl encRq_len hx)) | exact .callG rfl rfl rfl (by first | exact hch | exact k1 | exact k2 | exact k3 | exact ha) rfl | exact bg (hch) | exact bg (k1) | exact bg (k2) | exact bg (k3) | exact bg (ha)); (· exact aR)) | refine rb ?_ | refine nd ?_ | refine dk ?_ | fail)
        refine ⟨k + 1, by omega, by omega, ?_⟩
        try dsimp only
        rw [hcs, hls]
        refine St.to [(902, .id 84)] [] rfl rfl ?_ ?_ <;> (repeat' (first | exact tA | refine t1 ?_ | exact tB | refine t2 ?_ ?_ | refine t3 ?_ | refine t4 ?_ ?_ | refine .ofEq ?_ | refine OB.To.cut rfl rfl ?_ ?_ ?_ ?_ | refine OB.To.box rfl rfl ?_ | refine ⟨⟨_, rfl, ?_⟩, ?_⟩ | refine ⟨?_, ?_⟩ | fail))
        all_goals first | omega | (simp; done) | (simp only [List.flatMap_append, List.map_append]; rfl)
      · rw [if_neg he] at hcs
        repeat' (first | (apply X.loE; (· exact aR); (· first | (refine .eff (.quoT rfl rfl ?_ ?_) <;> first | assumption | omega) | (exact .eff (.idxS rfl rfl rfl encRq_len hx)) | exact .callL rfl rfl rfl (by first | exact hch | exact k1 | exact k2 | exact k3 | exact ha) rfl | exact bl (hch) | exact bl (k1) | exact bl (k2) | exact bl (k3) | exact bl (ha))) | refine X.loc ?_ | refine nx ?_ | refine X.cdT ?_ | refine X.cdF ?_ | refine cb ?_ ?_ | (refine cc ?_ ?_ <;> intro hcond) | (apply X.gsE; (· exact aR); (· exact aV); (· exact aW); (· intro hc; first | (refine .eff (.quoT rfl rfl ?_ ?_) <;> first | assumption | omega) | (exact .eff (.idxS rfl rfl rfl encRq_len hx)) | exact .callG rfl rfl rfl (by first | exact hch | exact k1 | exact k2 | exact k3 | exact ha) rfl | exact bg (hch) | exact bg (k1) | exact bg (k2) | exact bg (k3) | exact bg (ha)); (· exact aR)) | refine rb ?_ | refine nd ?_ | refine dk ?_ | fail)
        refine ⟨k + 1, by omega, by omega, ?_⟩
        try dsimp only
        rw [hcs, hls]
        refine St.to [(902, .id 84)] [] rfl rfl ?_ ?_ <;> (repeat' (first | exact tA | refine t1 ?_ | exact tB | refine t2 ?_ ?_ | refine t3 ?_ | refine t4 ?_ ?_ | refine .ofEq ?_ | refine OB.To.cut rfl rfl ?_ ?_ ?_ ?_ | refine OB.To.box rfl rfl ?_ | refine ⟨⟨_, rfl, ?_⟩, ?_⟩ | refine ⟨?_, ?_⟩ | fail))
        all_goals first | omega | (simp; done) | (simp only [List.flatMap_append, List.map_append]; rfl)
    · by_cases he : e = 0
      · rw [if_pos he] at hcs
        subst he
        repeat' (first | (apply X.loE; (· exact aR); (· first | (refine .eff (.quoT rfl rfl ?_ ?_) <;> first | assumption | omega) | (exact .eff (.idxS rfl rfl rfl encRq_len hx)) | exact .callL rfl rfl rfl (by first | exact hch | exact k1 | exact k2 | exact k3 | exact ha) rfl | exact bl (hch) | exact bl (k1) | exact bl (k2) | exact bl (k3) | exact bl (ha))) | refine X.loc ?_ | refine nx ?_ | refine X.cdT ?_ | refine X.cdF ?_ | refine cb ?_ ?_ | (refine cc ?_ ?_ <;> intro hcond) | (apply X.gsE; (· exact aR); (· exact aV); (· exact aW); (· intro hc; first | (refine .eff (.quoT rfl rfl ?_ ?_) <;> first | assumption | omega) | (exact .eff (.idxS rfl rfl rfl encRq_len hx)) | exact .callG rfl rfl rfl (by first | exact hch | exact k1 | exact k2 | exact k3 | exact ha) rfl | exact bg (hch) | exact bg (k1) | exact bg (k2) | exact bg (k3) | exact bg (ha)); (· exact aR)) | refine rb ?_ | refine nd ?_ | refine dk ?_ | fail)
        refine ⟨k + 1, by omega, by omega, ?_⟩
        try dsimp only
        rw [hcs, hls]
        refine St.to [(902, .id 84)] [] rfl rfl ?_ ?_ <;> (repeat' (first | exact tA | refine t1 ?_ | exact tB | refine t2 ?_ ?_ | refine t3 ?_ | refine t4 ?_ ?_ | refine .ofEq ?_ | refine OB.To.cut rfl rfl ?_ ?_ ?_ ?_ | refine OB.To.box rfl rfl ?_ | refine ⟨⟨_, rfl, ?_⟩, ?_⟩ | refine ⟨?_, ?_⟩ | fail))
        all_goals first | omega | (simp; done) | (simp only [List.flatMap_append, List.map_append]; rfl)
      · rw [if_neg he] at hcs
        repeat' (first | (apply X.loE; (· exact aR); (· first | (refine .eff (.quoT rfl rfl ?_ ?_) <;> first | assumption | omega) | (exact .eff (.idxS rfl rfl rfl encRq_len hx)) | exact .callL rfl rfl rfl (by first | exact hch | exact k1 | exact k2 | exact k3 | exact ha) rfl | exact bl (hch) | exact bl (k1) | exact bl (k2) | exact bl (k3) | exact bl (ha))) | refine X.loc ?_ | refine nx ?_ | refine X.cdT ?_ | refine X.cdF ?_ | refine cb ?_ ?_ | (refine cc ?_ ?_ <;> intro hcond) | (apply X.gsE; (· exact aR); (· exact aV); (· exact aW); (· intro hc; first | (refine .eff (.quoT rfl rfl ?_ ?_) <;> first | assumption | omega) | (exact .eff (.idxS rfl rfl rfl encRq_len hx)) | exact .callG rfl rfl rfl (by first | exact hch | exact k1 | exact k2 | exact k3 | exact ha) rfl | exact bg (hch) | exact bg (k1) | exact bg (k2) | exact bg (k3) | exact bg (ha)); (· exact aR)) | refine rb ?_ | refine nd ?_ | refine dk ?_ | fail)
        refine ⟨k + 1, by omega, by omega, ?_⟩
        try dsimp only
        rw [hcs, hls]
        refine St.to [(902, .id 84)] [] rfl rfl ?_ ?_ <;> (repeat' (first | exact tA | refine t1 ?_ | exact tB | refine t2 ?_ ?_ | refine t3 ?_ | refine t4 ?_ ?_ | refine .ofEq ?_ | refine OB.To.cut rfl rfl ?_ ?_ ?_ ?_ | refine OB.To.box rfl rfl ?_ | refine ⟨⟨_, rfl, ?_⟩, ?_⟩ | refine ⟨?_, ?_⟩ | fail))
        all_goals first | omega | (simp; done) | (simp only [List.flatMap_append, List.map_append]; rfl)
theorem actsF_T (l : List Rq) (m : Nat) (hok : ∀ r ∈ l, r.Ok) (hm : m ≤ 100) : Fun Tryz.prog 34 [.fv (slOf encRq l), .fv (.int .i64 (m : Int))] (.fv (slOf encDe (actsOf l m))) :=
  (acts_T l m hok hm).froz [7] (.frz rfl rfl rfl)
theorem cfAt_K6 (c : Cf) {ch : Int} (h : 0 ≤ ch ∧ ch ≤ 5) : cfAt (K6 c) ch = c := by
  obtain ⟨n, rfl⟩ := Int.eq_ofNat_of_zero_le h.1
  unfold cfAt
  rw [Int.toNat_natCast]
  match n, (show n < 6 by omega) with
  | 0, _ | 1, _ | 2, _ | 3, _ | 4, _ | 5, _ => rfl
set_option maxHeartbeats 1000000 in
theorem eqAr_T (l : List Ar) (hl : l.length < 9223372036854775807) : Fun Tryz.prog 22 [.fv (slOf encAr l), .fv (slOf encAr l)] (.fv (.bool true)) := by
  refine Fun.body tbl_ok Tryz.func22 rfl (by kernel_rfl) rfl rfl rfl ?_
  repeat' (first | refine X.loc ?_ | refine nx ?_ | refine cb ?_ ?_ | (refine cc ?_ ?_ <;> intro hcond) | refine rb ?_ | refine nd ?_ | refine dk ?_ | fail)
  · exfalso
    simp at hcond
  refine WP.loop (ι := Nat) (fun k => ⟨[(0, .fv (slOf encAr l)), (1, .fv (slOf encAr l)), (12, .fv (.int .i64 l.length)), (13, .fv (.int .i64 k))], []⟩) (fun k => k ≤ l.length) (fun k => l.length - k) 0 (by omega) ?_ ?_
  · exact lq
  rintro k hk
  try dsimp only
  by_cases hlt : k < l.length
  case neg =>
    repeat' (first | refine X.loc ?_ | refine nx ?_ | refine X.cdT ?_ | refine X.cdF ?_ | refine cb ?_ ?_ | (refine cc ?_ ?_ <;> intro hcond) | refine rb ?_ | refine nd ?_ | refine dk ?_ | fail)
    refine .f1 (.inl rfl) rfl rfl
  case pos =>
    obtain ⟨x, hx⟩ : ∃ x, l[k]? = some x := ⟨_, List.getElem?_eq_getElem hlt⟩
    repeat' (first | refine X.loc ?_ | refine nx ?_ | refine X.cdT ?_ | refine X.cdF ?_ | refine cb ?_ ?_ | (refine cc ?_ ?_ <;> intro hcond) | refine rb ?_ | refine nd ?_ | refine dk ?_ | fail)
    · exfalso
      simp [beqL, beqV] at hcond
    · refine ⟨k + 1, by omega, by omega, ?_⟩
      exact lq
set_option maxHeartbeats 1000000 in
theorem seqSw_T (l : List Sw) (hl : l.length < 9223372036854775807) : Fun Tryz.prog 67 [.fv (slOf encSw l), .fv (slOf encSw l)] (.fv (.bool true)) := by
  refine Fun.body tbl_ok Tryz.func67 rfl (by kernel_rfl) rfl rfl rfl ?_
  repeat' (first | refine X.loc ?_ | refine nx ?_ | refine cb ?_ ?_ | (refine cc ?_ ?_ <;> intro hcond) | refine rb ?_ | refine nd ?_ | refine dk ?_ | fail)
  · exfalso
    simp at hcond
  refine WP.loop (ι := Nat) (fun k => ⟨[(0, .fv (slOf encSw l)), (1, .fv (slOf encSw l)), (12, .fv (.int .i64 l.length)), (13, .fv (.int .i64 k))], []⟩) (fun k => k ≤ l.length) (fun k => l.length - k) 0 (by omega) ?_ ?_
  · exact lq
  rintro k hk
  try dsimp only
  by_cases hlt : k < l.length
  case neg =>
    repeat' (first | refine X.loc ?_ | refine nx ?_ | refine X.cdT ?_ | refine X.cdF ?_ | refine cb ?_ ?_ | (refine cc ?_ ?_ <;> intro hcond) | refine rb ?_ | refine nd ?_ | refine dk ?_ | fail)
    refine .f1 (.inl rfl) rfl rfl
  case pos =>
    obtain ⟨x, hx⟩ : ∃ x, l[k]? = some x := ⟨_, List.getElem?_eq_getElem hlt⟩
    repeat' (first | refine X.loc ?_ | refine nx ?_ | refine X.cdT ?_ | refine X.cdF ?_ | refine cb ?_ ?_ | (refine cc ?_ ?_ <;> intro hcond) | refine rb ?_ | refine nd ?_ | refine dk ?_ | fail)
    · exfalso
      simp [beqL, beqV] at hcond
    · refine ⟨k + 1, by omega, by omega, ?_⟩
      exact lq
set_option maxHeartbeats 1000000 in
theorem seqPo_T (l : List Po) (hl : l.length < 9223372036854775807) : Fun Tryz.prog 68 [.fv (slOf encPo l), .fv (slOf encPo l)] (.fv (.bool true)) := by
  refine Fun.body tbl_ok Tryz.func68 rfl (by kernel_rfl) rfl rfl rfl ?_
  repeat' (first | refine X.loc ?_ | refine nx ?_ | refine cb ?_ ?_ | (refine cc ?_ ?_ <;> intro hcond) | refine rb ?_ | refine nd ?_ | refine dk ?_ | fail)
  · exfalso
    simp at hcond
  refine WP.loop (ι := Nat) (fun k => ⟨[(0, .fv (slOf encPo l)), (1, .fv (slOf encPo l)), (12, .fv (.int .i64 l.length)), (13, .fv (.int .i64 k))], []⟩) (fun k => k ≤ l.length) (fun k => l.length - k) 0 (by omega) ?_ ?_
  · exact lq
  rintro k hk
  try dsimp only
  by_cases hlt : k < l.length
  case neg =>
    repeat' (first | refine X.loc ?_ | refine nx ?_ | refine X.cdT ?_ | refine X.cdF ?_ | refine cb ?_ ?_ | (refine cc ?_ ?_ <;> intro hcond) | refine rb ?_ | refine nd ?_ | refine dk ?_ | fail)
    refine .f1 (.inl rfl) rfl rfl
  case pos =>
    obtain ⟨x, hx⟩ : ∃ x, l[k]? = some x := ⟨_, List.getElem?_eq_getElem hlt⟩
    repeat' (first | refine X.loc ?_ | refine nx ?_ | refine X.cdT ?_ | refine X.cdF ?_ | refine cb ?_ ?_ | (refine cc ?_ ?_ <;> intro hcond) | refine rb ?_ | refine nd ?_ | refine dk ?_ | fail)
    · exfalso
      simp [beqL, beqV] at hcond
    · refine ⟨k + 1, by omega, by omega, ?_⟩
      exact lq
set_option maxHeartbeats 1000000 in
theorem seqAc_T (l : List Ac) (hl : l.length < 9223372036854775807) : Fun Tryz.prog 69 [.fv (slOf encAc l), .fv (slOf encAc l)] (.fv (.bool true)) := by
  refine Fun.body tbl_ok Tryz.func69 rfl (by kernel_rfl) rfl rfl rfl ?_
  repeat' (first | refine X.loc ?_ | refine nx ?_ | refine cb ?_ ?_ | (refine cc ?_ ?_ <;> intro hcond) | refine rb ?_ | refine nd ?_ | refine dk ?_ | fail)
  · exfalso
    simp at hcond
  refine WP.loop (ι := Nat) (fun k => ⟨[(0, .fv (slOf encAc l)), (1, .fv (slOf encAc l)), (12, .fv (.int .i64 l.length)), (13, .fv (.int .i64 k))], []⟩) (fun k => k ≤ l.length) (fun k => l.length - k) 0 (by omega) ?_ ?_
  · exact lq
  rintro k hk
  try dsimp only
  by_cases hlt : k < l.length
  case neg =>
    repeat' (first | refine X.loc ?_ | refine nx ?_ | refine X.cdT ?_ | refine X.cdF ?_ | refine cb ?_ ?_ | (refine cc ?_ ?_ <;> intro hcond) | refine rb ?_ | refine nd ?_ | refine dk ?_ | fail)
    refine .f1 (.inl rfl) rfl rfl
  case pos =>
    obtain ⟨x, hx⟩ : ∃ x, l[k]? = some x := ⟨_, List.getElem?_eq_getElem hlt⟩
    repeat' (first | refine X.loc ?_ | refine nx ?_ | refine X.cdT ?_ | refine X.cdF ?_ | refine cb ?_ ?_ | (refine cc ?_ ?_ <;> intro hcond) | refine rb ?_ | refine nd ?_ | refine dk ?_ | fail)
    · exfalso
      simp [beqL, beqV] at hcond
    · refine ⟨k + 1, by omega, by omega, ?_⟩
      exact lq
theorem topSame_T (c : Cf) (hl : c.Small) : Fun Tryz.prog 40 [.agg ((encCf c).map .fv), .agg ((encCf c).map .fv)] (.fv (.bool true)) := by
  have hl1 := hl.1
  have hl2 := hl.2.1
  have hl3 := hl.2.2
  have c1 := seqSw_T c.ss (by omega)
  have c2 := seqPo_T c.ps (by omega)
  have c3 := seqAc_T c.acs (by omega)
  refine Fun.body tbl_ok Tryz.func40 rfl (by kernel_rfl) rfl rfl rfl ?_
  repeat' (first | (apply X.loE; (· exact aR); (· first | exact .callL rfl rfl rfl (by first | exact c1 | exact c2 | exact c3) rfl | exact bl (c1) | exact bl (c2) | exact bl (c3))) | refine X.loc ?_ | refine nx ?_ | refine X.cdT ?_ | refine X.cdF ?_ | refine cb ?_ ?_ | (refine cc ?_ ?_ <;> intro hcond) | (apply X.gsE; (· exact aR); (· exact aV); (· exact aW); (· intro hc; first | exact .callG rfl rfl rfl (by first | exact c1 | exact c2 | exact c3) rfl | exact bg (c1) | exact bg (c2) | exact bg (c3)); (· exact aR)) | refine rb ?_ | refine nd ?_ | refine dk ?_ | fail)
  exact .f1 (.inl rfl) rfl rfl
end Go.Proofs.YtmidechdlbcepaaGreat