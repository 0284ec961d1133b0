import Derived.Test.YtmidechdlbcepaaGreatPack46
import Derived.Test.YtmidechdlbcepaaGreatPack48
import Derived.Test.YtmidechdlbcepaaGreatPack47
import Derived.Test.YtmidechdlbcepaaGreatPack50
import Derived.Test.YtmidechdlbcepaaGreatPack37
import Derived.Test.YtmidechdlbcepaaGreatPack40
import Derived.Test.YtmidechdlbcepaaGreatPack26
import Derived.Test.YtmidechdlbcepaaGreatPack45
set_option linter.unusedSimpArgs false
set_option linter.unusedVariables false
namespace Go.Proofs.YtmidechdlbcepaaGreat
open Go.RowKit
set_option maxRecDepth 100000
theorem cfAt_K6 (c : Cf) {ch : Int} (h : 0 ≤ ch ∧ ch ≤ 5) : cfAt (K6 c) ch = c := by
  obtain ⟨n, rfl⟩ := Int.eq_ofNat_of_zero_le h.1
  unfold cfAt
  rw [Int.toNat_natCast]
  match n, (show n < 6 by omega) with
  | 0, _ | 1, _ | 2, _ | 3, _ | 4, _ | 5, _ => rfl
structure LikeP (g : Po → Po) : Prop where
  id : ∀ q, (g q).id = q.id
  sw : ∀ q, (g q).sw = q.sw
  mac : ∀ q, (g q).mac = q.mac
  ip : ∀ q, (g q).ip = q.ip
  ch : ∀ q, (g q).ch < 0 ↔ q.ch < 0
section
variable {c : Cf} {g : Po → Po}
end
structure Fb where
  c : Cf
  K : Kn
structure Rep where
  code : Int
  come : List Ar
def encRep (r : Rep) : List FV := [.int .i64 r.code, slOf encAr r.come]
theorem encRep_len (r : Rep) : (encRep r).length = 2 := rfl
def repE (c : Cf) (id : Int) (f : Fr) : Int := match poAt c id with
  | none => 6
  | some q => if q.ch < 0 then 6 else frameFault f
def repR (c : Cf) (K : Kn) (id : Int) (f : Fr) : List Ar := match poAt c id with
  | none => []
  | some q => if q.ch < 0 then [] else if frameFault f ≠ 0 then [] else sentOfF K q.ch id f
def actR (s : Fb) (a : De) : Rep :=
  if a.kind = 7 then ⟨if a.n < 0 ∨ 6 ≤ a.n then 2 else 0, []⟩
  else if a.kind = 8 then ⟨repE s.c a.n a.fr, repR s.c s.K a.n a.fr⟩
  else ⟨applyE s.c a, []⟩
def actS (s : Fb) (a : De) : Fb :=
  if a.kind = 7 then (if a.n < 0 ∨ 6 ≤ a.n then s else ⟨s.c, s.K.set a.n.toNat (some s.c)⟩)
  else if a.kind = 8 then s
  else ⟨stepC s.c a, s.K⟩
structure FbOk (s : Fb) : Prop where
  c : CfOk s.c
  k : KnOk s.K
  six : s.K.length = 6
theorem KnOk.set {K : Kn} (h : KnOk K) {c : Cf} (hc : CfOk c) (n : Nat) : KnOk (K.set n (some c)) := ⟨fun k hk x hx => by
  rcases List.mem_or_eq_of_mem_set hk with hk | rfl
  · exact h.ok k hk x hx
  · obtain rfl := Option.some.inj hx
    exact hc⟩
theorem FbOk.act {s : Fb} (h : FbOk s) (a : De) : FbOk (actS s a) := by
  unfold actS
  split
  · split
    · exact h
    · exact ⟨h.c, h.k.set h.c _, by rw [List.length_set]; exact h.six⟩
  · split
    · exact h
    · exact ⟨h.c.step a, h.k, h.six⟩
def fb0 : Fb := ⟨cf0, [none, none, none, none, none, none]⟩
theorem fb0_ok : FbOk fb0 := ⟨CfOk.nil, ⟨fun k hk x hx => by
  simp only [fb0, List.mem_cons, List.not_mem_nil, or_false, or_self] at hk
  subst hk
  cases hx⟩, rfl⟩
def runR : Fb → List De → List Rep
  | _, [] => []
  | s, a :: l => actR s a :: runR (actS s a) l
def runS (s : Fb) (l : List De) : Fb := l.foldl actS s
theorem runR_len : ∀ (l : List De) (s : Fb), (runR s l).length = l.length
  | [], _ => rfl
  | a :: l, s => by rw [runR, List.length_cons, List.length_cons, runR_len l]
theorem runS_ok {s : Fb} (h : FbOk s) : ∀ l : List De, FbOk (runS s l) := fun l => by
  induction l generalizing s with
  | nil => exact h
  | cons a l ih => exact ih (h.act a)
theorem runS_snoc (s : Fb) (l : List De) (a : De) : runS s (l ++ [a]) = actS (runS s l) a := by simp [runS]
theorem runR_snoc : ∀ (s : Fb) (l : List De) (a : De), runR s (l ++ [a]) = runR s l ++ [actR (runS s l) a]
  | s, [], a => rfl
  | s, b :: l, a => by
    rw [List.cons_append, runR, runR, runR_snoc (actS s b) l a]
    rfl
theorem runS_app (s : Fb) (l m : List De) : runS s (l ++ m) = runS (runS s l) m := by simp [runS]
theorem flsK_set {K : Kn} (h6 : K.length = 6) {c : Cf} {n : Nat} (hn : n < 6) : (flsK K).set n (compF_ c (n : Int)) = flsK (K.set n (some c)) := by
  unfold flsK
  apply List.ext_getElem?
  intro i
  rw [List.getElem?_set]
  rcases Nat.lt_or_ge i 6 with hi | hi
  · rw [List.getElem?_map, List.getElem?_map, List.getElem?_range hi, List.length_map, List.length_range]
    simp only [Option.map_some]
    by_cases e : n = i
    · subst e
      rw [if_pos rfl, if_pos hn, List.getD_eq_getElem?_getD, List.getElem?_set, if_pos rfl, if_pos (by omega)]
      rfl
    · rw [if_neg e, List.getD_eq_getElem?_getD, List.getD_eq_getElem?_getD, List.getElem?_set, if_neg e]
  · rw [if_neg (by omega), List.getElem?_eq_none (by simp; omega), List.getElem?_eq_none (by simp; omega)]
theorem flsK_ok {K : Kn} (hK : KnOk K) : FlsOk (flsK K) := by
  have key : ∀ {P : List Fl → Prop}, (∀ (c : Cf) (ch : Int), CfOk c → 0 ≤ ch ∧ ch ≤ 5 → P (compF_ c ch)) → P [] → ∀ L ∈ flsK K, P L := fun h1 h2 L hL => by
    obtain ⟨i, hi, rfl⟩ := List.mem_map.1 hL
    have := List.mem_range.1 hi
    have hk := hK.at i
    unfold flK
    split
    · exact h2
    · rename_i c hc
      exact h1 c i (hk c hc) (by omega)
  exact ⟨by simp [flsK], key (fun c ch hc h => comp_room hc h) ⟨fun f hf => by simp at hf, by simp⟩, key (fun c ch _ _ => comp_strict c ch) .nil, key (fun c ch hc _ => comp_len hc) (by simp)⟩
def scrE (l : List De) : Int := if 300 < l.length then 1 else 0
def scrR (l : List De) : List Rep := if 300 < l.length then [] else runR fb0 l
def scrC (l : List De) : Cf := if 300 < l.length then cf0 else (runS fb0 l).c
theorem send_rep {s : Fb} (h : FbOk s) (id : Int) (f : Fr) : sendE s.c id f = repE s.c id f ∧ sendR s.c (flsK s.K) id f = repR s.c s.K id f ∧ (∀ q, poAt s.c id = some q → 0 ≤ q.ch → pkE f id 0 0 = 0 → SendOk (flsK s.K) q.ch (pkOf f id 0 0)) := by
  unfold sendE sendR repE repR
  cases hpo : poAt s.c id with
  | none => exact ⟨rfl, rfl, fun q hq => by cases hq⟩
  | some q =>
    obtain ⟨hq, hid⟩ := poAt_mem hpo
    have hqr := (h.c.pg q hq).1
    unfold PoR at hqr
    dsimp only
    rw [pkE_id (by omega)]
    refine ⟨rfl, ?_, fun p hp h0 he => ?_⟩
    · by_cases h0 : q.ch < 0
      · rw [if_pos h0, if_pos h0]
      rw [if_neg h0, if_neg h0]
      by_cases hff : frameFault f = 0
      · rw [if_neg (show ¬ frameFault f ≠ 0 by omega), if_neg (show ¬ frameFault f ≠ 0 by omega)]
        exact send_sorted h.k (by omega) hff (by omega)
      · rw [if_pos hff, if_pos hff]
    · obtain rfl := Option.some.inj hp
      exact send_ok h.k (by omega) he (by omega)
def deSw (s : Sw) : De := { de0 with kind := 1, sw := s }
def dePo (p : Po) : De := { de0 with kind := 2, po := p }
def deAc (a : Ac) : De := { de0 with kind := 3, ac := a }
def deSy (ch : Int) : De := { de0 with kind := 7, n := ch }
def deSe (id : Int) (f : Fr) : De := { de0 with kind := 8, n := id, fr := f }
def wantA (c : Cf) : List De := c.ss.map deSw ++ c.ps.map dePo ++ c.acs.map deAc
def allA : List De := (List.range 6).map fun i : Nat => deSy (i : Int)
theorem wantA_len {c : Cf} (hc : CfOk c) : (wantA c).length ≤ 100 := by
  have h1 := hc.sl
  have h2 := hc.pl
  have h3 := hc.al
  simp only [wantA, List.length_append, List.length_map]
  omega
theorem scrR_snoc {l : List De} {a : De} (h : l.length < 300) : scrR (l ++ [a]) = runR fb0 l ++ [actR (runS fb0 l) a] ∧ scrE (l ++ [a]) = 0 ∧ scrC (l ++ [a]) = (actS (runS fb0 l) a).c := by
  have h1 : ¬ 300 < (l ++ [a]).length := by simp; omega
  unfold scrR scrE scrC
  rw [if_neg h1, if_neg h1, if_neg h1, runR_snoc, runS_snoc]
  exact ⟨rfl, rfl, rfl⟩
theorem app_ok {c : Cf} {a : De} (h : applyE c a = 0) : stepC c a = applyC c a := by
  unfold stepC
  rw [if_pos h, applyR_ok h]
theorem act_else {s : Fb} {a : De} (h7 : a.kind ≠ 7) (h8 : a.kind ≠ 8) : actS s a = ⟨stepC s.c a, s.K⟩ := by
  unfold actS
  rw [if_neg h7, if_neg h8]
theorem sws_pre {ss l : List Sw} (h : CfOk ⟨ss ++ l, [], []⟩) : CfOk ⟨ss, [], []⟩ := ⟨fun x hx => h.sr x (List.mem_append_left _ hx), (List.pairwise_append.1 h.sd).1, by have := h.sl; simp only [List.length_append] at this; show ss.length ≤ 12; omega, fun x hx => (by simp at hx), .nil, by simp, fun x hx => (by simp at hx), by simp⟩
theorem sw_step {ss : List Sw} {s : Sw} (h : CfOk ⟨ss ++ [s], [], []⟩) : stepC ⟨ss, [], []⟩ (deSw s) = ⟨ss ++ [s], [], []⟩ := by
  have hk : (deSw s).kind = 1 := rfl
  have h0 : applyE ⟨ss, [], []⟩ (deSw s) = 0 := by
    unfold applyE
    rw [if_neg (by rw [cfMay_iff.2 (sws_pre h)]; simp), if_pos hk]
    refine swFault0.2 ⟨h.sr s (by simp), fun x hx => (List.pairwise_append.1 h.sd).2.2 x hx s (by simp), fun _ p hp => (by simp at hp), ?_⟩
    have := h.sl
    simp only [List.length_append, List.length_singleton] at this
    show ss.length < 12
    omega
  rw [app_ok h0]
  unfold applyC
  rw [if_pos hk]
  rfl
theorem run_sws : ∀ (l : List Sw) {ss : List Sw} {K : Kn}, CfOk ⟨ss ++ l, [], []⟩ → runS ⟨⟨ss, [], []⟩, K⟩ (l.map deSw) = ⟨⟨ss ++ l, [], []⟩, K⟩
  | [], ss, K, h => by simp [runS]
  | s :: l, ss, K, h => by
    have h2 : CfOk ⟨(ss ++ [s]) ++ l, [], []⟩ := by simpa using h
    have h7 : (deSw s).kind ≠ 7 := by show (1 : Int) ≠ 7; decide
    have h8 : (deSw s).kind ≠ 8 := by show (1 : Int) ≠ 8; decide
    show runS (actS ⟨⟨ss, [], []⟩, K⟩ (deSw s)) (l.map deSw) = _
    rw [act_else h7 h8]
    dsimp only
    rw [sw_step (sws_pre h2), run_sws l h2]
    simp
theorem pos_pre {ss : List Sw} {ps l : List Po} (h : CfOk ⟨ss, ps ++ l, []⟩) : CfOk ⟨ss, ps, []⟩ := ⟨h.sr, h.sd, h.sl, fun x hx => h.pg x (List.mem_append_left _ hx), (List.pairwise_append.1 h.pd).1, by have := h.pl; simp only [List.length_append] at this; show ps.length ≤ 40; omega, fun x hx => (by simp at hx), by simp⟩
theorem po_step {ss : List Sw} {ps : List Po} {p : Po} (h : CfOk ⟨ss, ps ++ [p], []⟩) : stepC ⟨ss, ps, []⟩ (dePo p) = ⟨ss, ps ++ [p], []⟩ := by
  have hk : (dePo p).kind = 2 := rfl
  have hk1 : (dePo p).kind ≠ 1 := by show (2 : Int) ≠ 1; decide
  have h0 : applyE ⟨ss, ps, []⟩ (dePo p) = 0 := by
    unfold applyE
    rw [if_neg (by rw [cfMay_iff.2 (pos_pre h)]; simp), if_neg hk1, if_pos hk]
    refine poFault0.2 ⟨h.pg p (by simp), fun x hx => (List.pairwise_append.1 h.pd).2.2 x hx p (by simp), ?_⟩
    have := h.pl
    simp only [List.length_append, List.length_singleton] at this
    show ps.length < 40
    omega
  rw [app_ok h0]
  unfold applyC
  rw [if_neg hk1, if_pos hk]
  rfl
theorem run_pos : ∀ (l : List Po) {ss : List Sw} {ps : List Po} {K : Kn}, CfOk ⟨ss, ps ++ l, []⟩ → runS ⟨⟨ss, ps, []⟩, K⟩ (l.map dePo) = ⟨⟨ss, ps ++ l, []⟩, K⟩
  | [], ss, ps, K, h => by simp [runS]
  | p :: l, ss, ps, K, h => by
    have h2 : CfOk ⟨ss, (ps ++ [p]) ++ l, []⟩ := by simpa using h
    have h7 : (dePo p).kind ≠ 7 := by show (2 : Int) ≠ 7; decide
    have h8 : (dePo p).kind ≠ 8 := by show (2 : Int) ≠ 8; decide
    show runS (actS ⟨⟨ss, ps, []⟩, K⟩ (dePo p)) (l.map dePo) = _
    rw [act_else h7 h8]
    dsimp only
    rw [po_step (pos_pre h2), run_pos l h2]
    simp
theorem acs_pre {ss : List Sw} {ps : List Po} {acs l : List Ac} (h : CfOk ⟨ss, ps, acs ++ l⟩) : CfOk ⟨ss, ps, acs⟩ := ⟨h.sr, h.sd, h.sl, h.pg, h.pd, h.pl, fun x hx => h.ar x (List.mem_append_left _ hx), by have := h.al; simp only [List.length_append] at this; show acs.length ≤ 40; omega⟩
theorem ac_step {ss : List Sw} {ps : List Po} {acs : List Ac} {a : Ac} (h : CfOk ⟨ss, ps, acs ++ [a]⟩) : stepC ⟨ss, ps, acs⟩ (deAc a) = ⟨ss, ps, acs ++ [a]⟩ := by
  have hk : (deAc a).kind = 3 := rfl
  have hk1 : (deAc a).kind ≠ 1 := by show (3 : Int) ≠ 1; decide
  have hk2 : (deAc a).kind ≠ 2 := by show (3 : Int) ≠ 2; decide
  have h0 : applyE ⟨ss, ps, acs⟩ (deAc a) = 0 := by
    unfold applyE
    rw [if_neg (by rw [cfMay_iff.2 (acs_pre h)]; simp), if_neg hk1, if_neg hk2, if_pos hk]
    refine acFault0.2 ⟨h.ar a (by simp), ?_⟩
    have := h.al
    simp only [List.length_append, List.length_singleton] at this
    show acs.length < 40
    omega
  rw [app_ok h0]
  unfold applyC
  rw [if_neg hk1, if_neg hk2, if_pos hk]
  rfl
theorem run_acs : ∀ (l : List Ac) {ss : List Sw} {ps : List Po} {acs : List Ac} {K : Kn}, CfOk ⟨ss, ps, acs ++ l⟩ → runS ⟨⟨ss, ps, acs⟩, K⟩ (l.map deAc) = ⟨⟨ss, ps, acs ++ l⟩, K⟩
  | [], ss, ps, acs, K, h => by simp [runS]
  | a :: l, ss, ps, acs, K, h => by
    have h2 : CfOk ⟨ss, ps, (acs ++ [a]) ++ l⟩ := by simpa using h
    have h7 : (deAc a).kind ≠ 7 := by show (3 : Int) ≠ 7; decide
    have h8 : (deAc a).kind ≠ 8 := by show (3 : Int) ≠ 8; decide
    show runS (actS ⟨⟨ss, ps, acs⟩, K⟩ (deAc a)) (l.map deAc) = _
    rw [act_else h7 h8]
    dsimp only
    rw [ac_step (acs_pre h2), run_acs l h2]
    simp
theorem run_want {c : Cf} (hc : CfOk c) : runS fb0 (wantA c) = ⟨c, fb0.K⟩ := by
  have h1 : CfOk ⟨c.ss, c.ps, [] ++ c.acs⟩ := hc
  have h2 : CfOk ⟨c.ss, [] ++ c.ps, []⟩ := acs_pre h1
  have h3 : CfOk ⟨[] ++ c.ss, [], []⟩ := pos_pre h2
  unfold wantA
  rw [runS_app, runS_app]
  have e : fb0 = ⟨⟨[], [], []⟩, fb0.K⟩ := rfl
  rw [e, run_sws c.ss h3, List.nil_append, run_pos c.ps h2, List.nil_append, run_acs c.acs h1]
  rfl
theorem find_same {α : Type} {p : α → Bool} {l l' : List α} (hm : ∀ x, x ∈ l' ↔ x ∈ l) (hu : ∀ a ∈ l, ∀ b ∈ l, p a = true → p b = true → a = b) : l'.find? p = l.find? p := by
  cases h : l.find? p with
  | none =>
    rw [List.find?_eq_none] at h ⊢
    exact fun x hx => h x ((hm x).1 hx)
  | some a =>
    have ha := List.mem_of_find?_eq_some h
    have hpa : p a = true := List.find?_some h
    cases h2 : l'.find? p with
    | none => exact absurd hpa (List.find?_eq_none.1 h2 a ((hm a).2 ha))
    | some b =>
      have hb := (hm b).1 (List.mem_of_find?_eq_some h2)
      rw [hu a ha b hb hpa (List.find?_some h2)]
structure SameC (c d : Cf) : Prop where
  ss : d.ss.Perm c.ss
  ps : d.ps.Perm c.ps
  acs : d.acs = c.acs
section
variable {c d : Cf}
theorem same_swAt (h : SameC c d) (hc : CfOk c) (n : Int) : swAt d.ss n = swAt c.ss n := by
  unfold swAt
  rw [find_same (fun x => h.ss.mem_iff) fun a ha b hb h1 h2 => hc.sid ha hb (by rw [beq_iff_eq] at h1 h2; rw [h1, h2])]
theorem same_tenAt (h : SameC c d) (hc : CfOk c) (n : Int) : tenantAt d.ss n = tenantAt c.ss n := by
  unfold tenantAt
  rw [find_same (fun x => h.ss.mem_iff) fun a ha b hb h1 h2 => hc.sid ha hb (by rw [beq_iff_eq] at h1 h2; rw [h1, h2])]
theorem same_poAt (h : SameC c d) (hc : CfOk c) (n : Int) : poAt d n = poAt c n := by
  unfold poAt
  exact find_same (fun x => h.ps.mem_iff) fun a ha b hb h1 h2 => hc.id1 ha hb (by rw [beq_iff_eq] at h1 h2; rw [h1, h2])
theorem same_ok (h : SameC c d) (hc : CfOk c) : CfOk d := by
  have hs : ∀ {x y : Sw}, SwD x y → SwD y x := fun ⟨h1, h2⟩ => ⟨fun e => h1 e.symm, fun ⟨g1, g2, g3⟩ => h2 ⟨by omega, g2.symm, g3.symm⟩⟩
  have hp : ∀ {x y : Po}, PoD d.ss x y → PoD d.ss y x := fun ⟨h1, h2, h3⟩ => ⟨fun e => h1 e.symm, fun ⟨g1, g2⟩ => h2 ⟨g1.symm, g2.symm⟩, fun ⟨g1, g2⟩ => h3 ⟨g1.symm, g2.symm⟩⟩
  have hhas : ∀ n, hasSw c.ss n → hasSw d.ss n := fun n ⟨x, hx, e⟩ => ⟨x, h.ss.mem_iff.2 hx, e⟩
  refine ⟨fun x hx => hc.sr x (h.ss.mem_iff.1 hx), ?_, by rw [h.ss.length_eq]; exact hc.sl, fun x hx => ?_, ?_, by rw [h.ps.length_eq]; exact hc.pl, fun x hx => ?_, by rw [h.acs]; exact hc.al⟩
  · exact (h.ss.pairwise_iff hs).2 hc.sd
  · obtain ⟨g1, g2, g3⟩ := hc.pg x (h.ps.mem_iff.1 hx)
    refine ⟨g1, hhas _ g2, fun s hs => ?_⟩
    rw [same_tenAt h hc]
    exact g3 s (h.ss.mem_iff.1 hs)
  · refine (h.ps.pairwise_iff hp).2 (hc.pd.imp fun {a b} ⟨g1, g2, g3⟩ => ⟨g1, g2, ?_⟩)
    rw [same_tenAt h hc, same_tenAt h hc]
    exact g3
  · rw [h.acs] at hx
    exact ⟨(hc.ar x hx).1, hhas _ (hc.ar x hx).2⟩
theorem same_allow (h : SameC c d) : allowB d = allowB c := by
  have : ofKind d = ofKind c := by
    funext b
    unfold ofKind
    rw [h.acs]
  funext net inn src dst port
  unfold allowB
  rw [this]
theorem same_ask (h : SameC c d) (hc : CfOk c) {p : Po} (hp : p ∈ c.ps) (f : Fr) : askG d p f = askG c p f := by
  have hsi := (hc.swIn hp).2
  have hf : d.ps.find? (askB f (swAt c.ss p.sw) p.id) = c.ps.find? (askB f (swAt c.ss p.sw) p.id) := by
    refine find_same (fun x => h.ps.mem_iff) fun a ha b hb h1 h2 => ?_
    unfold askB at h1 h2
    simp only [Bool.and_eq_true, beq_iff_eq] at h1 h2
    rcases pw_cases hc.pd ha hb with e | e | e
    · exact e
    · exact absurd ⟨by rw [h1.2.1, h2.2.1], by rw [h1.1, h2.1]⟩ e.2.2
    · exact absurd ⟨by rw [h1.2.1, h2.2.1], by rw [h1.1, h2.1]⟩ e.2.2
  unfold askG
  rw [same_swAt h hc, hf]
theorem same_goal (h : SameC c d) (hc : CfOk c) (p : Po) (f : Fr) : goalQ d p f = goalQ c p f := by
  funext q
  unfold goalQ
  rw [same_swAt h hc, same_swAt h hc]
theorem same_led (h : SameC c d) (hc : CfOk c) (ch id : Int) (f : Fr) : (ledF d ch id f).Perm (ledF c ch id f) := by
  unfold ledF
  rw [same_poAt h hc]
  cases hpo : poAt c id with
  | none => exact .refl _
  | some p =>
    dsimp only
    split
    · exact .refl _
    · split
      · rw [same_ask h hc (poAt_mem hpo).1]
      · unfold dataG
        rw [same_swAt h hc, same_allow h, same_goal h hc]
        split
        · exact .refl _
        · exact h.ps.flatMap_right _
theorem same_comes (h : SameC c d) (hc : CfOk c) (ch : Int) (g : Gl) : comesG d ch g = comesG c ch g := by
  unfold comesG
  rw [same_poAt h hc, same_allow h]
theorem perm_one {α : Type} {l l' : List α} (h : l'.Perm l) (h1 : l.length ≤ 1) : l' = l := by
  have h2 := h.length_eq
  match l, l', h1, h2, h with
  | [], [], _, _, _ => rfl
  | [a], [b], _, _, h => rw [List.singleton_perm_singleton.1 h]
theorem same_sent (h : SameC c d) (hc : CfOk c) {ch : Int} (hch : 0 ≤ ch ∧ ch ≤ 5) (id : Int) {f : Fr} (hff : frameFault f = 0) : sentOfF (K6 d) ch id f = sentOfF (K6 c) ch id f := by
  unfold sentOfF
  rw [cfAt_K6 _ hch, cfAt_K6 _ hch]
  have hG : ∀ x ∈ ledF c ch id f, arrG (K6 d) ch x = arrG (K6 c) ch x := fun x hx => by
    obtain ⟨_, _, _, _, q, hq, hpo, h3, h4⟩ := led_ok hc hch hff hx
    unfold arrG
    rw [cfAt_K6 _ hch, cfAt_K6 _ hch, same_poAt h hc, hpo]
    dsimp only
    rw [cfAt_K6 _ ⟨h3, h4⟩, cfAt_K6 _ ⟨h3, h4⟩, same_comes h hc]
  congr 1
  funext n
  have hl : ((ledF c ch id f).flatMap fun g => if g.to = (n : Int) then arrG (K6 c) ch g else []).length ≤ 1 := by
    refine fm_single (fun g _ => arrN_len (K6 c) ch n g) ((led_dis2 hc ch id f).imp fun {a b} hne => ?_)
    by_cases e : a.to = (n : Int)
    · right
      rw [if_neg]
      omega
    · left
      rw [if_neg e]
  have hp := (same_led h hc ch id f).flatMap_right fun g => if g.to = (n : Int) then arrG (K6 d) ch g else []
  have he : ((ledF c ch id f).flatMap fun g => if g.to = (n : Int) then arrG (K6 d) ch g else []) = (ledF c ch id f).flatMap fun g => if g.to = (n : Int) then arrG (K6 c) ch g else [] := by
    generalize ledF c ch id f = G at *
    clear hl hp
    induction G with
    | nil => rfl
    | cons x G ih =>
      rw [List.flatMap_cons, List.flatMap_cons, hG x (by simp), ih fun y hy => hG y (by simp [hy])]
  rw [he] at hp
  exact perm_one hp hl
theorem same_del (h : SameC c d) (hc : CfOk c) (id : Int) (f : Fr) : delE d id f = delE c id f ∧ delR d id f = delR c id f := by
  unfold delE delR
  rw [cfMay_iff.2 hc, cfMay_iff.2 (same_ok h hc), same_poAt h hc]
  simp only [Bool.true_eq_false, if_false]
  cases hpo : poAt c id with
  | none => exact ⟨trivial, rfl⟩
  | some p =>
    refine ⟨trivial, ?_⟩
    dsimp only
    by_cases h0 : p.ch < 0
    · rw [if_pos h0, if_pos h0]
    rw [if_neg h0, if_neg h0]
    by_cases hff : frameFault f = 0
    · rw [if_neg (by omega), if_neg (by omega)]
      have r1 := (hc.pg p (poAt_mem hpo).1).1
      unfold PoR at r1
      exact same_sent h hc (by omega) id hff
    · rw [if_pos hff, if_pos hff]
theorem same_rev : SameC c ⟨c.ss.reverse, c.ps.reverse, c.acs⟩ := ⟨List.reverse_perm _, List.reverse_perm _, rfl⟩
end
def RvP {α : Type} (l R : List α) (k : Nat) : Prop := R.length = l.length ∧ ∀ i, i < l.length → R[i]? = if i < k ∨ l.length ≤ i + k then l[l.length - 1 - i]? else l[i]?
theorem rv_zero {α : Type} (l : List α) : RvP l l 0 := ⟨rfl, fun i hi => by rw [if_neg (by omega)]⟩
theorem rv_end {α : Type} {l R : List α} {k : Nat} (h : RvP l R k) (hk : l.length ≤ 2 * k + 1) : R = l.reverse := by
  apply List.ext_getElem?
  intro i
  rcases Nat.lt_or_ge i l.length with hi | hi
  · rw [h.2 i hi, List.getElem?_reverse hi]
    split
    · rfl
    · rw [show l.length - 1 - i = i by omega]
  · rw [List.getElem?_eq_none (by rw [h.1]; exact hi), List.getElem?_eq_none (by rw [List.length_reverse]; exact hi)]
theorem rv_step {α : Type} {l R : List α} {k : Nat} {x y : α} (h : RvP l R k) (hk : 2 * k + 1 < l.length) (hx : R[k]? = some x) (hy : R[l.length - 1 - k]? = some y) : RvP l ((R.set k y).set (l.length - 1 - k) x) (k + 1) := by
  refine ⟨by rw [List.length_set, List.length_set]; exact h.1, fun i hi => ?_⟩
  have gx := h.2 k (by omega)
  rw [hx, if_neg (by omega)] at gx
  have gy := h.2 (l.length - 1 - k) (by omega)
  rw [hy, if_neg (by omega)] at gy
  rw [List.getElem?_set]
  by_cases e1 : l.length - 1 - k = i
  · rw [if_pos e1, if_pos (by rw [List.length_set, h.1]; omega), if_pos (by omega), gx]
    congr 1
    omega
  · rw [if_neg e1, List.getElem?_set]
    by_cases e2 : k = i
    · rw [if_pos e2, if_pos (by rw [h.1]; omega), if_pos (by omega), gy, e2]
    · rw [if_neg e2, h.2 i hi]
      by_cases e3 : i < k ∨ l.length ≤ i + k
      · rw [if_pos e3, if_pos (by omega)]
      · rw [if_neg e3, if_neg (by omega)]
theorem readRSw {l : List Sw} {i off : Nat} {x : Sw} (h : off = i * 3) (hx : l[i]? = some x) : readA tbl 44 off ((l.flatMap encSw).map .fv) = some (.agg ((encSw x).map .fv)) := by
  unfold readA
  rw [readE encSw_len h hx]
  generalize ((l.drop (i + 1)).flatMap encSw).map AV.fv = r
  cases r with
  | nil => rfl
  | cons a r => rfl
theorem setRSw {l : List Sw} {i off : Nat} {x : Sw} (h : off = i * 3) (hi : i < l.length) : setC ((l.flatMap encSw).map .fv) off ((encSw x).map .fv) = some (((l.set i x).flatMap encSw).map .fv) := by
  subst h
  induction l generalizing i with
  | nil => simp at hi
  | cons y l ih =>
    cases i with
    | zero => simp [setC, encSw]
    | succ i =>
      have := ih (i := i) (by simpa using hi)
      rw [show (i + 1) * 3 = (i * 3) + 3 from by omega]
      simp only [List.flatMap_cons, List.map_append, List.set_cons_succ]
      show setC (AV.fv _ :: AV.fv _ :: AV.fv _ :: (l.flatMap encSw).map AV.fv) _ _ = _
      simp only [setC, this]
      rfl
set_option maxHeartbeats 4000000 in
theorem revSw_T (l : List Sw) (hl : l.length ≤ 1000) : FunO Tryz.prog 43 [.osl 1000] [(1000, .row 44 3 l.length ((l.flatMap encSw).map .fv))] (.tup []) [(1000, .row 44 3 l.reverse.length ((l.reverse.flatMap encSw).map .fv))] := by
  refine FunO.bodyL tbl_ok Tryz.func43 rfl (by kernel_rfl) rfl rfl rfl ?_
  repeat' (first | refine X.loc ?_ | refine nx ?_ | refine X.cdT ?_ | refine X.cdF ?_ | refine cb ?_ ?_ | (refine cc ?_ ?_ <;> intro hcond) | refine rb ?_ | refine nd ?_ | refine dk ?_ | fail)
  refine WP.loop (ι := Nat × List Sw) (fun x => ⟨[(0, .osl 1000), (2, .fv (.int .i64 x.1)), (3, .fv (.int .i64 ((l.length : Int) - 1 - (x.1 : Int))))], [(1000, .row 44 3 x.2.length ((x.2.flatMap encSw).map .fv))]⟩) (fun x => x.1 ≤ l.length ∧ RvP l x.2 x.1) (fun x => l.length - x.1) (0, l) ⟨by omega, rv_zero l⟩ ?_ ?_
  · try dsimp only
    rw [show ((l.length : Int) - 1 - ((0 : Nat) : Int)) = (l.length : Int) - 1 by omega]
    exact tq [] []
  rintro ⟨k, R⟩ ⟨hk, hR⟩
  try dsimp only at hk hR ⊢
  by_cases hlt : 2 * k + 1 < l.length
  case neg =>
    rw [rv_end hR (by omega)]
    generalize l.reverse = W at *
    repeat' (first | refine X.loc ?_ | refine nx ?_ | refine X.cdT ?_ | refine X.cdF ?_ | refine cb ?_ ?_ | (refine cc ?_ ?_ <;> intro hcond) | refine rb ?_ | refine nd ?_ | refine dk ?_ | fail)
    exact rq ⟨[], [(1000, .row 44 3 W.length ((W.flatMap encSw).map .fv))]⟩ (tq [] [])
  case pos =>
    have hRl := hR.1
    obtain ⟨x, hx⟩ : ∃ x, R[k]? = some x := ⟨_, List.getElem?_eq_getElem (by omega)⟩
    obtain ⟨y, hy⟩ : ∃ y, R[l.length - 1 - k]? = some y := ⟨_, List.getElem?_eq_getElem (by omega)⟩
    have hs := rv_step hR hlt hx hy
    have s1 := setRSw (l := R) (i := k) (off := (k : Int).toNat * 3) (x := y) (by omega) (by omega)
    have s2 := setRSw (l := R.set k y) (i := l.length - 1 - k) (off := ((l.length : Int) - 1 - (k : Int)).toNat * 3) (x := x) (by omega) (by rw [List.length_set]; omega)
    repeat' (first | (apply X.loE; (· exact aR); (· first | (exact .eff (.loadO rfl rfl (readRSw (i := l.length - 1 - k) (by omega) hy))) | (exact .eff (.loadO rfl rfl (readRSw (i := k) (by omega) hx))))) | refine X.loc ?_ | (apply X.stRE; (· exact aS); (· exact s1); (· exact aE)) | (apply X.stRE; (· exact aS); (· exact s2); (· exact aE)) | refine nx ?_ | refine X.cdT ?_ | refine X.cdF ?_ | refine cb ?_ ?_ | (refine cc ?_ ?_ <;> intro hcond) | (apply X.gsE; (· exact aR); (· exact aV); (· exact aW); (· intro hc; first | (exact .eff (.loadO rfl rfl (readRSw (i := l.length - 1 - k) (by omega) hy))) | (exact .eff (.loadO rfl rfl (readRSw (i := k) (by omega) hx)))); (· exact aR)) | refine rb ?_ | refine nd ?_ | refine dk ?_ | fail)
    refine ⟨(k + 1, (R.set k y).set (l.length - 1 - k) x), ⟨by dsimp only; omega, hs⟩, by dsimp only; omega, ?_⟩
    try dsimp only
    rw [show ((l.length : Int) - 1 - ((k + 1 : Nat) : Int)) = (l.length : Int) - 1 - (k : Int) - 1 by omega, List.length_set, List.length_set]
    refine St.to [] [] rfl rfl ?_ ?_ <;> (repeat' (first | exact tA | refine t1 ?_ | exact tB | refine t2 ?_ ?_ | refine t3 ?_ | refine t4 ?_ ?_ | refine .ofEq ?_ | refine OB.To.cut rfl rfl ?_ ?_ ?_ ?_ | refine OB.To.box rfl rfl ?_ | refine ⟨⟨_, rfl, ?_⟩, ?_⟩ | refine ⟨?_, ?_⟩ | fail))
    all_goals first | omega | (simp; done)
theorem readRPo {l : List Po} {i off : Nat} {x : Po} (h : off = i * 5) (hx : l[i]? = some x) : readA tbl 69 off ((l.flatMap encPo).map .fv) = some (.agg ((encPo x).map .fv)) := by
  unfold readA
  rw [readE encPo_len h hx]
  generalize ((l.drop (i + 1)).flatMap encPo).map AV.fv = r
  cases r with
  | nil => rfl
  | cons a r => rfl
theorem setRPo {l : List Po} {i off : Nat} {x : Po} (h : off = i * 5) (hi : i < l.length) : setC ((l.flatMap encPo).map .fv) off ((encPo x).map .fv) = some (((l.set i x).flatMap encPo).map .fv) := by
  subst h
  induction l generalizing i with
  | nil => simp at hi
  | cons y l ih =>
    cases i with
    | zero => simp [setC, encPo]
    | succ i =>
      have := ih (i := i) (by simpa using hi)
      rw [show (i + 1) * 5 = (i * 5) + 5 from by omega]
      simp only [List.flatMap_cons, List.map_append, List.set_cons_succ]
      show setC (AV.fv _ :: AV.fv _ :: AV.fv _ :: AV.fv _ :: AV.fv _ :: (l.flatMap encPo).map AV.fv) _ _ = _
      simp only [setC, this]
      rfl
set_option maxHeartbeats 4000000 in
theorem revPo_T (l : List Po) (hl : l.length ≤ 1000) : FunO Tryz.prog 44 [.osl 1000] [(1000, .row 69 5 l.length ((l.flatMap encPo).map .fv))] (.tup []) [(1000, .row 69 5 l.reverse.length ((l.reverse.flatMap encPo).map .fv))] := by
  refine FunO.bodyL tbl_ok Tryz.func44 rfl (by kernel_rfl) rfl rfl rfl ?_
  repeat' (first | refine X.loc ?_ | refine nx ?_ | refine X.cdT ?_ | refine X.cdF ?_ | refine cb ?_ ?_ | (refine cc ?_ ?_ <;> intro hcond) | refine rb ?_ | refine nd ?_ | refine dk ?_ | fail)
  refine WP.loop (ι := Nat × List Po) (fun x => ⟨[(0, .osl 1000), (2, .fv (.int .i64 x.1)), (3, .fv (.int .i64 ((l.length : Int) - 1 - (x.1 : Int))))], [(1000, .row 69 5 x.2.length ((x.2.flatMap encPo).map .fv))]⟩) (fun x => x.1 ≤ l.length ∧ RvP l x.2 x.1) (fun x => l.length - x.1) (0, l) ⟨by omega, rv_zero l⟩ ?_ ?_
  · try dsimp only
    rw [show ((l.length : Int) - 1 - ((0 : Nat) : Int)) = (l.length : Int) - 1 by omega]
    exact tq [] []
  rintro ⟨k, R⟩ ⟨hk, hR⟩
  try dsimp only at hk hR ⊢
  by_cases hlt : 2 * k + 1 < l.length
  case neg =>
    rw [rv_end hR (by omega)]
    generalize l.reverse = W at *
    repeat' (first | refine X.loc ?_ | refine nx ?_ | refine X.cdT ?_ | refine X.cdF ?_ | refine cb ?_ ?_ | (refine cc ?_ ?_ <;> intro hcond) | refine rb ?_ | refine nd ?_ | refine dk ?_ | fail)
    exact rq ⟨[], [(1000, .row 69 5 W.length ((W.flatMap encPo).map .fv))]⟩ (tq [] [])
  case pos =>
    have hRl := hR.1
    obtain ⟨x, hx⟩ : ∃ x, R[k]? = some x := ⟨_, List.getElem?_eq_getElem (by omega)⟩
    obtain ⟨y, hy⟩ : ∃ y, R[l.length - 1 - k]? = some y := ⟨_, List.getElem?_eq_getElem (by omega)⟩
    have hs := rv_step hR hlt hx hy
    have s1 := setRPo (l := R) (i := k) (off := (k : Int).toNat * 5) (x := y) (by omega) (by omega)
    have s2 := setRPo (l := R.set k y) (i := l.length - 1 - k) (off := ((l.length : Int) - 1 - (k : Int)).toNat * 5) (x := x) (by omega) (by rw [List.length_set]; omega)
    repeat' (first | (apply X.loE; (· exact aR); (· first | (exact .eff (.loadO rfl rfl (readRPo (i := l.length - 1 - k) (by omega) hy))) | (exact .eff (.loadO rfl rfl (readRPo (i := k) (by omega) hx))))) | refine X.loc ?_ | (apply X.stRE; (· exact aS); (· exact s1); (· exact aE)) | (apply X.stRE; (· exact aS); (· exact s2); (· exact aE)) | refine nx ?_ | refine X.cdT ?_ | refine X.cdF ?_ | refine cb ?_ ?_ | (refine cc ?_ ?_ <;> intro hcond) | (apply X.gsE; (· exact aR); (· exact aV); (· exact aW); (· intro hc; first | (exact .eff (.loadO rfl rfl (readRPo (i := l.length - 1 - k) (by omega) hy))) | (exact .eff (.loadO rfl rfl (readRPo (i := k) (by omega) hx)))); (· exact aR)) | refine rb ?_ | refine nd ?_ | refine dk ?_ | fail)
    refine ⟨(k + 1, (R.set k y).set (l.length - 1 - k) x), ⟨by dsimp only; omega, hs⟩, by dsimp only; omega, ?_⟩
    try dsimp only
    rw [show ((l.length : Int) - 1 - ((k + 1 : Nat) : Int)) = (l.length : Int) - 1 - (k : Int) - 1 by omega, List.length_set, List.length_set]
    refine St.to [] [] rfl rfl ?_ ?_ <;> (repeat' (first | exact tA | refine t1 ?_ | exact tB | refine t2 ?_ ?_ | refine t3 ?_ | refine t4 ?_ ?_ | refine .ofEq ?_ | refine OB.To.cut rfl rfl ?_ ?_ ?_ ?_ | refine OB.To.box rfl rfl ?_ | refine ⟨⟨_, rfl, ?_⟩, ?_⟩ | refine ⟨?_, ?_⟩ | fail))
    all_goals first | omega | (simp; done)
theorem Eff.idxSE {T : Tbl} {ρ : Operand → AV} {H : Own} {d : Nat} {α : Type} {enc : α → List FV} {t : Nat} {x y : Operand} {l : List α} {e s b : Nat} {k : IntKind} (i : Nat) {v : Int} {u : α} (h1 : ρ x = .fv (slOf enc l)) (h2 : ρ y = .fv (.int k v)) (hv : v = i) (h3 : lk T.sli t = some (e, s, b)) (hs : ∀ x, (enc x).length = s) (hu : l[i]? = some u) :
    Eff T ρ H d (.indexAddr t x y) (.fptr (enc u)) [] := by
  subst hv
  exact .idxS h1 h2 h3 hs hu
end Go.Proofs.YtmidechdlbcepaaGreat