/- Flows: what a packet comes to. -/
import Derived.Test.YtdbbmjdeeenlhaaPack20
import Derived.Test.YtdbbmjdeeenlhaaPack19
import Derived.Test.YtdbbmjdeeenlhaaPack13
set_option linter.unusedSimpArgs false
set_option linter.unusedVariables false
namespace Go.Proofs.Ytdbbmjdeeenlhaa
open Go.RowKit

def getP (p : Pk) : Nat → Int
  | 0 => p.f0
  | 1 => p.f1
  | 2 => p.f2
  | 3 => p.f3
  | 4 => p.f4
  | 5 => p.f5
  | 6 => p.f6
  | 7 => p.f7
  | 8 => p.f8
  | _ => p.f9
def setP (p : Pk) (i : Nat) (v : Int) : Pk :=
  match i with
  | 0 => { p with f0 := v }
  | 1 => { p with f1 := v }
  | 2 => { p with f2 := v }
  | 3 => { p with f3 := v }
  | 4 => { p with f4 := v }
  | 5 => { p with f5 := v }
  | 6 => { p with f6 := v }
  | 7 => { p with f7 := v }
  | 8 => { p with f8 := v }
  | _ => { p with f9 := v }
/-- All of a packet's fields are words. -/
def Pk.Wd (p : Pk) : Prop := ∀ i, i < 10 → word (getP p i) = true
theorem setP_wd {p : Pk} (h : p.Wd) (i : Nat) {v : Int} (hv : word v = true) : (setP p i v).Wd := by
  intro j hj
  have hs : getP (setP p i v) j = v ∨ getP (setP p i v) j = getP p j := by
    unfold setP
    split <;> (unfold getP; split <;> simp)
  rcases hs with e | e <;> rw [e]
  · exact hv
  · exact h j hj
theorem setP_same {p : Pk} {i : Nat} {v : Int} (hi : i < 10) (h : getP p i = v) : setP p i v = p := by
  subst h
  match i, hi with
  | 0, _ | 1, _ | 2, _ | 3, _ | 4, _ | 5, _ | 6, _ | 7, _ | 8, _ | 9, _ => rfl
  | i + 10, h => omega
def fitsB (p : Pk) (f : Fl) : Bool := f.ms.all fun m => maskd (getP p m.field.toNat) m.mask == m.value
def prioAt (l : List Fl) (i : Int) : Int := match l[i.toNat]? with
  | some f => f.prio
  | none => 0
/-- The place of the strongest that fits, of the first so many; of those the first one. -/
def bst (l : List Fl) (q : Fl → Bool) : Nat → Int
  | 0 => -1
  | k + 1 => match l[k]? with
    | some f => if (q f && (decide (bst l q k < 0) || decide (f.prio > prioAt l (bst l q k)))) = true then k else bst l q k
    | none => bst l q k
def IsB (l : List Fl) (q : Fl → Bool) (a b : Nat) (i : Int) : Prop :=
  (i = -1 ∧ ∀ j f, a ≤ j → j < b → l[j]? = some f → q f = false) ∨
  (∃ k g, i = ((k : Nat) : Int) ∧ a ≤ k ∧ k < b ∧ l[k]? = some g ∧ q g = true ∧ ∀ j f, a ≤ j → j < b → l[j]? = some f → q f = true → f.prio ≤ g.prio ∧ (j < k → f.prio < g.prio))
theorem prioAt_nat {l : List Fl} {k : Nat} {g : Fl} (h : l[k]? = some g) : prioAt l (k : Int) = g.prio := by
  unfold prioAt
  rw [Int.toNat_natCast, h]
theorem bst_is (l : List Fl) (q : Fl → Bool) : ∀ k, k ≤ l.length → IsB l q 0 k (bst l q k)
  | 0, _ => .inl ⟨rfl, fun j f _ h => by omega⟩
  | k + 1, hk => by
    have ih := bst_is l q k (by omega)
    obtain ⟨f, hf⟩ : ∃ f, l[k]? = some f := ⟨_, List.getElem?_eq_getElem (by omega)⟩
    simp only [bst, hf]
    split
    · rename_i hc
      simp only [Bool.and_eq_true, Bool.or_eq_true, decide_eq_true_eq] at hc
      refine .inr ⟨k, f, rfl, by omega, by omega, hf, hc.1, fun j g _ hj hg hq => ?_⟩
      rcases Nat.lt_or_ge j k with hlt | hge
      · rcases ih with ⟨_, h2⟩ | ⟨m, x, h1, _, hm, hx, hqx, h2⟩
        · have := h2 j g (by omega) hlt hg
          rw [hq] at this
          cases this
        · have h3 := h2 j g (by omega) hlt hg hq
          rcases hc.2 with h4 | h4
          · omega
          · rw [h1, prioAt_nat hx] at h4
            omega
      · obtain rfl : j = k := by omega
        rw [hf] at hg
        obtain rfl := Option.some.inj hg
        exact ⟨Int.le_refl _, fun h => by omega⟩
    · rename_i hc
      rcases ih with ⟨h1, h2⟩ | ⟨m, x, h1, h3, hm, hx, hqx, h2⟩
      · refine .inl ⟨h1, fun j g _ hj hg => ?_⟩
        rcases Nat.lt_or_ge j k with hlt | hge
        · exact h2 j g (by omega) hlt hg
        · obtain rfl : j = k := by omega
          rw [hf] at hg
          obtain rfl := Option.some.inj hg
          cases hq : q f with
          | false => rfl
          | true => exfalso; apply hc; simp [hq, h1]
      · refine .inr ⟨m, x, h1, h3, by omega, hx, hqx, fun j g _ hj hg hq => ?_⟩
        rcases Nat.lt_or_ge j k with hlt | hge
        · exact h2 j g (by omega) hlt hg hq
        · obtain rfl : j = k := by omega
          rw [hf] at hg
          obtain rfl := Option.some.inj hg
          refine ⟨?_, fun h => by omega⟩
          rw [hq, h1, prioAt_nat hx] at hc
          simp at hc
          omega
theorem IsB.uniq {l : List Fl} {q : Fl → Bool} {a b : Nat} {i j : Int} (h : IsB l q a b i) (h' : IsB l q a b j) : i = j := by
  rcases h with ⟨h1, h2⟩ | ⟨k, g, h1, h3, h4, h5, h6, h7⟩
  · rcases h' with ⟨h1', h2'⟩ | ⟨k', g', h1', h3', h4', h5', h6', h7'⟩
    · omega
    · have := h2 k' g' h3' h4' h5'
      rw [h6'] at this
      cases this
  · rcases h' with ⟨h1', h2'⟩ | ⟨k', g', h1', h3', h4', h5', h6', h7'⟩
    · have := h2' k g h3 h4 h5
      rw [h6] at this
      cases this
    · have e1 := h7 k' g' h3' h4' h5' h6'
      have e2 := h7' k g h3 h4 h5 h6
      have : k = k' := by omega
      omega
/-- One more from the front. -/
theorem IsB.down {l : List Fl} {q : Fl → Bool} {a b : Nat} {i : Int} {f : Fl} (h : IsB l q (a + 1) b i) (hf : l[a]? = some f) (hab : a < b) : IsB l q a b (if (q f && (decide (i < 0) || decide (f.prio ≥ prioAt l i))) = true then a else i) := by
  split
  · rename_i hc
    simp only [Bool.and_eq_true, Bool.or_eq_true, decide_eq_true_eq] at hc
    refine .inr ⟨a, f, rfl, by omega, hab, hf, hc.1, fun j g hj1 hj2 hg hq => ⟨?_, fun h => by omega⟩⟩
    rcases Nat.lt_or_ge a j with hlt | hge
    · rcases h with ⟨_, h2⟩ | ⟨k, x, h1, h3, h4, h5, h6, h7⟩
      · have := h2 j g (by omega) hj2 hg
        rw [hq] at this
        cases this
      · have h8 := h7 j g (by omega) hj2 hg hq
        rcases hc.2 with h9 | h9
        · omega
        · rw [h1, prioAt_nat h5] at h9
          omega
    · obtain rfl : j = a := by omega
      rw [hf] at hg
      obtain rfl := Option.some.inj hg
      exact Int.le_refl _
  · rename_i hc
    rcases h with ⟨h1, h2⟩ | ⟨k, x, h1, h3, h4, h5, h6, h7⟩
    · refine .inl ⟨h1, fun j g hj1 hj2 hg => ?_⟩
      rcases Nat.lt_or_ge a j with hlt | hge
      · exact h2 j g (by omega) hj2 hg
      · obtain rfl : j = a := by omega
        rw [hf] at hg
        obtain rfl := Option.some.inj hg
        cases hq : q f with
        | false => rfl
        | true => exfalso; apply hc; simp [hq, h1]
    · refine .inr ⟨k, x, h1, by omega, h4, h5, h6, fun j g hj1 hj2 hg hq => ?_⟩
      rcases Nat.lt_or_ge a j with hlt | hge
      · exact h7 j g (by omega) hj2 hg hq
      · obtain rfl : j = a := by omega
        rw [hf] at hg
        obtain rfl := Option.some.inj hg
        rw [hq, h1, prioAt_nat h5] at hc
        simp at hc
        exact ⟨by omega, fun _ => by omega⟩

/-- What is sent: how, whither, what. -/
structure Snt where
  kind : Int
  n : Int
  p : Pk
def encSnt (s : Snt) : List FV := [.int .i64 s.kind, .int .i64 s.n] ++ encPk s.p
theorem encSnt_len (s : Snt) : (encSnt s).length = 13 := rfl
structure Rs where
  p : Pk
  table : Int
  out : List Snt
def stepD (s : Rs) (d : Dx) : Rs :=
  if d.kind = 1 then { s with p := setP s.p d.a.toNat d.n }
  else if d.kind = 2 then { s with p := setP s.p d.a.toNat (getP s.p d.n.toNat) }
  else if d.kind = 3 then { s with p := setP s.p d.a.toNat (if 0 > getP s.p d.a.toNat - 1 then 0 else getP s.p d.a.toNat - 1) }
  else if d.kind = 4 then { s with table := d.n }
  else { s with out := s.out ++ [⟨d.kind, d.n, s.p⟩] }
def bestOf (l : List Fl) (t : Int) (p : Pk) : Int := bst l (fun f => f.table == t && fitsB p f) l.length
/-- One table. -/
def execT (l : List Fl) (s : Rs) : Rs := match l[(bestOf l s.table s.p).toNat]? with
  | some f => if bestOf l s.table s.p < 0 then { s with table := -1 } else f.ds.foldl stepD { s with table := -1 }
  | none => { s with table := -1 }
/-- The last n tables. -/
def runN (l : List Fl) : Nat → Rs → Rs
  | 0, s => s
  | n + 1, s => runN l n (if s.table = 7 - n then execT l s else s)
theorem runN_done (l : List Fl) : ∀ (n : Nat) (s : Rs), s.table < 0 → n ≤ 8 → runN l n s = s
  | 0, _, _, _ => rfl
  | n + 1, s, h, hn => by rw [runN, if_neg (by omega), runN_done l n s h (by omega)]
theorem runN_skip (l : List Fl) (k : Nat) : ∀ (n : Nat) (s : Rs), s.table = 7 - (k : Int) → k ≤ n → runN l (n + 1) s = runN l (k + 1) s
  | n, s, h, hk => by
    rcases Nat.lt_or_ge k n with hlt | hge
    · obtain ⟨m, rfl⟩ : ∃ m, n = m + 1 := ⟨n - 1, by omega⟩
      rw [runN, if_neg (by omega), runN_skip l k m s h (by omega)]
    · obtain rfl : n = k := by omega
      rfl
def ranOf (l : List Fl) (p : Pk) : List Snt := (runN l 8 ⟨p, 0, []⟩).out
end Go.Proofs.Ytdbbmjdeeenlhaa

/- Flows that may be: what that says of each. -/
namespace Go.Proofs.Ytdbbmjdeeenlhaa
open Go.RowKit

theorem flsFault_mem : ∀ {l : List Fl} {f : Fl}, flsFault l = 0 → f ∈ l → flFault f = 0
  | g :: l, f, h, hf => by
    unfold flsFault at h
    split at h
    · rename_i h0
      rcases List.mem_cons.1 hf with rfl | hf
      · exact h0
      · exact flsFault_mem h hf
    · rename_i h0
      exact absurd h h0
structure FlMay (f : Fl) : Prop where
  ms : f.ms.length ≤ 12
  ds : f.ds.length ≤ 100
  table : 0 ≤ f.table ∧ f.table ≤ 7
  mok : f.ms.all mxOk = true
  dok : dxOk f.table f.ds = true
theorem flMay {f : Fl} (h : flFault f = 0) : FlMay f := by
  unfold flFault at h
  split at h
  · omega
  · split at h
    · omega
    · split at h
      · omega
      · split at h
        · omega
        · rename_i h1 h2 h3 h4
          have h5 : inR f.table 0 7 = true := by
            cases e : inR f.table 0 7 with
            | true => rfl
            | false => exact absurd (Or.inl e) h2
          exact ⟨by omega, by omega, inR_iff.1 h5, by simpa using h3, by simpa using h4⟩
theorem flowsMay {l : List Fl} (h : flowsFault l = 0) : l.length ≤ 5000 ∧ ∀ f ∈ l, FlMay f := by
  unfold flowsFault at h
  split at h
  · omega
  · exact ⟨by omega, fun f hf => flMay (flsFault_mem h hf)⟩
theorem dxOk_mem {t : Int} : ∀ {l : List Dx} {d : Dx}, dxOk t l = true → d ∈ l → ∃ b, dxMay d t b = true
  | e :: l, d, h, hd => by
    simp only [dxOk, Bool.and_eq_true] at h
    rcases List.mem_cons.1 hd with rfl | hd
    · exact ⟨_, h.1⟩
    · exact dxOk_mem h.2 hd
/-- What a thing to be done needs. -/
theorem dxMay_use {d : Dx} {t : Int} {b : Bool} (h : dxMay d t b = true) : (d.kind = 1 → (0 ≤ d.a ∧ d.a ≤ 9) ∧ word d.n = true) ∧ (d.kind = 2 → (0 ≤ d.a ∧ d.a ≤ 9) ∧ (0 ≤ d.n ∧ d.n ≤ 9)) ∧ (d.kind = 3 → 0 ≤ d.a ∧ d.a ≤ 9) ∧ (d.kind = 4 → t < d.n ∧ d.n ≤ 7) ∧ (d.kind = 1 ∨ d.kind = 2 ∨ d.kind = 3 ∨ d.kind = 4 ∨ d.kind = 5 ∨ d.kind = 6) := by
  unfold dxMay at h
  repeat' split at h
  all_goals try simp only [Bool.and_eq_true, inR_iff, decide_eq_true_eq] at h
  all_goals first
    | (refine ⟨fun e => ?_, fun e => ?_, fun e => ?_, fun e => ?_, ?_⟩ <;> first | omega | (exfalso; omega) | exact ⟨h.1, h.2⟩ | exact h.1)
    | cases h
end Go.Proofs.Ytdbbmjdeeenlhaa

/- Flows in their places, each once: the order, sorted lists, differences. Plain. -/
namespace Go.Proofs.Ytdbbmjdeeenlhaa
open Go.RowKit

def mx3 (m : Mx) : List Int := [m.field, m.mask, m.value]
def dx3 (d : Dx) : List Int := [d.kind, d.a, d.n]
def numsOf (f : Fl) : List Int := [(f.ms.length : Int), (f.ds.length : Int)] ++ f.ms.flatMap mx3 ++ f.ds.flatMap dx3
def cmpI (a b : Int) : Int := if a < b then -1 else if b < a then 1 else 0
def cmpL : List Int → List Int → Int
  | [], [] => 0
  | [], _ :: _ => -1
  | _ :: _, [] => 1
  | a :: l, b :: m => if cmpI a b ≠ 0 then cmpI a b else cmpL l m
def keyOf (f : Fl) : List Int := f.table :: (-f.prio) :: numsOf f
/-- P2.3: of two flows, which one stands ahead. -/
def ordF (x y : Fl) : Int := cmpL (keyOf x) (keyOf y)
theorem cmpI_neg (a b : Int) : cmpI b a = -cmpI a b := by unfold cmpI; repeat' split; all_goals omega
theorem cmpI_eq {a b : Int} : cmpI a b = 0 ↔ a = b := by unfold cmpI; repeat' split; all_goals omega
theorem cmpI_swap (a b : Int) : cmpI (-a) (-b) = cmpI b a := by unfold cmpI; repeat' split; all_goals omega
theorem cmpI_bd (a b : Int) : -1 ≤ cmpI a b ∧ cmpI a b ≤ 1 := by unfold cmpI; repeat' split; all_goals omega
theorem cmpL_bd : ∀ (l m : List Int), -1 ≤ cmpL l m ∧ cmpL l m ≤ 1
  | [], [] => by simp [cmpL]
  | [], _ :: _ => by simp [cmpL]
  | _ :: _, [] => by simp [cmpL]
  | a :: l, b :: m => by
    have h1 := cmpL_bd l m
    have h2 := cmpI_bd a b
    unfold cmpL
    split <;> assumption
theorem cmpL_refl : ∀ l : List Int, cmpL l l = 0
  | [] => rfl
  | a :: l => by
    have h : cmpI a a = 0 := cmpI_eq.2 rfl
    rw [cmpL, if_neg (by omega), cmpL_refl l]
theorem cmpL_eq : ∀ {l m : List Int}, cmpL l m = 0 → l = m
  | [], [], _ => rfl
  | [], _ :: _, h => by simp [cmpL] at h
  | _ :: _, [], h => by simp [cmpL] at h
  | a :: l, b :: m, h => by
    unfold cmpL at h
    split at h
    · omega
    · rename_i h2
      have e : cmpI a b = 0 := by omega
      rw [cmpI_eq.1 e, cmpL_eq h]
theorem cmpL_neg : ∀ (l m : List Int), cmpL m l = -cmpL l m
  | [], [] => rfl
  | [], _ :: _ => rfl
  | _ :: _, [] => rfl
  | a :: l, b :: m => by
    have h := cmpI_neg a b
    unfold cmpL
    by_cases h0 : cmpI a b = 0
    · rw [if_neg (by omega), if_neg (by omega), cmpL_neg l m]
    · rw [if_pos (by omega), if_pos (by omega), h]
theorem cmpI_lt {a b : Int} : cmpI a b < 0 ↔ a < b := by
  unfold cmpI
  by_cases h : a < b
  · rw [if_pos h]; omega
  · rw [if_neg h]
    split <;> omega
theorem cmpI_trans {a b c : Int} (h1 : cmpI a b < 0) (h2 : cmpI b c < 0) : cmpI a c < 0 := by
  rw [cmpI_lt] at *
  omega
theorem cmpL_trans : ∀ {l m n : List Int}, cmpL l m < 0 → cmpL m n < 0 → cmpL l n < 0
  | [], [], _, h, _ => by simp [cmpL] at h
  | _ :: _, [], _, h, _ => by simp [cmpL] at h
  | _, _ :: _, [], _, h => by simp [cmpL] at h
  | [], _ :: _, _ :: _, _, _ => by simp [cmpL]
  | a :: l, b :: m, c :: n, h1, h2 => by
    unfold cmpL at h1 h2 ⊢
    by_cases e1 : cmpI a b = 0
    · obtain rfl := cmpI_eq.1 e1
      rw [if_neg (by omega)] at h1
      by_cases e2 : cmpI a c = 0
      · rw [if_neg (by omega)] at h2 ⊢
        exact cmpL_trans h1 h2
      · rw [if_pos e2] at h2 ⊢
        exact h2
    · rw [if_pos e1] at h1
      by_cases e2 : cmpI b c = 0
      · obtain rfl := cmpI_eq.1 e2
        rw [if_pos e1]
        exact h1
      · rw [if_pos e2] at h2
        have := cmpI_trans h1 h2
        rw [if_pos (by omega)]
        exact this
theorem flat_inj {α : Type} {f : α → List Int} {s : Nat} (hl : ∀ x, (f x).length = s) (hi : ∀ x y, f x = f y → x = y) : ∀ {l m : List α}, l.length = m.length → l.flatMap f = m.flatMap f → l = m
  | [], [], _, _ => rfl
  | [], _ :: _, h, _ => by simp at h
  | _ :: _, [], h, _ => by simp at h
  | x :: l, y :: m, h, e => by
    rw [List.flatMap_cons, List.flatMap_cons] at e
    obtain ⟨e1, e2⟩ := List.append_inj e (by rw [hl, hl])
    rw [hi x y e1, flat_inj hl hi (by simpa using h) e2]
theorem flat_len {α : Type} {f : α → List Int} {s : Nat} (hl : ∀ x, (f x).length = s) : ∀ l : List α, (l.flatMap f).length = s * l.length
  | [] => by simp
  | x :: l => by rw [List.flatMap_cons, List.length_append, hl, flat_len hl l, List.length_cons, Nat.mul_add]; omega
theorem keyOf_inj {x y : Fl} (h : keyOf x = keyOf y) : x = y := by
  obtain ⟨t, p, ms, ds⟩ := x
  obtain ⟨t', p', ms', ds'⟩ := y
  unfold keyOf numsOf at h
  simp only [List.cons_append, List.nil_append, List.cons.injEq] at h
  obtain ⟨rfl, hp, hm, hd, h⟩ := h
  have hm : ms.length = ms'.length := by omega
  have hd : ds.length = ds'.length := by omega
  obtain ⟨e1, e2⟩ := List.append_inj h (by rw [flat_len (s := 3) (fun _ => rfl), flat_len (s := 3) (fun _ => rfl), hm])
  have e3 := flat_inj (s := 3) (fun _ => rfl) (fun a b e => by cases a; cases b; simp [mx3] at e; simp [e]) hm e1
  have e4 := flat_inj (s := 3) (fun _ => rfl) (fun a b e => by cases a; cases b; simp [dx3] at e; simp [e]) hd e2
  rw [e3, e4, show p = p' by omega]
theorem ordF_refl (x : Fl) : ordF x x = 0 := cmpL_refl _
theorem ordF_eq {x y : Fl} : ordF x y = 0 ↔ x = y := ⟨fun h => keyOf_inj (cmpL_eq h), fun h => h ▸ ordF_refl x⟩
theorem ordF_neg (x y : Fl) : ordF y x = -ordF x y := cmpL_neg _ _
theorem ordF_trans {x y z : Fl} (h1 : ordF x y < 0) (h2 : ordF y z < 0) : ordF x z < 0 := cmpL_trans h1 h2
theorem ordF_le {x y z : Fl} (h1 : ordF x y ≤ 0) (h2 : ordF y z ≤ 0) : ordF x z ≤ 0 := by
  rcases Int.lt_or_eq_of_le h1 with h1 | h1
  · rcases Int.lt_or_eq_of_le h2 with h2 | h2
    · exact Int.le_of_lt (ordF_trans h1 h2)
    · rw [← ordF_eq.1 h2]; omega
  · rw [ordF_eq.1 h1]; exact h2
/-- A sorted list is the only one of its members. -/
theorem sorted_uniq : ∀ {l m : List Fl}, l.Perm m → l.Pairwise (fun x y => ordF x y ≤ 0) → m.Pairwise (fun x y => ordF x y ≤ 0) → l = m
  | [], m, h, _, _ => (List.Perm.nil_eq h)
  | x :: l, [], h, _, _ => by simpa using h.symm.nil_eq
  | x :: l, y :: m, h, h1, h2 => by
    obtain ⟨h3, h4⟩ := List.pairwise_cons.1 h1
    obtain ⟨h5, h6⟩ := List.pairwise_cons.1 h2
    have e : x = y := by
      rcases List.mem_cons.1 (h.mem_iff.1 (List.mem_cons_self)) with e | hx
      · exact e
      · rcases List.mem_cons.1 (h.mem_iff.2 (List.mem_cons_self)) with e | hy
        · exact e.symm
        · have a1 := h5 x hx
          have a2 := h3 y hy
          have a3 := ordF_neg x y
          exact ordF_eq.1 (by omega)
    subst e
    rw [sorted_uniq (List.Perm.cons_inv h) h4 h6]
def StrictF (l : List Fl) : Prop := l.Pairwise fun x y => ordF x y < 0
theorem strict_uniq : ∀ {l m : List Fl}, (∀ x, x ∈ l ↔ x ∈ m) → StrictF l → StrictF m → l = m
  | [], [], _, _, _ => rfl
  | [], y :: m, h, _, _ => by have := (h y).2 (by simp); simp at this
  | x :: l, [], h, _, _ => by have := (h x).1 (by simp); simp at this
  | x :: l, y :: m, h, h1, h2 => by
    obtain ⟨h3, h4⟩ := List.pairwise_cons.1 h1
    obtain ⟨h5, h6⟩ := List.pairwise_cons.1 h2
    have e : x = y := by
      rcases List.mem_cons.1 ((h x).1 (by simp)) with e | hx
      · exact e
      · rcases List.mem_cons.1 ((h y).2 (by simp)) with e | hy
        · exact e.symm
        · have a1 := h5 x hx
          have a2 := h3 y hy
          have a3 := ordF_neg x y
          omega
    subst e
    rw [strict_uniq (l := l) (m := m) (fun z => ?_) h4 h6]
    constructor
    · intro hz
      rcases List.mem_cons.1 ((h z).1 (by simp [hz])) with rfl | h7
      · have := h3 z hz
        rw [ordF_refl] at this
        omega
      · exact h7
    · intro hz
      rcases List.mem_cons.1 ((h z).2 (by simp [hz])) with rfl | h7
      · have := h5 z hz
        rw [ordF_refl] at this
        omega
      · exact h7
/-- Sorted, equal ones beside each other. -/
def sortF (l : List Fl) : List Fl := l.mergeSort (fun x y => decide (ordF x y ≤ 0))
theorem sortF_perm (l : List Fl) : (sortF l).Perm l := List.mergeSort_perm _ _
theorem sortF_sorted (l : List Fl) : (sortF l).Pairwise fun x y => ordF x y ≤ 0 := by
  have := List.pairwise_mergeSort (le := fun x y : Fl => decide (ordF x y ≤ 0)) (fun x y z h1 h2 => by
    simp only [decide_eq_true_eq] at *
    exact ordF_le h1 h2) (fun x y => by
    have := ordF_neg x y
    simp only [Bool.or_eq_true, decide_eq_true_eq]
    omega) l
  exact this.imp (fun h => by simpa using h)
/-- Of equal ones beside each other the first one stays. -/
def compA : Fl → List Fl → List Fl
  | _, [] => []
  | p, x :: l => if ordF x p = 0 then compA x l else x :: compA x l
def compF : List Fl → List Fl
  | [] => []
  | x :: l => x :: compA x l
theorem compA_mem : ∀ {l : List Fl} {p x : Fl}, x ∈ p :: compA p l ↔ x ∈ p :: l
  | [], p, x => by simp [compA]
  | y :: l, p, x => by
    have ih := compA_mem (l := l) (p := y) (x := x)
    unfold compA
    split
    · rename_i h
      obtain rfl := ordF_eq.1 h
      rw [ih]
      simp
    · simp only [List.mem_cons] at ih ⊢
      rw [ih]
theorem compA_strict : ∀ {l : List Fl} {p : Fl}, (p :: l).Pairwise (fun x y => ordF x y ≤ 0) → StrictF (p :: compA p l)
  | [], p, _ => List.pairwise_singleton _ _
  | y :: l, p, h => by
    obtain ⟨h1, h2⟩ := List.pairwise_cons.1 h
    have ih := compA_strict h2
    unfold compA
    split
    · rename_i e
      obtain rfl := ordF_eq.1 e
      exact ih
    · rename_i e
      refine List.pairwise_cons.2 ⟨fun z hz => ?_, ih⟩
      have a1 := h1 y (by simp)
      have a2 := ordF_neg p y
      have a3 : ordF p y < 0 := by omega
      rcases List.mem_cons.1 hz with rfl | hz
      · exact a3
      · exact ordF_trans a3 ((List.pairwise_cons.1 ih).1 z hz)
theorem compF_mem {l : List Fl} {x : Fl} : x ∈ compF l ↔ x ∈ l := by
  cases l with
  | nil => rfl
  | cons y l => exact compA_mem
theorem compF_strict {l : List Fl} (h : l.Pairwise (fun x y => ordF x y ≤ 0)) : StrictF (compF l) := by
  cases l with
  | nil => exact .nil
  | cons y l => exact compA_strict h
/-- P2.3: in their places, each once. -/
def sortedF (l : List Fl) : List Fl := compF (sortF l)
theorem sortedF_mem {l : List Fl} {x : Fl} : x ∈ sortedF l ↔ x ∈ l := by rw [sortedF, compF_mem, (sortF_perm l).mem_iff]
theorem sortedF_strict (l : List Fl) : StrictF (sortedF l) := compF_strict (sortF_sorted l)
theorem sortedF_is {l m : List Fl} (h : ∀ x, x ∈ m ↔ x ∈ l) (hs : StrictF m) : m = sortedF l := strict_uniq (fun x => (h x).trans sortedF_mem.symm) hs (sortedF_strict l)
theorem sortedF_id {l : List Fl} (h : StrictF l) : sortedF l = l := (sortedF_is (fun _ => Iff.rfl) h).symm
/-- The document's way: one after the other, in its place. -/
def insS (x : Fl) : Bool → List Fl → List Fl
  | true, [] => []
  | false, [] => [x]
  | d, y :: l => if ordF x y < 0 ∧ (d || ordF x y == 0) = false then x :: y :: insS x true l else y :: insS x (d || ordF x y == 0) l
theorem insS_true (x : Fl) : ∀ l, insS x true l = l
  | [] => rfl
  | y :: l => by rw [insS, if_neg (by simp), Bool.true_or, insS_true x l]
theorem insS_spec (x : Fl) : ∀ {l : List Fl}, StrictF l → StrictF (insS x false l) ∧ ∀ z, z ∈ insS x false l ↔ z = x ∨ z ∈ l
  | [], _ => ⟨List.pairwise_singleton _ _, by simp [insS]⟩
  | y :: l, h => by
    obtain ⟨h1, h2⟩ := List.pairwise_cons.1 h
    unfold insS
    split
    · rename_i hc
      rw [insS_true]
      refine ⟨List.pairwise_cons.2 ⟨fun z hz => ?_, h⟩, by simp⟩
      rcases List.mem_cons.1 hz with rfl | hz
      · exact hc.1
      · exact ordF_trans hc.1 (h1 z hz)
    · rename_i hc
      by_cases e : ordF x y = 0
      · obtain rfl := ordF_eq.1 e
        rw [show (false || ordF x x == 0) = true by simp [ordF_refl], insS_true]
        exact ⟨h, by simp⟩
      · have e2 : (false || ordF x y == 0) = false := by simp [e]
        rw [e2] at hc ⊢
        obtain ⟨g1, g2⟩ := insS_spec x h2
        have hlt : ordF y x < 0 := by
          have := ordF_neg x y
          have : ¬ ordF x y < 0 := fun h => hc ⟨h, rfl⟩
          omega
        refine ⟨List.pairwise_cons.2 ⟨fun z hz => ?_, g1⟩, fun z => ?_⟩
        · rcases (g2 z).1 hz with rfl | hz
          · exact hlt
          · exact h1 z hz
        · rw [List.mem_cons, g2]
          simp only [List.mem_cons]
          exact ⟨fun h => by rcases h with h | h | h <;> simp [h], fun h => by rcases h with h | h | h <;> simp [h]⟩
def sortedR (l : List Fl) : List Fl := l.foldl (fun out x => insS x false out) []
theorem sortedR_spec (l : List Fl) : ∀ out, StrictF out → StrictF (l.foldl (fun out x => insS x false out) out) ∧ ∀ z, z ∈ l.foldl (fun out x => insS x false out) out ↔ z ∈ out ∨ z ∈ l := by
  induction l with
  | nil => exact fun out h => ⟨h, by simp⟩
  | cons x l ih =>
    intro out h
    obtain ⟨g1, g2⟩ := insS_spec x h
    obtain ⟨g3, g4⟩ := ih _ g1
    refine ⟨g3, fun z => ?_⟩
    rw [List.foldl_cons, g4, g2]
    simp only [List.mem_cons]
    exact ⟨fun h => by rcases h with (h | h) | h <;> simp [h], fun h => by rcases h with h | h | h <;> simp [h]⟩
theorem sortedR_eq (l : List Fl) : sortedR l = sortedF l := by
  obtain ⟨h1, h2⟩ := sortedR_spec l [] .nil
  exact sortedF_is (fun x => by rw [sortedR, h2]; simp) h1
def hasF (b : List Fl) (x : Fl) : Bool := b.any fun g => ordF x g == 0
theorem hasF_iff {b : List Fl} {x : Fl} : hasF b x = true ↔ x ∈ b := by
  simp only [hasF, List.any_eq_true, beq_iff_eq]
  exact ⟨fun ⟨g, hg, e⟩ => ordF_eq.1 e ▸ hg, fun h => ⟨x, h, ordF_refl x⟩⟩
theorem StrictF.filter {l : List Fl} (h : StrictF l) (p : Fl → Bool) : StrictF (l.filter p) := h.sublist (List.filter_sublist)
/-- P2.4: those of some flows that others are not. -/
def leftF (a b : List Fl) : List Fl := (sortedF a).filter fun x => !hasF b x
theorem leftF_mem {a b : List Fl} {x : Fl} : x ∈ leftF a b ↔ x ∈ a ∧ x ∉ b := by
  rw [leftF, List.mem_filter, sortedF_mem]
  have := @hasF_iff b x
  cases h : hasF b x <;> simp [h] at this ⊢ <;> simp [this]
theorem leftF_strict (a b : List Fl) : StrictF (leftF a b) := (sortedF_strict a).filter _
theorem leftF_ref (a b : List Fl) : sortedF (a.filter fun x => !hasF b x) = leftF a b := by
  refine (sortedF_is (fun x => ?_) (leftF_strict a b)).symm
  rw [leftF_mem, List.mem_filter]
  have := @hasF_iff b x
  cases h : hasF b x <;> simp [h] at this ⊢ <;> simp [this]
def patchF (l come gone : List Fl) : List Fl := sortedF (leftF l gone ++ come)
theorem patch_lead {a b : List Fl} (_ha : StrictF a) (hb : StrictF b) : patchF a (leftF b a) (leftF a b) = b := by
  refine (sortedF_is (fun x => ?_) hb).symm
  rw [List.mem_append, leftF_mem, leftF_mem, leftF_mem]
  by_cases h1 : x ∈ a <;> by_cases h2 : x ∈ b <;> simp [h1, h2]
theorem left_none (b : List Fl) : leftF b b = [] := by
  apply List.eq_nil_iff_forall_not_mem.2
  intro x hx
  obtain ⟨h1, h2⟩ := leftF_mem.1 hx
  exact h2 h1
theorem filter_len {α : Type} (p : α → Bool) : ∀ l : List α, (l.filter p).length + (l.filter fun x => !p x).length = l.length
  | [] => rfl
  | x :: l => by
    have := filter_len p l
    cases h : p x <;> simp [h] <;> omega
theorem left_len {a b : List Fl} (ha : StrictF a) (hb : StrictF b) : a.length + (leftF b a).length = b.length + (leftF a b).length := by
  have h1 := filter_len (hasF b) a
  have h2 := filter_len (hasF a) b
  have e1 : leftF a b = a.filter fun x => !hasF b x := by rw [leftF, sortedF_id ha]
  have e2 : leftF b a = b.filter fun x => !hasF a x := by rw [leftF, sortedF_id hb]
  have e3 : a.filter (hasF b) = b.filter (hasF a) := strict_uniq (fun x => by
    rw [List.mem_filter, List.mem_filter, hasF_iff, hasF_iff]
    exact And.comm) (ha.filter _) (hb.filter _)
  rw [e1, e2]
  rw [e3] at h1
  omega
end Go.Proofs.Ytdbbmjdeeenlhaa

/- Arguments of a law, as data by value; a law's answer, in the form's own words. -/
namespace Go.Proofs.Ytdbbmjdeeenlhaa
open Go.ChangeShapes Go.WideShapes Go.ChangeAt Go.RowKit Go.Deep

/-- Cells hold data, in memory that is there. -/
def RepF (w : World) (fs : List FV) (us : List Value) : Prop := ∀ σ, AV.RepL σ (fun b => b < w.heap.size) w (fs.map .fv) us
theorem RepF.append {w : World} {fs gs : List FV} {us vs : List Value} (h : RepF w fs us) (h' : RepF w gs vs) : RepF w (fs ++ gs) (us ++ vs) := fun σ => by
  rw [List.map_append]
  exact (h σ).append (h' σ)
theorem RepF.length {w : World} {fs : List FV} {us : List Value} (h : RepF w fs us) : us.length = fs.length := by simpa using (h (fun _ => undef)).length
theorem decode_repF {α : Type} {enc : α → List FV} {Ok : α → Prop} {w : World} {Q : List Value → Prop} (hd : ∀ cs, Q cs → ∃ x, Ok x ∧ RepF w (enc x) cs) : ∀ css : List (List Value), (∀ cs ∈ css, Q cs) → ∃ l : List α, l.length = css.length ∧ (∀ x ∈ l, Ok x) ∧ RepF w (l.flatMap enc) css.flatten
  | [], _ => ⟨[], rfl, by simp, fun _ => trivial⟩
  | cs :: css, h => by
    obtain ⟨x, hx, hr⟩ := hd cs (h _ (by simp))
    obtain ⟨l, hl, ho, hr'⟩ := decode_repF hd css (fun c hc => h c (by simp [hc]))
    exact ⟨x :: l, by simp [hl], by simpa using ⟨hx, ho⟩, by rw [List.flatMap_cons, List.flatten_cons]; exact hr.append hr'⟩
theorem rep_of_rd {w : World} {A : Option Addr} {n c : Nat} {us : List Value} {fs : List FV} (h : Rd w (fun b => b < w.heap.size) A us) (hr : RepF w fs us) (h1 : n ≤ c) (h2 : c ≤ maxLen) : (FV.sl fs n).Rep (fun b => b < w.heap.size) w (.slice A n c) := by
  refine ⟨A, c, rfl, h1, h2, ?_⟩
  by_cases hn : fs = []
  · exact .inl hn
  · obtain ⟨b, off, e, hb, hc⟩ := h (fun e => hn (List.eq_nil_of_length_eq_zero (by rw [← hr.length, e]; rfl)))
    exact .inr ⟨b, off, e, hb, FV.RepAt.ofL (hr (fun _ => undef)) hc⟩

section
variable {H : Type} {enc : TypeId × Value → H} {w : World} {base : Nat} {spare : Nat → Bool} {held : Bool}
/-- A slice that came in, its elements decoded. -/
theorem open_sl {α : Type} {ef : α → List FV} {Ok : α → Prop} {P : Program} {t e : TypeId} {n k by_ : Nat} {ls : List Leaf} {v : Value} (hu : P.underlying t = some (.slice e)) (hl : leaves P n e = some ls) (hc : P.cellsOf e = k) (hk : ls.length = k) (hp : 0 < k)
    (hby : P.bytesOf e = by_) (hd : ∀ cs, AllOk enc P w base spare held (SizedCl P) ls cs → ∃ x, Ok x ∧ RepF w (ef x) cs) (h : LeafOk enc P w base spare held (SizedCl P) (.slice t) v) :
    ∃ l : List α, (∀ x ∈ l, Ok x) ∧ l.length * by_ ≤ reachBytes ∧ (slOf ef l).Rep (fun b => b < w.heap.size) w v := by
  obtain ⟨m, y, hm, hC⟩ := h
  obtain ⟨css, A, c, rfl, h1, h2, h3, h4, h5⟩ := open_slice_plain closed_sized hu hl (hc.trans hk.symm) (by omega) hm hC
  obtain ⟨l, hlen, hok, hr⟩ := decode_repF hd css h3
  refine ⟨l, hok, ?_, by rw [← hlen]; exact rep_of_rd h4 hr (by omega) h2⟩
  rcases h5 with h5 | ⟨el, sp, hE, hel⟩
  · rw [h5] at hlen
    rw [hlen]
    simp
  · have := hE ((el.length + sp.length) * P.bytesOf e) (by simp [DataW.weights, hu])
    rw [hby] at this
    rw [hlen, ← hel]
    exact Nat.le_trans (Nat.mul_le_mul_right _ (by omega)) this
/-- An argument that is a slice. -/
theorem open_sl_arg {α : Type} {ef : α → List FV} {Ok : α → Prop} {P : Program} {t e : TypeId} {n k by_ : Nat} {ls : List Leaf} {v : Value} {d : DataW H} {p : List MemPlace} (hu : P.underlying t = some (.slice e)) (hl : leaves P n e = some ls) (hc : P.cellsOf e = k) (hk : ls.length = k) (hp : 0 < k)
    (hby : P.bytesOf e = by_) (hd : ∀ cs, AllOk enc P w base spare held (SizedCl P) ls cs → ∃ x, Ok x ∧ RepF w (ef x) cs) {r : Reach} {b0 : Nat} (hv : Value.okWide P w r b0 t v) (h : DataW.Trod enc P w base spare held t v d p) (hs : SizedCl P t d) :
    ∃ l : List α, (∀ x ∈ l, Ok x) ∧ l.length * by_ ≤ reachBytes ∧ (slOf ef l).Rep (fun b => b < w.heap.size) w v := by
  obtain ⟨A, len, cap, rfl⟩ := okWide_slice hu hv
  obtain ⟨m, hm⟩ := h
  exact open_sl hu hl hc hk hp hby hd ⟨m, (d, p), hm, hs⟩

theorem repF_int {k : IntKind} {n : Int} : RepF w [.int k n] [.int k n] := fun _ => ⟨rfl, trivial⟩
theorem repF_bool {b : Bool} : RepF w [.bool b] [.bool b] := fun _ => ⟨rfl, trivial⟩
theorem repF_str {s : ByteArray} (h : s.size ≤ maxLen) : RepF w [.str s] [.string s] := fun _ => ⟨⟨rfl, h⟩, trivial⟩
theorem repF_cons {f : FV} {v : Value} {fs : List FV} {us : List Value} (h : f.Rep (fun b => b < w.heap.size) w v) (h' : RepF w fs us) : RepF w (f :: fs) (v :: us) := fun σ => ⟨h, h' σ⟩
theorem repF_nil : RepF w [] [] := fun _ => trivial
end

/-- A law that answers true and leaves what was there. -/
theorem Fun.yes {P : Program} {f : FuncId} {args : List AV} {vs : List Value} {w : World} (h : Fun P f args (.fv (.bool true))) (hr : AV.RepL (fun _ => undef) (fun b => b < w.heap.size) w args vs) :
    Calls P f vs.toArray w fun e w' => e = .returned (.bool true) ∧ Below w.heap.size w w' := by
  refine (h.2 (fun _ => undef) (fun b => b < w.heap.size) w vs (inv_none fun _ h => h) hr).mono ?_
  rintro e w' ⟨v, r, own', σ', Z', rfl, ⟨rfl, rfl⟩, hI, hv⟩
  have hv : v = .bool true := hv
  subst hv
  refine ⟨rfl, hI.os, hI.tape, hI.output, hI.size, fun b hb => hI.frame b hb ?_⟩
  rintro ⟨g, ob, h1, _⟩
  simp [lk] at h1
end Go.Proofs.Ytdbbmjdeeenlhaa
