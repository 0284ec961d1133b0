/- Flows: what a packet comes to. -/
import Derived.Test.YtdbbmjdeeenlhaaD1
namespace Go.Proofs.Ytdbbmjdeeenlhaa
open Go.RowKit

def getP (p : Pk) : Nat → Int
  | 0 => p.f0
  | 1 => p.f1
  | 2 => p.f2
  | 3 => p.f3
  | 4 => p.f4
  | 5 => p.f5
  | 6 => p.f6
  | 7 => p.f7
  | 8 => p.f8
  | _ => p.f9
def setP (p : Pk) (i : Nat) (v : Int) : Pk :=
  match i with
  | 0 => { p with f0 := v }
  | 1 => { p with f1 := v }
  | 2 => { p with f2 := v }
  | 3 => { p with f3 := v }
  | 4 => { p with f4 := v }
  | 5 => { p with f5 := v }
  | 6 => { p with f6 := v }
  | 7 => { p with f7 := v }
  | 8 => { p with f8 := v }
  | _ => { p with f9 := v }
/-- All of a packet's fields are words. -/
def Pk.Wd (p : Pk) : Prop := ∀ i, i < 10 → word (getP p i) = true
theorem setP_wd {p : Pk} (h : p.Wd) (i : Nat) {v : Int} (hv : word v = true) : (setP p i v).Wd := by
  intro j hj
  have hs : getP (setP p i v) j = v ∨ getP (setP p i v) j = getP p j := by
    unfold setP
    split <;> (unfold getP; split <;> simp)
  rcases hs with e | e <;> rw [e]
  · exact hv
  · exact h j hj
theorem setP_same {p : Pk} {i : Nat} {v : Int} (hi : i < 10) (h : getP p i = v) : setP p i v = p := by
  subst h
  match i, hi with
  | 0, _ | 1, _ | 2, _ | 3, _ | 4, _ | 5, _ | 6, _ | 7, _ | 8, _ | 9, _ => rfl
  | i + 10, h => omega
def fitsB (p : Pk) (f : Fl) : Bool := f.ms.all fun m => maskd (getP p m.field.toNat) m.mask == m.value
def prioAt (l : List Fl) (i : Int) : Int := match l[i.toNat]? with
  | some f => f.prio
  | none => 0
/-- The place of the strongest that fits, of the first so many; of those the first one. -/
def bst (l : List Fl) (q : Fl → Bool) : Nat → Int
  | 0 => -1
  | k + 1 => match l[k]? with
    | some f => if (q f && (decide (bst l q k < 0) || decide (f.prio > prioAt l (bst l q k)))) = true then k else bst l q k
    | none => bst l q k
def IsB (l : List Fl) (q : Fl → Bool) (a b : Nat) (i : Int) : Prop :=
  (i = -1 ∧ ∀ j f, a ≤ j → j < b → l[j]? = some f → q f = false) ∨
  (∃ k g, i = ((k : Nat) : Int) ∧ a ≤ k ∧ k < b ∧ l[k]? = some g ∧ q g = true ∧ ∀ j f, a ≤ j → j < b → l[j]? = some f → q f = true → f.prio ≤ g.prio ∧ (j < k → f.prio < g.prio))
theorem prioAt_nat {l : List Fl} {k : Nat} {g : Fl} (h : l[k]? = some g) : prioAt l (k : Int) = g.prio := by
  unfold prioAt
  rw [Int.toNat_natCast, h]
theorem bst_is (l : List Fl) (q : Fl → Bool) : ∀ k, k ≤ l.length → IsB l q 0 k (bst l q k)
  | 0, _ => .inl ⟨rfl, fun j f _ h => by omega⟩
  | k + 1, hk => by
    have ih := bst_is l q k (by omega)
    obtain ⟨f, hf⟩ : ∃ f, l[k]? = some f := ⟨_, List.getElem?_eq_getElem (by omega)⟩
    simp only [bst, hf]
    split
    · rename_i hc
      simp only [Bool.and_eq_true, Bool.or_eq_true, decide_eq_true_eq] at hc
      refine .inr ⟨k, f, rfl, by omega, by omega, hf, hc.1, fun j g _ hj hg hq => ?_⟩
      rcases Nat.lt_or_ge j k with hlt | hge
      · rcases ih with ⟨_, h2⟩ | ⟨m, x, h1, _, hm, hx, hqx, h2⟩
        · have := h2 j g (by omega) hlt hg
          rw [hq] at this
          cases this
        · have h3 := h2 j g (by omega) hlt hg hq
          rcases hc.2 with h4 | h4
          · omega
          · rw [h1, prioAt_nat hx] at h4
            omega
      · obtain rfl : j = k := by omega
        rw [hf] at hg
        obtain rfl := Option.some.inj hg
        exact ⟨Int.le_refl _, fun h => by omega⟩
    · rename_i hc
      rcases ih with ⟨h1, h2⟩ | ⟨m, x, h1, h3, hm, hx, hqx, h2⟩
      · refine .inl ⟨h1, fun j g _ hj hg => ?_⟩
        rcases Nat.lt_or_ge j k with hlt | hge
        · exact h2 j g (by omega) hlt hg
        · obtain rfl : j = k := by omega
          rw [hf] at hg
          obtain rfl := Option.some.inj hg
          cases hq : q f with
          | false => rfl
          | true => exfalso; apply hc; simp [hq, h1]
      · refine .inr ⟨m, x, h1, h3, by omega, hx, hqx, fun j g _ hj hg hq => ?_⟩
        rcases Nat.lt_or_ge j k with hlt | hge
        · exact h2 j g (by omega) hlt hg hq
        · obtain rfl : j = k := by omega
          rw [hf] at hg
          obtain rfl := Option.some.inj hg
          refine ⟨?_, fun h => by omega⟩
          rw [hq, h1, prioAt_nat hx] at hc
          simp at hc
          omega
theorem IsB.uniq {l : List Fl} {q : Fl → Bool} {a b : Nat} {i j : Int} (h : IsB l q a b i) (h' : IsB l q a b j) : i = j := by
  rcases h with ⟨h1, h2⟩ | ⟨k, g, h1, h3, h4, h5, h6, h7⟩
  · rcases h' with ⟨h1', h2'⟩ | ⟨k', g', h1', h3', h4', h5', h6', h7'⟩
    · omega
    · have := h2 k' g' h3' h4' h5'
      rw [h6'] at this
      cases this
  · rcases h' with ⟨h1', h2'⟩ | ⟨k', g', h1', h3', h4', h5', h6', h7'⟩
    · have := h2' k g h3 h4 h5
      rw [h6] at this
      cases this
    · have e1 := h7 k' g' h3' h4' h5' h6'
      have e2 := h7' k g h3 h4 h5 h6
      have : k = k' := by omega
      omega
/-- One more from the front. -/
theorem IsB.down {l : List Fl} {q : Fl → Bool} {a b : Nat} {i : Int} {f : Fl} (h : IsB l q (a + 1) b i) (hf : l[a]? = some f) (hab : a < b) : IsB l q a b (if (q f && (decide (i < 0) || decide (f.prio ≥ prioAt l i))) = true then a else i) := by
  split
  · rename_i hc
    simp only [Bool.and_eq_true, Bool.or_eq_true, decide_eq_true_eq] at hc
    refine .inr ⟨a, f, rfl, by omega, hab, hf, hc.1, fun j g hj1 hj2 hg hq => ⟨?_, fun h => by omega⟩⟩
    rcases Nat.lt_or_ge a j with hlt | hge
    · rcases h with ⟨_, h2⟩ | ⟨k, x, h1, h3, h4, h5, h6, h7⟩
      · have := h2 j g (by omega) hj2 hg
        rw [hq] at this
        cases this
      · have h8 := h7 j g (by omega) hj2 hg hq
        rcases hc.2 with h9 | h9
        · omega
        · rw [h1, prioAt_nat h5] at h9
          omega
    · obtain rfl : j = a := by omega
      rw [hf] at hg
      obtain rfl := Option.some.inj hg
      exact Int.le_refl _
  · rename_i hc
    rcases h with ⟨h1, h2⟩ | ⟨k, x, h1, h3, h4, h5, h6, h7⟩
    · refine .inl ⟨h1, fun j g hj1 hj2 hg => ?_⟩
      rcases Nat.lt_or_ge a j with hlt | hge
      · exact h2 j g (by omega) hj2 hg
      · obtain rfl : j = a := by omega
        rw [hf] at hg
        obtain rfl := Option.some.inj hg
        cases hq : q f with
        | false => rfl
        | true => exfalso; apply hc; simp [hq, h1]
    · refine .inr ⟨k, x, h1, by omega, h4, h5, h6, fun j g hj1 hj2 hg hq => ?_⟩
      rcases Nat.lt_or_ge a j with hlt | hge
      · exact h7 j g (by omega) hj2 hg hq
      · obtain rfl : j = a := by omega
        rw [hf] at hg
        obtain rfl := Option.some.inj hg
        rw [hq, h1, prioAt_nat h5] at hc
        simp at hc
        exact ⟨by omega, fun _ => by omega⟩

/-- What is sent: how, whither, what. -/
structure Snt where
  kind : Int
  n : Int
  p : Pk
def encSnt (s : Snt) : List FV := [.int .i64 s.kind, .int .i64 s.n] ++ encPk s.p
theorem encSnt_len (s : Snt) : (encSnt s).length = 13 := rfl
structure Rs where
  p : Pk
  table : Int
  out : List Snt
def stepD (s : Rs) (d : Dx) : Rs :=
  if d.kind = 1 then { s with p := setP s.p d.a.toNat d.n }
  else if d.kind = 2 then { s with p := setP s.p d.a.toNat (getP s.p d.n.toNat) }
  else if d.kind = 3 then { s with p := setP s.p d.a.toNat (if 0 > getP s.p d.a.toNat - 1 then 0 else getP s.p d.a.toNat - 1) }
  else if d.kind = 4 then { s with table := d.n }
  else { s with out := s.out ++ [⟨d.kind, d.n, s.p⟩] }
def bestOf (l : List Fl) (t : Int) (p : Pk) : Int := bst l (fun f => f.table == t && fitsB p f) l.length
/-- One table. -/
def execT (l : List Fl) (s : Rs) : Rs := match l[(bestOf l s.table s.p).toNat]? with
  | some f => if bestOf l s.table s.p < 0 then { s with table := -1 } else f.ds.foldl stepD { s with table := -1 }
  | none => { s with table := -1 }
/-- The last n tables. -/
def runN (l : List Fl) : Nat → Rs → Rs
  | 0, s => s
  | n + 1, s => runN l n (if s.table = 7 - n then execT l s else s)
theorem runN_done (l : List Fl) : ∀ (n : Nat) (s : Rs), s.table < 0 → n ≤ 8 → runN l n s = s
  | 0, _, _, _ => rfl
  | n + 1, s, h, hn => by rw [runN, if_neg (by omega), runN_done l n s h (by omega)]
theorem runN_skip (l : List Fl) (k : Nat) : ∀ (n : Nat) (s : Rs), s.table = 7 - (k : Int) → k ≤ n → runN l (n + 1) s = runN l (k + 1) s
  | n, s, h, hk => by
    rcases Nat.lt_or_ge k n with hlt | hge
    · obtain ⟨m, rfl⟩ : ∃ m, n = m + 1 := ⟨n - 1, by omega⟩
      rw [runN, if_neg (by omega), runN_skip l k m s h (by omega)]
    · obtain rfl : n = k := by omega
      rfl
def ranOf (l : List Fl) (p : Pk) : List Snt := (runN l 8 ⟨p, 0, []⟩).out
end Go.Proofs.Ytdbbmjdeeenlhaa
