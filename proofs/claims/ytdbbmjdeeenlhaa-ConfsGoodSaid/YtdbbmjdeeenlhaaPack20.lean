/- Flows: what a packet comes to. -/
import Derived.Test.YtdbbmjdeeenlhaaPack19
import Derived.Test.YtdbbmjdeeenlhaaPack18
import Derived.Test.YtdbbmjdeeenlhaaPack12
set_option linter.unusedSimpArgs false
set_option linter.unusedVariables false
namespace Go.Proofs.Ytdbbmjdeeenlhaa
open Go.RowKit

def getP (p : Pk) : Nat → Int
  | 0 => p.f0
  | 1 => p.f1
  | 2 => p.f2
  | 3 => p.f3
  | 4 => p.f4
  | 5 => p.f5
  | 6 => p.f6
  | 7 => p.f7
  | 8 => p.f8
  | _ => p.f9
def setP (p : Pk) (i : Nat) (v : Int) : Pk :=
  match i with
  | 0 => { p with f0 := v }
  | 1 => { p with f1 := v }
  | 2 => { p with f2 := v }
  | 3 => { p with f3 := v }
  | 4 => { p with f4 := v }
  | 5 => { p with f5 := v }
  | 6 => { p with f6 := v }
  | 7 => { p with f7 := v }
  | 8 => { p with f8 := v }
  | _ => { p with f9 := v }
/-- All of a packet's fields are words. -/
def Pk.Wd (p : Pk) : Prop := ∀ i, i < 10 → word (getP p i) = true
theorem setP_wd {p : Pk} (h : p.Wd) (i : Nat) {v : Int} (hv : word v = true) : (setP p i v).Wd := by
  intro j hj
  have hs : getP (setP p i v) j = v ∨ getP (setP p i v) j = getP p j := by
    unfold setP
    split <;> (unfold getP; split <;> simp)
  rcases hs with e | e <;> rw [e]
  · exact hv
  · exact h j hj
theorem setP_same {p : Pk} {i : Nat} {v : Int} (hi : i < 10) (h : getP p i = v) : setP p i v = p := by
  subst h
  match i, hi with
  | 0, _ | 1, _ | 2, _ | 3, _ | 4, _ | 5, _ | 6, _ | 7, _ | 8, _ | 9, _ => rfl
  | i + 10, h => omega
def fitsB (p : Pk) (f : Fl) : Bool := f.ms.all fun m => maskd (getP p m.field.toNat) m.mask == m.value
def prioAt (l : List Fl) (i : Int) : Int := match l[i.toNat]? with
  | some f => f.prio
  | none => 0
/-- The place of the strongest that fits, of the first so many; of those the first one. -/
def bst (l : List Fl) (q : Fl → Bool) : Nat → Int
  | 0 => -1
  | k + 1 => match l[k]? with
    | some f => if (q f && (decide (bst l q k < 0) || decide (f.prio > prioAt l (bst l q k)))) = true then k else bst l q k
    | none => bst l q k
def IsB (l : List Fl) (q : Fl → Bool) (a b : Nat) (i : Int) : Prop :=
  (i = -1 ∧ ∀ j f, a ≤ j → j < b → l[j]? = some f → q f = false) ∨
  (∃ k g, i = ((k : Nat) : Int) ∧ a ≤ k ∧ k < b ∧ l[k]? = some g ∧ q g = true ∧ ∀ j f, a ≤ j → j < b → l[j]? = some f → q f = true → f.prio ≤ g.prio ∧ (j < k → f.prio < g.prio))
theorem prioAt_nat {l : List Fl} {k : Nat} {g : Fl} (h : l[k]? = some g) : prioAt l (k : Int) = g.prio := by
  unfold prioAt
  rw [Int.toNat_natCast, h]
theorem bst_is (l : List Fl) (q : Fl → Bool) : ∀ k, k ≤ l.length → IsB l q 0 k (bst l q k)
  | 0, _ => .inl ⟨rfl, fun j f _ h => by omega⟩
  | k + 1, hk => by
    have ih := bst_is l q k (by omega)
    obtain ⟨f, hf⟩ : ∃ f, l[k]? = some f := ⟨_, List.getElem?_eq_getElem (by omega)⟩
    simp only [bst, hf]
    split
    · rename_i hc
      simp only [Bool.and_eq_true, Bool.or_eq_true, decide_eq_true_eq] at hc
      refine .inr ⟨k, f, rfl, by omega, by omega, hf, hc.1, fun j g _ hj hg hq => ?_⟩
      rcases Nat.lt_or_ge j k with hlt | hge
      · rcases ih with ⟨_, h2⟩ | ⟨m, x, h1, _, hm, hx, hqx, h2⟩
        · have := h2 j g (by omega) hlt hg
          rw [hq] at this
          cases this
        · have h3 := h2 j g (by omega) hlt hg hq
          rcases hc.2 with h4 | h4
          · omega
          · rw [h1, prioAt_nat hx] at h4
            omega
      · obtain rfl : j = k := by omega
        rw [hf] at hg
        obtain rfl := Option.some.inj hg
        exact ⟨Int.le_refl _, fun h => by omega⟩
    · rename_i hc
      rcases ih with ⟨h1, h2⟩ | ⟨m, x, h1, h3, hm, hx, hqx, h2⟩
      · refine .inl ⟨h1, fun j g _ hj hg => ?_⟩
        rcases Nat.lt_or_ge j k with hlt | hge
        · exact h2 j g (by omega) hlt hg
        · obtain rfl : j = k := by omega
          rw [hf] at hg
          obtain rfl := Option.some.inj hg
          cases hq : q f with
          | false => rfl
          | true => exfalso; apply hc; simp [hq, h1]
      · refine .inr ⟨m, x, h1, h3, by omega, hx, hqx, fun j g _ hj hg hq => ?_⟩
        rcases Nat.lt_or_ge j k with hlt | hge
        · exact h2 j g (by omega) hlt hg hq
        · obtain rfl : j = k := by omega
          rw [hf] at hg
          obtain rfl := Option.some.inj hg
          refine ⟨?_, fun h => by omega⟩
          rw [hq, h1, prioAt_nat hx] at hc
          simp at hc
          omega
theorem IsB.uniq {l : List Fl} {q : Fl → Bool} {a b : Nat} {i j : Int} (h : IsB l q a b i) (h' : IsB l q a b j) : i = j := by
  rcases h with ⟨h1, h2⟩ | ⟨k, g, h1, h3, h4, h5, h6, h7⟩
  · rcases h' with ⟨h1', h2'⟩ | ⟨k', g', h1', h3', h4', h5', h6', h7'⟩
    · omega
    · have := h2 k' g' h3' h4' h5'
      rw [h6'] at this
      cases this
  · rcases h' with ⟨h1', h2'⟩ | ⟨k', g', h1', h3', h4', h5', h6', h7'⟩
    · have := h2' k g h3 h4 h5
      rw [h6] at this
      cases this
    · have e1 := h7 k' g' h3' h4' h5' h6'
      have e2 := h7' k g h3 h4 h5 h6
      have : k = k' := by omega
      omega
/-- One more from the front. -/
theorem IsB.down {l : List Fl} {q : Fl → Bool} {a b : Nat} {i : Int} {f : Fl} (h : IsB l q (a + 1) b i) (hf : l[a]? = some f) (hab : a < b) : IsB l q a b (if (q f && (decide (i < 0) || decide (f.prio ≥ prioAt l i))) = true then a else i) := by
  split
  · rename_i hc
    simp only [Bool.and_eq_true, Bool.or_eq_true, decide_eq_true_eq] at hc
    refine .inr ⟨a, f, rfl, by omega, hab, hf, hc.1, fun j g hj1 hj2 hg hq => ⟨?_, fun h => by omega⟩⟩
    rcases Nat.lt_or_ge a j with hlt | hge
    · rcases h with ⟨_, h2⟩ | ⟨k, x, h1, h3, h4, h5, h6, h7⟩
      · have := h2 j g (by omega) hj2 hg
        rw [hq] at this
        cases this
      · have h8 := h7 j g (by omega) hj2 hg hq
        rcases hc.2 with h9 | h9
        · omega
        · rw [h1, prioAt_nat h5] at h9
          omega
    · obtain rfl : j = a := by omega
      rw [hf] at hg
      obtain rfl := Option.some.inj hg
      exact Int.le_refl _
  · rename_i hc
    rcases h with ⟨h1, h2⟩ | ⟨k, x, h1, h3, h4, h5, h6, h7⟩
    · refine .inl ⟨h1, fun j g hj1 hj2 hg => ?_⟩
      rcases Nat.lt_or_ge a j with hlt | hge
      · exact h2 j g (by omega) hj2 hg
      · obtain rfl : j = a := by omega
        rw [hf] at hg
        obtain rfl := Option.some.inj hg
        cases hq : q f with
        | false => rfl
        | true => exfalso; apply hc; simp [hq, h1]
    · refine .inr ⟨k, x, h1, by omega, h4, h5, h6, fun j g hj1 hj2 hg hq => ?_⟩
      rcases Nat.lt_or_ge a j with hlt | hge
      · exact h7 j g (by omega) hj2 hg hq
      · obtain rfl : j = a := by omega
        rw [hf] at hg
        obtain rfl := Option.some.inj hg
        rw [hq, h1, prioAt_nat h5] at hc
        simp at hc
        exact ⟨by omega, fun _ => by omega⟩

/-- What is sent: how, whither, what. -/
structure Snt where
  kind : Int
  n : Int
  p : Pk
def encSnt (s : Snt) : List FV := [.int .i64 s.kind, .int .i64 s.n] ++ encPk s.p
theorem encSnt_len (s : Snt) : (encSnt s).length = 13 := rfl
structure Rs where
  p : Pk
  table : Int
  out : List Snt
def stepD (s : Rs) (d : Dx) : Rs :=
  if d.kind = 1 then { s with p := setP s.p d.a.toNat d.n }
  else if d.kind = 2 then { s with p := setP s.p d.a.toNat (getP s.p d.n.toNat) }
  else if d.kind = 3 then { s with p := setP s.p d.a.toNat (if 0 > getP s.p d.a.toNat - 1 then 0 else getP s.p d.a.toNat - 1) }
  else if d.kind = 4 then { s with table := d.n }
  else { s with out := s.out ++ [⟨d.kind, d.n, s.p⟩] }
def bestOf (l : List Fl) (t : Int) (p : Pk) : Int := bst l (fun f => f.table == t && fitsB p f) l.length
/-- One table. -/
def execT (l : List Fl) (s : Rs) : Rs := match l[(bestOf l s.table s.p).toNat]? with
  | some f => if bestOf l s.table s.p < 0 then { s with table := -1 } else f.ds.foldl stepD { s with table := -1 }
  | none => { s with table := -1 }
/-- The last n tables. -/
def runN (l : List Fl) : Nat → Rs → Rs
  | 0, s => s
  | n + 1, s => runN l n (if s.table = 7 - n then execT l s else s)
theorem runN_done (l : List Fl) : ∀ (n : Nat) (s : Rs), s.table < 0 → n ≤ 8 → runN l n s = s
  | 0, _, _, _ => rfl
  | n + 1, s, h, hn => by rw [runN, if_neg (by omega), runN_done l n s h (by omega)]
theorem runN_skip (l : List Fl) (k : Nat) : ∀ (n : Nat) (s : Rs), s.table = 7 - (k : Int) → k ≤ n → runN l (n + 1) s = runN l (k + 1) s
  | n, s, h, hk => by
    rcases Nat.lt_or_ge k n with hlt | hge
    · obtain ⟨m, rfl⟩ : ∃ m, n = m + 1 := ⟨n - 1, by omega⟩
      rw [runN, if_neg (by omega), runN_skip l k m s h (by omega)]
    · obtain rfl : n = k := by omega
      rfl
def ranOf (l : List Fl) (p : Pk) : List Snt := (runN l 8 ⟨p, 0, []⟩).out
end Go.Proofs.Ytdbbmjdeeenlhaa

/- Flows that may be: what that says of each. -/
namespace Go.Proofs.Ytdbbmjdeeenlhaa
open Go.RowKit

theorem flsFault_mem : ∀ {l : List Fl} {f : Fl}, flsFault l = 0 → f ∈ l → flFault f = 0
  | g :: l, f, h, hf => by
    unfold flsFault at h
    split at h
    · rename_i h0
      rcases List.mem_cons.1 hf with rfl | hf
      · exact h0
      · exact flsFault_mem h hf
    · rename_i h0
      exact absurd h h0
structure FlMay (f : Fl) : Prop where
  ms : f.ms.length ≤ 12
  ds : f.ds.length ≤ 100
  table : 0 ≤ f.table ∧ f.table ≤ 7
  mok : f.ms.all mxOk = true
  dok : dxOk f.table f.ds = true
theorem flMay {f : Fl} (h : flFault f = 0) : FlMay f := by
  unfold flFault at h
  split at h
  · omega
  · split at h
    · omega
    · split at h
      · omega
      · split at h
        · omega
        · rename_i h1 h2 h3 h4
          have h5 : inR f.table 0 7 = true := by
            cases e : inR f.table 0 7 with
            | true => rfl
            | false => exact absurd (Or.inl e) h2
          exact ⟨by omega, by omega, inR_iff.1 h5, by simpa using h3, by simpa using h4⟩
theorem flowsMay {l : List Fl} (h : flowsFault l = 0) : l.length ≤ 5000 ∧ ∀ f ∈ l, FlMay f := by
  unfold flowsFault at h
  split at h
  · omega
  · exact ⟨by omega, fun f hf => flMay (flsFault_mem h hf)⟩
theorem dxOk_mem {t : Int} : ∀ {l : List Dx} {d : Dx}, dxOk t l = true → d ∈ l → ∃ b, dxMay d t b = true
  | e :: l, d, h, hd => by
    simp only [dxOk, Bool.and_eq_true] at h
    rcases List.mem_cons.1 hd with rfl | hd
    · exact ⟨_, h.1⟩
    · exact dxOk_mem h.2 hd
/-- What a thing to be done needs. -/
theorem dxMay_use {d : Dx} {t : Int} {b : Bool} (h : dxMay d t b = true) : (d.kind = 1 → (0 ≤ d.a ∧ d.a ≤ 9) ∧ word d.n = true) ∧ (d.kind = 2 → (0 ≤ d.a ∧ d.a ≤ 9) ∧ (0 ≤ d.n ∧ d.n ≤ 9)) ∧ (d.kind = 3 → 0 ≤ d.a ∧ d.a ≤ 9) ∧ (d.kind = 4 → t < d.n ∧ d.n ≤ 7) ∧ (d.kind = 1 ∨ d.kind = 2 ∨ d.kind = 3 ∨ d.kind = 4 ∨ d.kind = 5 ∨ d.kind = 6) := by
  unfold dxMay at h
  repeat' split at h
  all_goals try simp only [Bool.and_eq_true, inR_iff, decide_eq_true_eq] at h
  all_goals first
    | (refine ⟨fun e => ?_, fun e => ?_, fun e => ?_, fun e => ?_, ?_⟩ <;> first | omega | (exfalso; omega) | exact ⟨h.1, h.2⟩ | exact h.1)
    | cases h
end Go.Proofs.Ytdbbmjdeeenlhaa

/- Arguments of a law, as data by value; a law's answer, in the form's own words. -/
namespace Go.Proofs.Ytdbbmjdeeenlhaa
open Go.ChangeShapes Go.WideShapes Go.ChangeAt Go.RowKit Go.Deep

/-- Cells hold data, in memory that is there. -/
def RepF (w : World) (fs : List FV) (us : List Value) : Prop := ∀ σ, AV.RepL σ (fun b => b < w.heap.size) w (fs.map .fv) us
theorem RepF.append {w : World} {fs gs : List FV} {us vs : List Value} (h : RepF w fs us) (h' : RepF w gs vs) : RepF w (fs ++ gs) (us ++ vs) := fun σ => by
  rw [List.map_append]
  exact (h σ).append (h' σ)
theorem RepF.length {w : World} {fs : List FV} {us : List Value} (h : RepF w fs us) : us.length = fs.length := by simpa using (h (fun _ => undef)).length
theorem decode_repF {α : Type} {enc : α → List FV} {Ok : α → Prop} {w : World} {Q : List Value → Prop} (hd : ∀ cs, Q cs → ∃ x, Ok x ∧ RepF w (enc x) cs) : ∀ css : List (List Value), (∀ cs ∈ css, Q cs) → ∃ l : List α, l.length = css.length ∧ (∀ x ∈ l, Ok x) ∧ RepF w (l.flatMap enc) css.flatten
  | [], _ => ⟨[], rfl, by simp, fun _ => trivial⟩
  | cs :: css, h => by
    obtain ⟨x, hx, hr⟩ := hd cs (h _ (by simp))
    obtain ⟨l, hl, ho, hr'⟩ := decode_repF hd css (fun c hc => h c (by simp [hc]))
    exact ⟨x :: l, by simp [hl], by simpa using ⟨hx, ho⟩, by rw [List.flatMap_cons, List.flatten_cons]; exact hr.append hr'⟩
theorem rep_of_rd {w : World} {A : Option Addr} {n c : Nat} {us : List Value} {fs : List FV} (h : Rd w (fun b => b < w.heap.size) A us) (hr : RepF w fs us) (h1 : n ≤ c) (h2 : c ≤ maxLen) : (FV.sl fs n).Rep (fun b => b < w.heap.size) w (.slice A n c) := by
  refine ⟨A, c, rfl, h1, h2, ?_⟩
  by_cases hn : fs = []
  · exact .inl hn
  · obtain ⟨b, off, e, hb, hc⟩ := h (fun e => hn (List.eq_nil_of_length_eq_zero (by rw [← hr.length, e]; rfl)))
    exact .inr ⟨b, off, e, hb, FV.RepAt.ofL (hr (fun _ => undef)) hc⟩

section
variable {H : Type} {enc : TypeId × Value → H} {w : World} {base : Nat} {spare : Nat → Bool} {held : Bool}
/-- A slice that came in, its elements decoded. -/
theorem open_sl {α : Type} {ef : α → List FV} {Ok : α → Prop} {P : Program} {t e : TypeId} {n k by_ : Nat} {ls : List Leaf} {v : Value} (hu : P.underlying t = some (.slice e)) (hl : leaves P n e = some ls) (hc : P.cellsOf e = k) (hk : ls.length = k) (hp : 0 < k)
    (hby : P.bytesOf e = by_) (hd : ∀ cs, AllOk enc P w base spare held (SizedCl P) ls cs → ∃ x, Ok x ∧ RepF w (ef x) cs) (h : LeafOk enc P w base spare held (SizedCl P) (.slice t) v) :
    ∃ l : List α, (∀ x ∈ l, Ok x) ∧ l.length * by_ ≤ reachBytes ∧ (slOf ef l).Rep (fun b => b < w.heap.size) w v := by
  obtain ⟨m, y, hm, hC⟩ := h
  obtain ⟨css, A, c, rfl, h1, h2, h3, h4, h5⟩ := open_slice_plain closed_sized hu hl (hc.trans hk.symm) (by omega) hm hC
  obtain ⟨l, hlen, hok, hr⟩ := decode_repF hd css h3
  refine ⟨l, hok, ?_, by rw [← hlen]; exact rep_of_rd h4 hr (by omega) h2⟩
  rcases h5 with h5 | ⟨el, sp, hE, hel⟩
  · rw [h5] at hlen
    rw [hlen]
    simp
  · have := hE ((el.length + sp.length) * P.bytesOf e) (by simp [DataW.weights, hu])
    rw [hby] at this
    rw [hlen, ← hel]
    exact Nat.le_trans (Nat.mul_le_mul_right _ (by omega)) this
/-- An argument that is a slice. -/
theorem open_sl_arg {α : Type} {ef : α → List FV} {Ok : α → Prop} {P : Program} {t e : TypeId} {n k by_ : Nat} {ls : List Leaf} {v : Value} {d : DataW H} {p : List MemPlace} (hu : P.underlying t = some (.slice e)) (hl : leaves P n e = some ls) (hc : P.cellsOf e = k) (hk : ls.length = k) (hp : 0 < k)
    (hby : P.bytesOf e = by_) (hd : ∀ cs, AllOk enc P w base spare held (SizedCl P) ls cs → ∃ x, Ok x ∧ RepF w (ef x) cs) {r : Reach} {b0 : Nat} (hv : Value.okWide P w r b0 t v) (h : DataW.Trod enc P w base spare held t v d p) (hs : SizedCl P t d) :
    ∃ l : List α, (∀ x ∈ l, Ok x) ∧ l.length * by_ ≤ reachBytes ∧ (slOf ef l).Rep (fun b => b < w.heap.size) w v := by
  obtain ⟨A, len, cap, rfl⟩ := okWide_slice hu hv
  obtain ⟨m, hm⟩ := h
  exact open_sl hu hl hc hk hp hby hd ⟨m, (d, p), hm, hs⟩

theorem repF_int {k : IntKind} {n : Int} : RepF w [.int k n] [.int k n] := fun _ => ⟨rfl, trivial⟩
theorem repF_bool {b : Bool} : RepF w [.bool b] [.bool b] := fun _ => ⟨rfl, trivial⟩
theorem repF_str {s : ByteArray} (h : s.size ≤ maxLen) : RepF w [.str s] [.string s] := fun _ => ⟨⟨rfl, h⟩, trivial⟩
theorem repF_cons {f : FV} {v : Value} {fs : List FV} {us : List Value} (h : f.Rep (fun b => b < w.heap.size) w v) (h' : RepF w fs us) : RepF w (f :: fs) (v :: us) := fun σ => ⟨h, h' σ⟩
theorem repF_nil : RepF w [] [] := fun _ => trivial
end

/-- A law that answers true and leaves what was there. -/
theorem Fun.yes {P : Program} {f : FuncId} {args : List AV} {vs : List Value} {w : World} (h : Fun P f args (.fv (.bool true))) (hr : AV.RepL (fun _ => undef) (fun b => b < w.heap.size) w args vs) :
    Calls P f vs.toArray w fun e w' => e = .returned (.bool true) ∧ Below w.heap.size w w' := by
  refine (h.2 (fun _ => undef) (fun b => b < w.heap.size) w vs (inv_none fun _ h => h) hr).mono ?_
  rintro e w' ⟨v, r, own', σ', Z', rfl, ⟨rfl, rfl⟩, hI, hv⟩
  have hv : v = .bool true := hv
  subst hv
  refine ⟨rfl, hI.os, hI.tape, hI.output, hI.size, fun b hb => hI.frame b hb ?_⟩
  rintro ⟨g, ob, h1, _⟩
  simp [lk] at h1
end Go.Proofs.Ytdbbmjdeeenlhaa
