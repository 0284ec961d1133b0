/- A logic of memory: data by value, blocks of the call's own, and what a call hands on. -/
import Derived.Test.YtdbbmjdeeenlhaaRz
import Derived.WalkKit
import Derived.WalkSpells
import Derived.WalkLawsBesides
import Derived.Lib.Hide
import Derived.Maps.AppendAt
import Derived.Laws.OwnMore
import Derived.Laws.Rows
import Derived.Below
namespace Go.Proofs.Ytdbbmjdeeenlhaa
open Go.RowKit

/-- Data of one cell, by value: what lies in memory that nobody writes any more. -/
inductive FV where
  | int (k : IntKind) (n : Int)
  | bool (b : Bool)
  | str (s : ByteArray)
  | sl (cs : List FV) (n : Nat)

mutual
/-- A value holds such data; its slices lie in blocks of Z. -/
def FV.Rep (Z : Nat → Prop) (w : World) : FV → Value → Prop
  | .int k n, v => v = .int k n
  | .bool b, v => v = .bool b
  | .str s, v => v = .string s ∧ s.size ≤ maxLen
  | .sl cs n, v => ∃ A c, v = .slice A n c ∧ n ≤ c ∧ c ≤ maxLen ∧ (cs = [] ∨ ∃ b off, A = some ⟨b, off, none⟩ ∧ Z b ∧ FV.RepAt Z w b off cs)
/-- Cells at a place hold such data. -/
def FV.RepAt (Z : Nat → Prop) (w : World) (b : Nat) : Nat → List FV → Prop
  | _, [] => True
  | off, c :: cs => (∃ u, w.cell? ⟨b, off, none⟩ = some u ∧ FV.Rep Z w c u) ∧ FV.RepAt Z w b (off + 1) cs
end

/-- What a slot or a cell holds, as far as it is known. -/
inductive AV where
  | any
  | bit
  | fv (v : FV)
  | nil
  | fptr (cs : List FV)
  | optr (g : Nat) (off : Nat)
  | osl (g : Nat)
  | osb (g lo n s : Nat)
  | fn (f : FuncId) (caps : List AV)
  | agg (cs : List AV)
  | tup (vs : List AV)
  | whn (c : Prop) (v : AV)

mutual
def AV.Rep (σ : Nat → Value) (Z : Nat → Prop) (w : World) : AV → Value → Prop
  | .any, _ => True
  | .bit, v => ∃ b, v = .bool b
  | .fv f, v => f.Rep Z w v
  | .nil, v => v = .slice none 0 0
  | .fptr cs, v => ∃ b off, v = .pointer (some ⟨b, off, none⟩) ∧ Z b ∧ FV.RepAt Z w b off cs
  | .optr g off, v => ∃ b, blk (σ g) = some b ∧ v = .pointer (some ⟨b, off, none⟩)
  | .osl g, v => v = σ g ∧ ∃ A n c, v = .slice A n c
  | .osb g lo n s, v => ∃ A c A0 N cap, v = .slice A n c ∧ σ g = .slice A0 N cap ∧ lo + c = cap ∧ n ≤ c ∧ (lo = 0 → A = A0) ∧ (0 < c → ∃ b, A0 = some ⟨b, 0, none⟩ ∧ A = some ⟨b, lo * s, none⟩)
  | .fn f caps, v => ∃ cs : Array Value, v = .func (.func f) #[] cs ∧ AV.RepL σ Z w caps cs.toList
  | .agg cs, v => ∃ arr : Array Value, v = .agg arr ∧ AV.RepL σ Z w cs arr.toList
  | .tup vs, v => ∃ arr : Array Value, v = .tuple arr ∧ AV.RepL σ Z w vs arr.toList
  | .whn c a, v => (c → AV.Rep σ Z w a v) ∧ (¬ c → v = undef)
def AV.RepL (σ : Nat → Value) (Z : Nat → Prop) (w : World) : List AV → List Value → Prop
  | [], [] => True
  | a :: as, v :: vs => AV.Rep σ Z w a v ∧ AV.RepL σ Z w as vs
  | _, _ => False
end

/-- The blocks of Z are as they were. -/
def Keeps (Z : Nat → Prop) (w w' : World) : Prop := ∀ b, Z b → w'.heap[b]? = w.heap[b]?
theorem Keeps.cell {Z : Nat → Prop} {w w' : World} (h : Keeps Z w w') {b off : Nat} (hb : Z b) : w'.cell? ⟨b, off, none⟩ = w.cell? ⟨b, off, none⟩ := World.cell?_of_block (h b hb)

mutual
theorem FV.Rep.mono {Z Z' : Nat → Prop} {w w' : World} (hk : Keeps Z w w') (hz : ∀ b, Z b → Z' b) : ∀ {f : FV} {v : Value}, f.Rep Z w v → f.Rep Z' w' v
  | .int _ _, _, h => h
  | .bool _, _, h => h
  | .str _, _, h => h
  | .sl _ _, v, h => by
    obtain ⟨A, c, h1, h2, h3, h4⟩ := h
    refine ⟨A, c, h1, h2, h3, h4.imp id ?_⟩
    rintro ⟨b, off, h5, h6, h7⟩
    exact ⟨b, off, h5, hz b h6, FV.RepAt.mono hk hz h6 h7⟩
theorem FV.RepAt.mono {Z Z' : Nat → Prop} {w w' : World} (hk : Keeps Z w w') (hz : ∀ b, Z b → Z' b) {b : Nat} (hb : Z b) : ∀ {cs : List FV} {off : Nat}, FV.RepAt Z w b off cs → FV.RepAt Z' w' b off cs
  | [], _, _ => trivial
  | _ :: _, _, ⟨⟨u, h1, h2⟩, h3⟩ => ⟨⟨u, (hk.cell hb).trans h1, FV.Rep.mono hk hz h2⟩, FV.RepAt.mono hk hz hb h3⟩
end

mutual
/-- Does a value name this block of the call's own? -/
def AV.refs (g : Nat) : AV → Bool
  | .optr h _ => Nat.beq h g
  | .osl h => Nat.beq h g
  | .osb h _ _ _ => Nat.beq h g
  | .fn _ cs => AV.refsL g cs
  | .agg cs => AV.refsL g cs
  | .tup cs => AV.refsL g cs
  | .whn _ a => AV.refs g a
  | _ => false
def AV.refsL (g : Nat) : List AV → Bool
  | [] => false
  | a :: as => AV.refs g a || AV.refsL g as
end

mutual
theorem AV.Rep.mono {σ σ' : Nat → Value} {Z Z' : Nat → Prop} {w w' : World} (hk : Keeps Z w w') (hz : ∀ b, Z b → Z' b) : ∀ {a : AV} {v : Value}, (∀ g, a.refs g = true → σ' g = σ g) → a.Rep σ Z w v → a.Rep σ' Z' w' v
  | .any, _, _, h => h
  | .bit, _, _, h => h
  | .fv _, _, _, h => FV.Rep.mono hk hz h
  | .nil, _, _, h => h
  | .fptr _, _, _, ⟨b, off, h1, h2, h3⟩ => ⟨b, off, h1, hz b h2, FV.RepAt.mono hk hz h2 h3⟩
  | .optr g off, _, hs, ⟨b, h1, h2⟩ => ⟨b, by rw [hs g (by simp [AV.refs])]; exact h1, h2⟩
  | .osl g, _, hs, h => ⟨by rw [hs g (by simp [AV.refs])]; exact h.1, h.2⟩
  | .osb g _ _ _, _, hs, ⟨A, c, A0, N, cap, h1, h2, h3⟩ => ⟨A, c, A0, N, cap, h1, by rw [hs g (by simp [AV.refs])]; exact h2, h3⟩
  | .fn _ caps, _, hs, ⟨cs, h1, h2⟩ => ⟨cs, h1, AV.RepL.mono hk hz (fun g hg => hs g (by simpa [AV.refs] using hg)) h2⟩
  | .agg _, _, hs, ⟨cs, h1, h2⟩ => ⟨cs, h1, AV.RepL.mono hk hz (fun g hg => hs g (by simpa [AV.refs] using hg)) h2⟩
  | .tup _, _, hs, ⟨cs, h1, h2⟩ => ⟨cs, h1, AV.RepL.mono hk hz (fun g hg => hs g (by simpa [AV.refs] using hg)) h2⟩
  | .whn _ _, _, hs, h => ⟨fun hc => AV.Rep.mono hk hz (fun g hg => hs g (by simpa [AV.refs] using hg)) (h.1 hc), h.2⟩
theorem AV.RepL.mono {σ σ' : Nat → Value} {Z Z' : Nat → Prop} {w w' : World} (hk : Keeps Z w w') (hz : ∀ b, Z b → Z' b) : ∀ {as : List AV} {vs : List Value}, (∀ g, AV.refsL g as = true → σ' g = σ g) → AV.RepL σ Z w as vs → AV.RepL σ' Z' w' as vs
  | [], [], _, _ => trivial
  | a :: as, v :: vs, hs, ⟨h1, h2⟩ => ⟨AV.Rep.mono hk hz (fun g hg => hs g (by simp [AV.refsL, hg])) h1, AV.RepL.mono hk hz (fun g hg => hs g (by simp [AV.refsL, hg])) h2⟩
  | [], _ :: _, _, h => h.elim
  | _ :: _, [], _, h => h.elim
end

theorem AV.RepL.length {σ : Nat → Value} {Z : Nat → Prop} {w : World} : ∀ {as : List AV} {vs : List Value}, AV.RepL σ Z w as vs → vs.length = as.length
  | [], [], _ => rfl
  | _ :: _, _ :: _, h => by simp [AV.RepL.length h.2]
  | [], _ :: _, h => h.elim
  | _ :: _, [], h => h.elim
theorem AV.RepL.get {σ : Nat → Value} {Z : Nat → Prop} {w : World} : ∀ {as : List AV} {vs : List Value} {i : Nat} {a : AV}, AV.RepL σ Z w as vs → as[i]? = some a → ∃ v, vs[i]? = some v ∧ a.Rep σ Z w v
  | a :: as, v :: vs, 0, _, h, e => by obtain rfl := Option.some.inj e; exact ⟨v, rfl, h.1⟩
  | a :: as, v :: vs, i + 1, _, h, e => AV.RepL.get h.2 (i := i) (by simpa using e)
  | [], [], _, _, _, e => by simp at e
  | [], _ :: _, _, _, h, _ => h.elim
  | _ :: _, [], _, _, h, _ => h.elim
theorem AV.RepL.append {σ : Nat → Value} {Z : Nat → Prop} {w : World} : ∀ {as : List AV} {vs : List Value} {bs : List AV} {us : List Value}, AV.RepL σ Z w as vs → AV.RepL σ Z w bs us → AV.RepL σ Z w (as ++ bs) (vs ++ us)
  | [], [], _, _, _, h => h
  | _ :: _, _ :: _, _, _, h, h' => ⟨h.1, AV.RepL.append h.2 h'⟩
  | [], _ :: _, _, _, h, _ => h.elim
  | _ :: _, [], _, _, h, _ => h.elim
theorem AV.RepL.drop {σ : Nat → Value} {Z : Nat → Prop} {w : World} : ∀ (n : Nat) {as : List AV} {vs : List Value}, AV.RepL σ Z w as vs → AV.RepL σ Z w (as.drop n) (vs.drop n)
  | 0, _, _, h => h
  | _ + 1, [], [], _ => trivial
  | n + 1, _ :: _, _ :: _, h => AV.RepL.drop n h.2
  | _ + 1, [], _ :: _, h => h.elim
  | _ + 1, _ :: _, [], h => h.elim
theorem AV.RepL.take {σ : Nat → Value} {Z : Nat → Prop} {w : World} : ∀ (n : Nat) {as : List AV} {vs : List Value}, AV.RepL σ Z w as vs → AV.RepL σ Z w (as.take n) (vs.take n)
  | 0, _, _, _ => trivial
  | _ + 1, [], [], _ => trivial
  | n + 1, _ :: _, _ :: _, h => ⟨h.1, AV.RepL.take n h.2⟩
  | _ + 1, [], _ :: _, h => h.elim
  | _ + 1, _ :: _, [], h => h.elim
theorem AV.RepL.set {σ : Nat → Value} {Z : Nat → Prop} {w : World} : ∀ (n : Nat) {as : List AV} {vs : List Value} {a : AV} {v : Value}, AV.RepL σ Z w as vs → a.Rep σ Z w v → AV.RepL σ Z w (as.set n a) (vs.set n v)
  | _, [], [], _, _, _, _ => trivial
  | 0, _ :: _, _ :: _, _, _, h, h' => ⟨h', h.2⟩
  | n + 1, _ :: _, _ :: _, _, _, h, h' => ⟨h.1, AV.RepL.set n h.2 h'⟩
  | _, [], _ :: _, _, _, h, _ => h.elim
  | _, _ :: _, [], _, _, h, _ => h.elim

/-- Cells read out of memory, as values. -/
theorem FV.RepAt.toL {σ : Nat → Value} {Z : Nat → Prop} {w : World} {b : Nat} : ∀ {cs : List FV} {off : Nat}, FV.RepAt Z w b off cs → ∃ us : List Value, us.length = cs.length ∧ (∀ j u, us[j]? = some u → w.cell? ⟨b, off + j, none⟩ = some u) ∧ AV.RepL σ Z w (cs.map .fv) us
  | [], _, _ => ⟨[], rfl, by simp, trivial⟩
  | c :: cs, off, ⟨⟨u, h1, h2⟩, h3⟩ => by
    obtain ⟨us, e, hc, hr⟩ := FV.RepAt.toL h3
    refine ⟨u :: us, by simp [e], fun j x hj => ?_, h2, hr⟩
    cases j with
    | zero => obtain rfl := Option.some.inj hj; exact h1
    | succ j =>
      have := hc j x (by simpa using hj)
      rw [show off + (j + 1) = off + 1 + j from by omega]
      exact this
theorem FV.RepAt.ofL {σ : Nat → Value} {Z : Nat → Prop} {w : World} {b : Nat} : ∀ {cs : List FV} {off : Nat} {us : List Value}, AV.RepL σ Z w (cs.map .fv) us → (∀ j u, us[j]? = some u → w.cell? ⟨b, off + j, none⟩ = some u) → FV.RepAt Z w b off cs
  | [], _, _, _, _ => trivial
  | c :: cs, off, u :: us, h, hc => ⟨⟨u, hc 0 u rfl, h.1⟩, FV.RepAt.ofL h.2 fun j x hj => by
      rw [show off + 1 + j = off + (j + 1) from by omega]
      exact hc (j + 1) x (by simpa using hj)⟩
  | _ :: _, _, [], h, _ => h.elim
theorem FV.RepAt.drop {Z : Nat → Prop} {w : World} {b : Nat} : ∀ (n : Nat) {cs : List FV} {off : Nat}, FV.RepAt Z w b off cs → FV.RepAt Z w b (off + n) (cs.drop n)
  | 0, _, _, h => h
  | n + 1, [], _, _ => trivial
  | n + 1, _ :: cs, off, h => by
    have := FV.RepAt.drop n h.2
    rw [show off + (n + 1) = off + 1 + n from by omega]
    exact this
theorem FV.RepAt.take {Z : Nat → Prop} {w : World} {b : Nat} : ∀ (n : Nat) {cs : List FV} {off : Nat}, FV.RepAt Z w b off cs → FV.RepAt Z w b off (cs.take n)
  | 0, _, _, _ => trivial
  | n + 1, [], _, _ => trivial
  | n + 1, _ :: _, _, h => ⟨h.1, FV.RepAt.take n h.2⟩

/-- Values of one cell. -/
def AV.one : AV → Bool
  | .fv _ | .nil | .fptr _ | .optr _ _ | .osl _ | .osb _ _ _ _ | .fn _ _ => true
  | _ => false
theorem FV.Rep.one {Z : Nat → Prop} {w : World} : ∀ {f : FV} {v : Value}, f.Rep Z w v → v.oneCell' = true
  | .int _ _, _, h => by rw [show _ = _ from h]; rfl
  | .bool _, _, h => by rw [show _ = _ from h]; rfl
  | .str _, _, h => by rw [h.1]; rfl
  | .sl _ _, _, ⟨_, _, h, _⟩ => by rw [h]; rfl

/-- Blocks of the call's own: a box of cells; a row that may be appended to. -/
inductive OB where
  | box (t : TypeId) (cs : List AV)
  | row (t : TypeId) (size n : Nat) (cs : List AV)
def OB.cells : OB → List AV
  | .box _ cs => cs
  | .row _ _ _ cs => cs
def OB.isBox : OB → Bool
  | .box _ _ => true
  | .row _ _ _ _ => false
theorem rowZ_own {w : World} {e size n : Nat} {h : Value} {xs : List Value} (hr : rowZ w e size h n xs) : w.ownsRow 0 e size h n xs ∨ (n = 0 ∧ xs = [] ∧ ∃ a, h = .slice (some a) 0 0) := by
  rcases hr.2 with ⟨h1, A, h2⟩ | ⟨g, cap, cur, h1, _, h3, h4, h5, h6⟩
  · subst h1
    have hx : xs = [] := List.eq_nil_of_length_eq_zero (by simpa using hr.1)
    cases A with
    | none => exact .inl ⟨hr.1, .inl ⟨h2, rfl⟩⟩
    | some a => exact .inr ⟨rfl, hx, a, h2⟩
  · exact .inl ⟨hr.1, .inr ⟨g, cap, cur, h1, Nat.zero_le _, h3, h4, h5, h6⟩⟩
def OB.Rep (σ : Nat → Value) (Z : Nat → Prop) (w : World) (h : Value) : OB → Prop
  | .box t cs => ∃ b arr, h = .pointer (some ⟨b, 0, none⟩) ∧ w.heap[b]? = some (.cells arr t (0, 0)) ∧ AV.RepL σ Z w cs arr.toList
  | .row t size n cs => ∃ xs, rowZ w t size h n xs ∧ AV.RepL σ Z w cs xs

/-- An entry of a list of pairs. -/
def lk {α : Type} : List (Nat × α) → Nat → Option α
  | [], _ => none
  | (k, x) :: l, i => match Nat.beq k i with
    | true => some x
    | false => lk l i
theorem lk_hit {α : Type} (l : List (Nat × α)) (k : Nat) (x : α) : lk ((k, x) :: l) k = some x := by simp [lk]
theorem lk_skip {α : Type} (l : List (Nat × α)) {k i : Nat} (x : α) (h : k ≠ i) : lk ((k, x) :: l) i = lk l i := by
  have : Nat.beq k i = false := by cases e : Nat.beq k i with
    | false => rfl
    | true => exact absurd (Nat.eq_of_beq_eq_true e) h
  simp [lk, this]
theorem lk_cons {α : Type} (l : List (Nat × α)) (k i : Nat) (x : α) : lk ((k, x) :: l) i = if k = i then some x else lk l i := by
  by_cases h : k = i
  · subst h; simp [lk_hit]
  · rw [lk_skip _ _ h, if_neg h]

abbrev Own := List (Nat × OB)
/-- A state as it is known: slots, and blocks of the call's own. -/
structure St where
  t : List (Nat × AV)
  own : Own

/-- What stands fast through a call: the world at its beginning, what was handed in. -/
structure Ctx where
  w0 : World
  O0 : Nat → Prop
  Z0 : Nat → Prop
  σ0 : Nat → Value

structure Inv (C : Ctx) (own : Own) (σ : Nat → Value) (Z : Nat → Prop) (w : World) : Prop where
  os : w.os = C.w0.os
  tape : w.tape = C.w0.tape
  output : w.output = C.w0.output
  size : C.w0.heap.size ≤ w.heap.size
  drawn : C.w0.drawn ≤ w.drawn
  frame : ∀ b, b < C.w0.heap.size → ¬ C.O0 b → w.heap[b]? = C.w0.heap[b]?
  zlt : ∀ b, Z b → b < w.heap.size
  zold : ∀ b, C.Z0 b → Z b
  znew : ∀ b, Z b → C.Z0 b ∨ C.O0 b ∨ C.w0.heap.size ≤ b
  has : ∀ g ob, lk own g = some ob → ob.Rep σ Z w (σ g)
  mine : ∀ g ob b, lk own g = some ob → blk (σ g) = some b → (C.O0 b ∨ C.w0.heap.size ≤ b) ∧ ¬ Z b ∧ b < w.heap.size
  inj : ∀ g g' ob ob' b, lk own g = some ob → lk own g' = some ob' → blk (σ g) = some b → blk (σ g') = some b → g = g'
  keep : ∀ g, 1000 ≤ g → σ g = C.σ0 g

def Temps (σ : Nat → Value) (Z : Nat → Prop) (w : World) (t : List (Nat × AV)) (tm : Array Value) : Prop :=
  ∀ i a, lk t i = some a → a.Rep σ Z w (tm.getD i undef)

def Rel (n : Nat) (C : Ctx) (st : St) (a : Act) (w : World) : Prop :=
  a.defers = [] ∧ a.tmps.size = n ∧ ∃ σ Z, Inv C st.own σ Z w ∧ Temps σ Z w st.t a.tmps
end Go.Proofs.Ytdbbmjdeeenlhaa
