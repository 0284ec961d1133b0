import Derived.Test.YtmidechdlbcepaaGreatPack07
import Derived.Lib.AppendStr
import Derived.Below
import Derived.WalkKit
import Derived.WalkSpells
import Derived.WalkLawsBesides
import Derived.Lib.Hide
import Derived.Maps.AppendAt
import Derived.Laws.OwnMore
import Derived.Laws.Rows
set_option linter.unusedSimpArgs false
set_option linter.unusedVariables false
namespace Go.Proofs.YtmidechdlbcepaaGreat
open Go.RowKit
def blk : Value → Option Nat
  | .pointer (some a) => some a.block
  | .slice (some a) _ (_ + 1) => some a.block
  | _ => none
theorem blk_slice {a : Addr} {n c : Nat} (h : 0 < c) : blk (.slice (some a) n c) = some a.block := by
  obtain ⟨c, rfl⟩ : ∃ k, c = k + 1 := ⟨c - 1, by omega⟩
  rfl
theorem blk_zero {A : Option Addr} {n : Nat} : blk (.slice A n 0) = none := by cases A <;> rfl
def rowZ (w : World) (e size : Nat) (h : Value) (n : Nat) (xs : List Value) : Prop :=
  xs.length = n * size ∧ ((n = 0 ∧ ∃ A, h = .slice A 0 0) ∨ ∃ g cap cur, h = .slice (some ⟨g, 0, none⟩) n cap ∧ 0 < cap ∧ w.heap[g]? = some (.cells cur e (0, 0)) ∧ n ≤ cap ∧ cap ≤ maxLen ∧ cur.size = cap * size ∧ cur.toList.take (n * size) = xs)
theorem rowZ_of {w : World} {e size n : Nat} {h : Value} {xs : List Value} (hr : w.ownsRow 0 e size h n xs) : rowZ w e size h n xs := by
  refine ⟨hr.1, ?_⟩
  rcases hr.2 with ⟨h1, h2⟩ | ⟨g, cap, cur, h1, _, h3, h4, h5, h6⟩
  · exact .inl ⟨h2, none, by rw [h1]⟩
  · rcases Nat.eq_zero_or_pos cap with h0 | h0
    · subst h0
      obtain rfl : n = 0 := by omega
      exact .inl ⟨rfl, _, h1⟩
    · exact .inr ⟨g, cap, cur, h1, h0, h3, h4, h5, h6⟩

structure AppRuns (P : Program) (w : World) (ts : Array TypeId) (ty e size : Nat) (z : Value) (x : Value) (n m : Nat) (news : List Value) : Prop where
  zero : m = 0 → ∀ A, (Builtin.append_ ts ty #[.slice A 0 0, x]).run P w = .ok (.slice A 0 0) w
  nil : 0 < m → (Builtin.append_ ts ty #[.slice none 0 0, x]).run P w = .ok (.slice (some ⟨w.heap.size, 0, .none⟩) m (grownCap w m 0 e)) (w.drew.alloc (.cells (news.toArray ++ Builtin.zeroCells z.cells (grownCap w m 0 e - m)) e))
  room : ∀ (g sCap : Nat) (cur : Array Value), w.heap[g]? = some (.cells cur e (0, 0)) → n + m ≤ sCap → n * size + news.length ≤ cur.size →
    (Builtin.append_ ts ty #[.slice (some ⟨g, 0, .none⟩) n sCap, x]).run P w = .ok (.slice (some ⟨g, 0, .none⟩) (n + m) sCap) (w.setRow g (cur.toList.take (n * size) ++ news ++ cur.toList.drop (n * size + news.length)).toArray)
  grow : ∀ (b : Addr) (sCap : Nat) (olds : List Value), olds.length = n * size → (∀ j v, olds[j]? = some v → w.cell? (b.add j) = some v) → sCap < n + m →
    (Builtin.append_ ts ty #[.slice (some b) n sCap, x]).run P w = .ok (.slice (some ⟨w.heap.size, 0, .none⟩) (n + m) (grownCap w (n + m) sCap e)) (w.drew.alloc (.cells (olds.toArray ++ news.toArray ++ Builtin.zeroCells z.cells (grownCap w (n + m) sCap e - (n + m))) e))

section
variable {P : Program} (w : World)
theorem run_appX {ts : Array TypeId} {ty e size : Nat} {z : Value} (hzs : z.cells.size = size) {v x : Value} {n m : Nat} {xs news : List Value} (hown : rowZ w e size v n xs) (hl : news.length = m * size)
    (h63 : n + m ≤ maxLen) (hA : AppRuns P w ts ty e size z x n m news) :
    ∃ v' w', (Builtin.append_ ts ty #[v, x]).run P w = .ok v' w' ∧ rowZ w' e size v' (n + m) (xs ++ news) ∧ w.grownBy w' (blk v) ∧ w.drawn ≤ w'.drawn ∧ (∀ b, blk v' = some b → (some b = blk v ∨ b = w.heap.size)) := by
  have hlen : (xs ++ news).length = (n + m) * size := by rw [List.length_append, hown.1, hl, Nat.add_mul]
  have grown : ∀ (old : Nat), 0 < n + m → ∀ (row : Option Nat),
      rowZ (w.drew.alloc (.cells (xs.toArray ++ news.toArray ++ Builtin.zeroCells z.cells (grownCap w (n + m) old e - (n + m))) e)) e size
        (.slice (some ⟨w.heap.size, 0, none⟩) (n + m) (grownCap w (n + m) old e)) (n + m) (xs ++ news) ∧
      w.grownBy (w.drew.alloc (.cells (xs.toArray ++ news.toArray ++ Builtin.zeroCells z.cells (grownCap w (n + m) old e - (n + m))) e)) row := by
    intro old h0 row
    have hge := grownCap_ge w (n + m) old e
    have hcm : grownCap w (n + m) old e ≤ maxLen := grownCap_le_maxLen w (n + m) old e h63
    refine ⟨⟨hlen, .inr ⟨w.heap.size, _, _, rfl, by omega, heap_alloc_new w.drew _, hge, hcm, ?_, ?_⟩⟩, ⟨rfl, rfl, rfl, by simp, fun k hk _ => Below.heap_alloc w.drew _ k hk⟩⟩
    · simp only [Array.size_append, List.size_toArray, size_zeroCells, hzs, hown.1, hl, ← Nat.add_mul]
      congr 1
      omega
    · simp only [Array.toList_append, List.append_assoc]
      rw [← List.append_assoc, ← hlen]
      exact List.take_left
  rcases hown.2 with ⟨rfl, A, rfl⟩ | ⟨g, cap, cur, rfl, hcap, hg, hnc, hcm, hcs, htake⟩
  · have hx : xs = [] := List.eq_nil_of_length_eq_zero (by simpa using hown.1)
    subst hx
    rcases Nat.eq_zero_or_pos m with hm | hm
    · subst hm
      have hn : news = [] := List.eq_nil_of_length_eq_zero (by simpa using hl)
      subst hn
      exact ⟨_, w, hA.zero rfl A, ⟨by simp, .inl ⟨rfl, A, rfl⟩⟩, ⟨rfl, rfl, rfl, Nat.le_refl _, fun _ _ _ => rfl⟩, Nat.le_refl _, fun b hb => .inl hb.symm⟩
    · have hgr := grown 0 (by omega) (blk (.slice A 0 0))
      have hge := grownCap_ge w m 0 e
      cases A with
      | none =>
        have hr := hA.nil hm
        simp only [Nat.zero_add, List.nil_append, Array.empty_append] at hgr ⊢
        exact ⟨_, _, hr, hgr.1, hgr.2, Nat.le_succ _, fun b hb => .inr (by rw [blk_slice (by omega)] at hb; exact (Option.some.inj hb).symm)⟩
      | some a =>
        have hr := hA.grow a 0 [] (by simp) (by simp) (by omega)
        simp only [Nat.zero_add, List.nil_append, Array.empty_append] at hgr hr ⊢
        exact ⟨_, _, hr, hgr.1, hgr.2, Nat.le_succ _, fun b hb => .inr (by rw [blk_slice (by omega)] at hb; exact (Option.some.inj hb).symm)⟩
  · by_cases hroom : n + m ≤ cap
    · have hfit : n * size + news.length ≤ cur.size := by rw [hl, hcs, ← Nat.add_mul]; exact Nat.mul_le_mul_right _ hroom
      have hr := hA.room g cap cur hg hroom hfit
      refine ⟨_, _, hr, ⟨hlen, .inr ⟨g, cap, _, rfl, hcap, setRow_heap w g cur _ e _ hg, hroom, hcm, ?_, ?_⟩⟩, ⟨rfl, rfl, rfl, by simp, fun k _ hk => setRow_other w g k _ (fun e => hk (by rw [blk_slice hcap, e]))⟩, by simp, fun b hb => .inl (by rw [blk_slice hcap] at hb ⊢; exact hb.symm)⟩
      · simp only [List.size_toArray, List.length_append, List.length_take, List.length_drop, Array.length_toList]
        omega
      · rw [htake, ← hlen]
        exact List.take_left
    · have holds : ∀ j u, xs[j]? = some u → w.cell? ((⟨g, 0, none⟩ : Addr).add j) = some u := fun j u hj => by
        rw [Addr.add_lit, Nat.zero_add, cell_of_row w g j cur e (0, 0) hg]
        rw [← htake, List.getElem?_take] at hj
        split at hj
        · simpa using hj
        · cases hj
      have hr := hA.grow ⟨g, 0, none⟩ cap xs hown.1 holds (by omega)
      have hge := grownCap_ge w (n + m) cap e
      have hgr := grown cap (by omega) (blk (.slice (some ⟨g, 0, none⟩) n cap))
      exact ⟨_, _, hr, hgr.1, hgr.2, Nat.le_succ _, fun b hb => .inr (by rw [blk_slice (by omega)] at hb; exact (Option.some.inj hb).symm)⟩

theorem run_appZ {t ty e size bytes : Nat} (he : Elem P t e size bytes) {A : Option Addr} {n m : Nat} (c : Nat) {news : List Value} (hl : news.length = m * size) (hr : Src w A m news) (h1 : ∀ u ∈ news, u.oneCell' = true) (h63 : n + m ≤ maxLen) (hbytes : (n + m) * bytes ≤ 140737488355328)
    {v : Value} {xs : List Value} (hown : rowZ w e size v n xs) : ∃ v' w', (Builtin.append_ #[t, t] ty #[v, .slice A m c]).run P w = .ok v' w' ∧ rowZ w' e size v' (n + m) (xs ++ news) ∧ w.grownBy w' (blk v) ∧ w.drawn ≤ w'.drawn ∧ (∀ b, blk v' = some b → (some b = blk v ∨ b = w.heap.size)) := by
  obtain ⟨ht, hsz, i, z, hi, hz, hsize, hby, hzs⟩ := he
  subst hsize hby
  rcases Nat.eq_zero_or_pos m with hm | hm
  · -- nothing is appended
    subst hm
    have hn : news = [] := List.eq_nil_of_length_eq_zero (by simpa using hl)
    subst hn
    have hfc : ∀ w, (Builtin.firstCells i.size 0 (.slice A 0 c)).run P w = .ok #[] w := fun w => by cases A <;> simp [Builtin.firstCells, loadCells, loadCellsFrom]
    rcases hown.2 with ⟨rfl, A', rfl⟩ | ⟨g, cap, cur, rfl, hcap, hg, hnc, hcm, hcs, htake⟩
    · refine ⟨_, w, ?_, by simpa using hown, ⟨rfl, rfl, rfl, Nat.le_refl _, fun _ _ _ => rfl⟩, Nat.le_refl _, fun b hb => .inl hb.symm⟩
      cases A' <;> simp [Builtin.append_, run_underlying ht, sizeOf, typeInfo, hi, Builtin.lenOf, hfc, storeCells]
    · refine ⟨_, w, ?_, by simpa using hown, ⟨rfl, rfl, rfl, Nat.le_refl _, fun _ _ _ => rfl⟩, Nat.le_refl _, fun b hb => .inl (by simpa using hb.symm)⟩
      simp [Builtin.append_, run_underlying ht, sizeOf, typeInfo, hi, Builtin.lenOf, hfc, hnc, storeCells]
  · obtain ⟨b, off, rfl, hc⟩ := hr hm
    have hnews : ∀ j u, news[j]? = some u → w.cell? ((⟨b, off, none⟩ : Addr).add j) = some u := fun j u hu => by rw [Addr.add_lit]; exact hc j u hu
    have hmb : m * i.bytes ≤ (n + m) * i.bytes := Nat.mul_le_mul_right _ (by omega)
    have h63' : n + m ≤ 9223372036854775807 := by simp only [maxLen] at h63; omega
    exact run_appX w hzs hown hl h63 ⟨fun h => absurd h (by omega), fun _ => run_append_nil (P := P) w t ty e i z ht hi hz _ m c news hl hnews hm (by omega) (by omega), fun g sCap cur hg hroom hfit => run_append_room (P := P) w t ty e i ht hi g n sCap cur hg _ m c news hl hnews h1 hroom hfit,
      fun b' sCap olds hlo holds hcap => run_append_grow (P := P) w t ty e i z ht hi hz b' n sCap olds hlo holds _ m c news hl hnews hcap (by omega) (growslice_fits hcap hbytes)⟩
theorem run_appS {t u ty e : Nat} (ht : P.underlying t = some (.slice e)) (hu : P.underlying u = some .string) {i : TypeInfo} (hi : P.info? e = some i) (hz : i.zero = some (.int .u8 0)) (hsize : i.size = 1) (hby : i.bytes = 1) {n : Nat} (s : ByteArray) (h63 : n + s.size ≤ maxLen) (hbytes : n + s.size ≤ 140737488355328)
    {v : Value} {xs : List Value} (hown : rowZ w e 1 v n xs) : ∃ v' w', (Builtin.append_ #[t, u] ty #[v, .string s]).run P w = .ok v' w' ∧ rowZ w' e 1 v' (n + s.size) (xs ++ Go.Lib.strCells s) ∧ w.grownBy w' (blk v) ∧ w.drawn ≤ w'.drawn ∧ (∀ b, blk v' = some b → (some b = blk v ∨ b = w.heap.size)) := by
  have hl : (Go.Lib.strCells s).length = s.size * 1 := by rw [Go.Lib.strCells_length, Nat.mul_one]
  have h63' : n + s.size ≤ 9223372036854775807 := by simp only [maxLen] at h63; omega
  have hzc : (Value.int .u8 0).cells.size = 1 := rfl
  refine run_appX w hzc hown hl h63 ⟨fun h A => ?_, fun h => ?_, fun g sCap cur hg hroom hfit => ?_, fun b' sCap olds hlo holds hcap => ?_⟩
  · have hf := Go.Lib.run_firstCells_string (P := P) w 1 s
    rw [h] at hf
    have : Go.Lib.strCells s = [] := List.eq_nil_of_length_eq_zero (by omega)
    rw [this] at hf
    cases A <;> simp [Builtin.append_, run_underlying ht, run_underlying hu, sizeOf, typeInfo, hi, hsize, Builtin.lenOf, h, hf, storeCells]
  · have := run_append_nil_string (P := P) w t u ty e i _ ht hu hi hz s h (by omega) (by rw [hby]; omega)
    rw [this]
    congr 4
    apply Array.ext'
    simp [Go.Lib.strCells]
  · have := Go.Lib.run_append_room_string (P := P) w t u ty e i ht hu hi hsize g n sCap cur hg s hroom (by rw [Go.Lib.strCells_length] at hfit; omega)
    rw [this]
    simp [Go.Lib.strCells_length]
  · exact Go.Lib.run_append_grow_string (P := P) w t u ty e i _ ht hu hi hz b' n sCap olds (by rw [hsize]; exact hlo) holds s hcap (by omega) (growslice_fits hcap (by rw [hby]; omega))
end
inductive FV where
  | int (k : IntKind) (n : Int)
  | bool (b : Bool)
  | str (s : ByteArray)
  | sl (cs : List FV) (n : Nat)

mutual
def FV.Rep (Z : Nat → Prop) (w : World) : FV → Value → Prop
  | .int k n, v => v = .int k n
  | .bool b, v => v = .bool b
  | .str s, v => v = .string s ∧ s.size ≤ maxLen
  | .sl cs n, v => ∃ A c, v = .slice A n c ∧ n ≤ c ∧ c ≤ maxLen ∧ (cs = [] ∨ ∃ b off, A = some ⟨b, off, none⟩ ∧ Z b ∧ FV.RepAt Z w b off cs)
def FV.RepAt (Z : Nat → Prop) (w : World) (b : Nat) : Nat → List FV → Prop
  | _, [] => True
  | off, c :: cs => (∃ u, w.cell? ⟨b, off, none⟩ = some u ∧ FV.Rep Z w c u) ∧ FV.RepAt Z w b (off + 1) cs
end

inductive AV where
  | any
  | bit
  | fv (v : FV)
  | nil
  | fptr (cs : List FV)
  | optr (g : Nat) (off : Nat)
  | osl (g : Nat)
  | osb (g lo n s : Nat)
  | fn (f : FuncId) (caps : List AV)
  | agg (cs : List AV)
  | tup (vs : List AV)
  | whn (c : Prop) (v : AV)

mutual
def AV.Rep (σ : Nat → Value) (Z : Nat → Prop) (w : World) : AV → Value → Prop
  | .any, _ => True
  | .bit, v => ∃ b, v = .bool b
  | .fv f, v => f.Rep Z w v
  | .nil, v => v = .slice none 0 0
  | .fptr cs, v => ∃ b off, v = .pointer (some ⟨b, off, none⟩) ∧ Z b ∧ FV.RepAt Z w b off cs
  | .optr g off, v => ∃ b, blk (σ g) = some b ∧ v = .pointer (some ⟨b, off, none⟩)
  | .osl g, v => v = σ g ∧ ∃ A n c, v = .slice A n c
  | .osb g lo n s, v => ∃ A c A0 N cap, v = .slice A n c ∧ σ g = .slice A0 N cap ∧ lo + c = cap ∧ n ≤ c ∧ (lo = 0 → A = A0) ∧ (0 < c → ∃ b, A0 = some ⟨b, 0, none⟩ ∧ A = some ⟨b, lo * s, none⟩)
  | .fn f caps, v => ∃ cs : Array Value, v = .func (.func f) #[] cs ∧ AV.RepL σ Z w caps cs.toList
  | .agg cs, v => ∃ arr : Array Value, v = .agg arr ∧ AV.RepL σ Z w cs arr.toList
  | .tup vs, v => ∃ arr : Array Value, v = .tuple arr ∧ AV.RepL σ Z w vs arr.toList
  | .whn c a, v => (c → AV.Rep σ Z w a v) ∧ (¬ c → v = undef)
def AV.RepL (σ : Nat → Value) (Z : Nat → Prop) (w : World) : List AV → List Value → Prop
  | [], [] => True
  | a :: as, v :: vs => AV.Rep σ Z w a v ∧ AV.RepL σ Z w as vs
  | _, _ => False
end

def Keeps (Z : Nat → Prop) (w w' : World) : Prop := ∀ b, Z b → w'.heap[b]? = w.heap[b]?
theorem Keeps.cell {Z : Nat → Prop} {w w' : World} (h : Keeps Z w w') {b off : Nat} (hb : Z b) : w'.cell? ⟨b, off, none⟩ = w.cell? ⟨b, off, none⟩ := World.cell?_of_block (h b hb)

mutual
theorem FV.Rep.mono {Z Z' : Nat → Prop} {w w' : World} (hk : Keeps Z w w') (hz : ∀ b, Z b → Z' b) : ∀ {f : FV} {v : Value}, f.Rep Z w v → f.Rep Z' w' v
  | .int _ _, _, h => h
  | .bool _, _, h => h
  | .str _, _, h => h
  | .sl _ _, v, h => by
    obtain ⟨A, c, h1, h2, h3, h4⟩ := h
    refine ⟨A, c, h1, h2, h3, h4.imp id ?_⟩
    rintro ⟨b, off, h5, h6, h7⟩
    exact ⟨b, off, h5, hz b h6, FV.RepAt.mono hk hz h6 h7⟩
theorem FV.RepAt.mono {Z Z' : Nat → Prop} {w w' : World} (hk : Keeps Z w w') (hz : ∀ b, Z b → Z' b) {b : Nat} (hb : Z b) : ∀ {cs : List FV} {off : Nat}, FV.RepAt Z w b off cs → FV.RepAt Z' w' b off cs
  | [], _, _ => trivial
  | _ :: _, _, ⟨⟨u, h1, h2⟩, h3⟩ => ⟨⟨u, (hk.cell hb).trans h1, FV.Rep.mono hk hz h2⟩, FV.RepAt.mono hk hz hb h3⟩
end

mutual
def AV.refs (g : Nat) : AV → Bool
  | .optr h _ => Nat.beq h g
  | .osl h => Nat.beq h g
  | .osb h _ _ _ => Nat.beq h g
  | .fn _ cs => AV.refsL g cs
  | .agg cs => AV.refsL g cs
  | .tup cs => AV.refsL g cs
  | .whn _ a => AV.refs g a
  | _ => false
def AV.refsL (g : Nat) : List AV → Bool
  | [] => false
  | a :: as => AV.refs g a || AV.refsL g as
end

mutual
theorem AV.Rep.mono {σ σ' : Nat → Value} {Z Z' : Nat → Prop} {w w' : World} (hk : Keeps Z w w') (hz : ∀ b, Z b → Z' b) : ∀ {a : AV} {v : Value}, (∀ g, a.refs g = true → σ' g = σ g) → a.Rep σ Z w v → a.Rep σ' Z' w' v
  | .any, _, _, h => h
  | .bit, _, _, h => h
  | .fv _, _, _, h => FV.Rep.mono hk hz h
  | .nil, _, _, h => h
  | .fptr _, _, _, ⟨b, off, h1, h2, h3⟩ => ⟨b, off, h1, hz b h2, FV.RepAt.mono hk hz h2 h3⟩
  | .optr g off, _, hs, ⟨b, h1, h2⟩ => ⟨b, by rw [hs g (by simp [AV.refs])]; exact h1, h2⟩
  | .osl g, _, hs, h => ⟨by rw [hs g (by simp [AV.refs])]; exact h.1, h.2⟩
  | .osb g _ _ _, _, hs, ⟨A, c, A0, N, cap, h1, h2, h3⟩ => ⟨A, c, A0, N, cap, h1, by rw [hs g (by simp [AV.refs])]; exact h2, h3⟩
  | .fn _ caps, _, hs, ⟨cs, h1, h2⟩ => ⟨cs, h1, AV.RepL.mono hk hz (fun g hg => hs g (by simpa [AV.refs] using hg)) h2⟩
  | .agg _, _, hs, ⟨cs, h1, h2⟩ => ⟨cs, h1, AV.RepL.mono hk hz (fun g hg => hs g (by simpa [AV.refs] using hg)) h2⟩
  | .tup _, _, hs, ⟨cs, h1, h2⟩ => ⟨cs, h1, AV.RepL.mono hk hz (fun g hg => hs g (by simpa [AV.refs] using hg)) h2⟩
  | .whn _ _, _, hs, h => ⟨fun hc => AV.Rep.mono hk hz (fun g hg => hs g (by simpa [AV.refs] using hg)) (h.1 hc), h.2⟩
theorem AV.RepL.mono {σ σ' : Nat → Value} {Z Z' : Nat → Prop} {w w' : World} (hk : Keeps Z w w') (hz : ∀ b, Z b → Z' b) : ∀ {as : List AV} {vs : List Value}, (∀ g, AV.refsL g as = true → σ' g = σ g) → AV.RepL σ Z w as vs → AV.RepL σ' Z' w' as vs
  | [], [], _, _ => trivial
  | a :: as, v :: vs, hs, ⟨h1, h2⟩ => ⟨AV.Rep.mono hk hz (fun g hg => hs g (by simp [AV.refsL, hg])) h1, AV.RepL.mono hk hz (fun g hg => hs g (by simp [AV.refsL, hg])) h2⟩
  | [], _ :: _, _, h => h.elim
  | _ :: _, [], _, h => h.elim
end

theorem AV.RepL.length {σ : Nat → Value} {Z : Nat → Prop} {w : World} : ∀ {as : List AV} {vs : List Value}, AV.RepL σ Z w as vs → vs.length = as.length
  | [], [], _ => rfl
  | _ :: _, _ :: _, h => by simp [AV.RepL.length h.2]
  | [], _ :: _, h => h.elim
  | _ :: _, [], h => h.elim
theorem AV.RepL.get {σ : Nat → Value} {Z : Nat → Prop} {w : World} : ∀ {as : List AV} {vs : List Value} {i : Nat} {a : AV}, AV.RepL σ Z w as vs → as[i]? = some a → ∃ v, vs[i]? = some v ∧ a.Rep σ Z w v
  | a :: as, v :: vs, 0, _, h, e => by obtain rfl := Option.some.inj e; exact ⟨v, rfl, h.1⟩
  | a :: as, v :: vs, i + 1, _, h, e => AV.RepL.get h.2 (i := i) (by simpa using e)
  | [], [], _, _, _, e => by simp at e
  | [], _ :: _, _, _, h, _ => h.elim
  | _ :: _, [], _, _, h, _ => h.elim
theorem AV.RepL.append {σ : Nat → Value} {Z : Nat → Prop} {w : World} : ∀ {as : List AV} {vs : List Value} {bs : List AV} {us : List Value}, AV.RepL σ Z w as vs → AV.RepL σ Z w bs us → AV.RepL σ Z w (as ++ bs) (vs ++ us)
  | [], [], _, _, _, h => h
  | _ :: _, _ :: _, _, _, h, h' => ⟨h.1, AV.RepL.append h.2 h'⟩
  | [], _ :: _, _, _, h, _ => h.elim
  | _ :: _, [], _, _, h, _ => h.elim
theorem AV.RepL.drop {σ : Nat → Value} {Z : Nat → Prop} {w : World} : ∀ (n : Nat) {as : List AV} {vs : List Value}, AV.RepL σ Z w as vs → AV.RepL σ Z w (as.drop n) (vs.drop n)
  | 0, _, _, h => h
  | _ + 1, [], [], _ => trivial
  | n + 1, _ :: _, _ :: _, h => AV.RepL.drop n h.2
  | _ + 1, [], _ :: _, h => h.elim
  | _ + 1, _ :: _, [], h => h.elim
theorem AV.RepL.take {σ : Nat → Value} {Z : Nat → Prop} {w : World} : ∀ (n : Nat) {as : List AV} {vs : List Value}, AV.RepL σ Z w as vs → AV.RepL σ Z w (as.take n) (vs.take n)
  | 0, _, _, _ => trivial
  | _ + 1, [], [], _ => trivial
  | n + 1, _ :: _, _ :: _, h => ⟨h.1, AV.RepL.take n h.2⟩
  | _ + 1, [], _ :: _, h => h.elim
  | _ + 1, _ :: _, [], h => h.elim
theorem AV.RepL.set {σ : Nat → Value} {Z : Nat → Prop} {w : World} : ∀ (n : Nat) {as : List AV} {vs : List Value} {a : AV} {v : Value}, AV.RepL σ Z w as vs → a.Rep σ Z w v → AV.RepL σ Z w (as.set n a) (vs.set n v)
  | _, [], [], _, _, _, _ => trivial
  | 0, _ :: _, _ :: _, _, _, h, h' => ⟨h', h.2⟩
  | n + 1, _ :: _, _ :: _, _, _, h, h' => ⟨h.1, AV.RepL.set n h.2 h'⟩
  | _, [], _ :: _, _, _, h, _ => h.elim
  | _, _ :: _, [], _, _, h, _ => h.elim

theorem FV.RepAt.toL {σ : Nat → Value} {Z : Nat → Prop} {w : World} {b : Nat} : ∀ {cs : List FV} {off : Nat}, FV.RepAt Z w b off cs → ∃ us : List Value, us.length = cs.length ∧ (∀ j u, us[j]? = some u → w.cell? ⟨b, off + j, none⟩ = some u) ∧ AV.RepL σ Z w (cs.map .fv) us
  | [], _, _ => ⟨[], rfl, by simp, trivial⟩
  | c :: cs, off, ⟨⟨u, h1, h2⟩, h3⟩ => by
    obtain ⟨us, e, hc, hr⟩ := FV.RepAt.toL h3
    refine ⟨u :: us, by simp [e], fun j x hj => ?_, h2, hr⟩
    cases j with
    | zero => obtain rfl := Option.some.inj hj; exact h1
    | succ j =>
      have := hc j x (by simpa using hj)
      rw [show off + (j + 1) = off + 1 + j from by omega]
      exact this
theorem FV.RepAt.ofL {σ : Nat → Value} {Z : Nat → Prop} {w : World} {b : Nat} : ∀ {cs : List FV} {off : Nat} {us : List Value}, AV.RepL σ Z w (cs.map .fv) us → (∀ j u, us[j]? = some u → w.cell? ⟨b, off + j, none⟩ = some u) → FV.RepAt Z w b off cs
  | [], _, _, _, _ => trivial
  | c :: cs, off, u :: us, h, hc => ⟨⟨u, hc 0 u rfl, h.1⟩, FV.RepAt.ofL h.2 fun j x hj => by
      rw [show off + 1 + j = off + (j + 1) from by omega]
      exact hc (j + 1) x (by simpa using hj)⟩
  | _ :: _, _, [], h, _ => h.elim
theorem FV.RepAt.drop {Z : Nat → Prop} {w : World} {b : Nat} : ∀ (n : Nat) {cs : List FV} {off : Nat}, FV.RepAt Z w b off cs → FV.RepAt Z w b (off + n) (cs.drop n)
  | 0, _, _, h => h
  | n + 1, [], _, _ => trivial
  | n + 1, _ :: cs, off, h => by
    have := FV.RepAt.drop n h.2
    rw [show off + (n + 1) = off + 1 + n from by omega]
    exact this
theorem FV.RepAt.take {Z : Nat → Prop} {w : World} {b : Nat} : ∀ (n : Nat) {cs : List FV} {off : Nat}, FV.RepAt Z w b off cs → FV.RepAt Z w b off (cs.take n)
  | 0, _, _, _ => trivial
  | n + 1, [], _, _ => trivial
  | n + 1, _ :: _, _, h => ⟨h.1, FV.RepAt.take n h.2⟩

def AV.one : AV → Bool
  | .fv _ | .nil | .fptr _ | .optr _ _ | .osl _ | .osb _ _ _ _ | .fn _ _ => true
  | _ => false
theorem FV.Rep.one {Z : Nat → Prop} {w : World} : ∀ {f : FV} {v : Value}, f.Rep Z w v → v.oneCell' = true
  | .int _ _, _, h => by rw [show _ = _ from h]; rfl
  | .bool _, _, h => by rw [show _ = _ from h]; rfl
  | .str _, _, h => by rw [h.1]; rfl
  | .sl _ _, _, ⟨_, _, h, _⟩ => by rw [h]; rfl

inductive OB where
  | box (t : TypeId) (cs : List AV)
  | row (t : TypeId) (size n : Nat) (cs : List AV)
def OB.cells : OB → List AV
  | .box _ cs => cs
  | .row _ _ _ cs => cs
def OB.Rep (σ : Nat → Value) (Z : Nat → Prop) (w : World) (h : Value) : OB → Prop
  | .box t cs => ∃ b arr, h = .pointer (some ⟨b, 0, none⟩) ∧ w.heap[b]? = some (.cells arr t (0, 0)) ∧ AV.RepL σ Z w cs arr.toList
  | .row t size n cs => ∃ xs, rowZ w t size h n xs ∧ AV.RepL σ Z w cs xs

def lk {α : Type} : List (Nat × α) → Nat → Option α
  | [], _ => none
  | (k, x) :: l, i => match Nat.beq k i with
    | true => some x
    | false => lk l i
theorem lk_hit {α : Type} (l : List (Nat × α)) (k : Nat) (x : α) : lk ((k, x) :: l) k = some x := by simp [lk]
theorem lk_skip {α : Type} (l : List (Nat × α)) {k i : Nat} (x : α) (h : k ≠ i) : lk ((k, x) :: l) i = lk l i := by
  have : Nat.beq k i = false := by cases e : Nat.beq k i with
    | false => rfl
    | true => exact absurd (Nat.eq_of_beq_eq_true e) h
  simp [lk, this]
theorem lk_cons {α : Type} (l : List (Nat × α)) (k i : Nat) (x : α) : lk ((k, x) :: l) i = if k = i then some x else lk l i := by
  by_cases h : k = i
  · subst h; simp [lk_hit]
  · rw [lk_skip _ _ h, if_neg h]

abbrev Own := List (Nat × OB)
structure St where
  t : List (Nat × AV)
  own : Own

structure Ctx where
  w0 : World
  O0 : Nat → Prop
  Z0 : Nat → Prop
  σ0 : Nat → Value

structure Inv (C : Ctx) (own : Own) (σ : Nat → Value) (Z : Nat → Prop) (w : World) : Prop where
  os : w.os = C.w0.os
  tape : w.tape = C.w0.tape
  output : w.output = C.w0.output
  size : C.w0.heap.size ≤ w.heap.size
  drawn : C.w0.drawn ≤ w.drawn
  frame : ∀ b, b < C.w0.heap.size → ¬ C.O0 b → w.heap[b]? = C.w0.heap[b]?
  zlt : ∀ b, Z b → b < w.heap.size
  zold : ∀ b, C.Z0 b → Z b
  znew : ∀ b, Z b → C.Z0 b ∨ C.O0 b ∨ C.w0.heap.size ≤ b
  has : ∀ g ob, lk own g = some ob → ob.Rep σ Z w (σ g)
  mine : ∀ g ob b, lk own g = some ob → blk (σ g) = some b → (C.O0 b ∨ C.w0.heap.size ≤ b) ∧ ¬ Z b ∧ b < w.heap.size
  inj : ∀ g g' ob ob' b, lk own g = some ob → lk own g' = some ob' → blk (σ g) = some b → blk (σ g') = some b → g = g'
  keep : ∀ g, 1000 ≤ g → σ g = C.σ0 g

def Temps (σ : Nat → Value) (Z : Nat → Prop) (w : World) (t : List (Nat × AV)) (tm : Array Value) : Prop :=
  ∀ i a, lk t i = some a → a.Rep σ Z w (tm.getD i undef)

def Rel (n : Nat) (C : Ctx) (st : St) (a : Act) (w : World) : Prop :=
  a.defers = [] ∧ a.tmps.size = n ∧ ∃ σ Z, Inv C st.own σ Z w ∧ Temps σ Z w st.t a.tmps
def St.put (st : St) (d : Option Nat) (r : AV) : St :=
  match d with
  | some d => { st with t := (d, r) :: st.t }
  | none => st
section
variable {C : Ctx} {own : Own} {σ : Nat → Value} {Z : Nat → Prop} {w : World}

theorem Temps.put {t : List (Nat × AV)} {tm : Array Value} (h : Temps σ Z w t tm) {d : Nat} (hd : d < tm.size) {r : AV} {v : Value} (hr : r.Rep σ Z w v) : Temps σ Z w ((d, r) :: t) (tm.setIfInBounds d v) := by
  intro i a hi
  rw [lk_cons] at hi
  by_cases e : d = i
  · subst e
    rw [if_pos rfl] at hi
    obtain rfl := Option.some.inj hi
    simpa [Array.getD, hd] using hr
  · rw [if_neg e] at hi
    have := h i a hi
    simpa [Array.getD_eq_getD_getElem?, Array.getElem?_setIfInBounds_ne e] using this
theorem Temps.put_any {t : List (Nat × AV)} {tm : Array Value} (h : Temps σ Z w t tm) {d : Nat} (v : Value) : Temps σ Z w ((d, .any) :: t) (tm.setIfInBounds d v) := by
  intro i a hi
  rw [lk_cons] at hi
  by_cases e : d = i
  · subst e
    rw [if_pos rfl] at hi
    obtain rfl := Option.some.inj hi
    trivial
  · rw [if_neg e] at hi
    have := h i a hi
    simpa [Array.getD_eq_getD_getElem?, Array.getElem?_setIfInBounds_ne e] using this

def noRefT (g : Nat) : List (Nat × AV) → Bool
  | [] => true
  | (_, a) :: l => !a.refs g && noRefT g l
def noRefH (g : Nat) : Own → Bool
  | [] => true
  | (_, ob) :: l => !AV.refsL g ob.cells && noRefH g l
theorem noRefT_lk {g : Nat} : ∀ {t : List (Nat × AV)}, noRefT g t = true → ∀ {i : Nat} {a : AV}, lk t i = some a → a.refs g = false
  | [], _, _, _, h => by simp [lk] at h
  | (k, x) :: l, hn, i, a, h => by
    simp only [noRefT, Bool.and_eq_true, Bool.not_eq_true'] at hn
    rw [lk_cons] at h
    split at h
    · obtain rfl := Option.some.inj h; exact hn.1
    · exact noRefT_lk hn.2 h
theorem noRefH_lk {g : Nat} : ∀ {t : Own}, noRefH g t = true → ∀ {i : Nat} {ob : OB}, lk t i = some ob → AV.refsL g ob.cells = false
  | [], _, _, _, h => by simp [lk] at h
  | (k, x) :: l, hn, i, a, h => by
    simp only [noRefH, Bool.and_eq_true, Bool.not_eq_true'] at hn
    rw [lk_cons] at h
    split at h
    · obtain rfl := Option.some.inj h; exact hn.1
    · exact noRefH_lk hn.2 h

def NoT (g : Nat) (t : List (Nat × AV)) : Prop := ∀ i a, lk t i = some a → a.refs g = false
def NoH (g : Nat) (t : Own) : Prop := ∀ i ob, lk t i = some ob → AV.refsL g ob.cells = false
theorem noT_of {g : Nat} {t : List (Nat × AV)} (h : noRefT g t = true) : NoT g t := fun _ _ h' => noRefT_lk h h'
theorem noH_of {g : Nat} {t : Own} (h : noRefH g t = true) : NoH g t := fun _ _ h' => noRefH_lk h h'
theorem noH_nil (g : Nat) : NoH g [] := fun i ob h => by simp [lk] at h
theorem noH_one {g d : Nat} {ob : OB} (h : AV.refsL g ob.cells = false) : NoH g [(d, ob)] := fun i x hx => by
  rw [lk_cons] at hx
  split at hx
  · obtain rfl := Option.some.inj hx; exact h
  · simp [lk] at hx
def upd (σ : Nat → Value) (d : Nat) (h : Value) : Nat → Value := fun g => if g = d then h else σ g
theorem upd_hit (σ : Nat → Value) (d : Nat) (h : Value) : upd σ d h d = h := if_pos rfl
theorem upd_skip (σ : Nat → Value) {d g : Nat} (h : Value) (e : g ≠ d) : upd σ d h g = σ g := if_neg e

theorem refs_upd {a : AV} {d : Nat} (h : Value) (hn : a.refs d = false) : ∀ g, a.refs g = true → upd σ d h g = σ g := fun g hg => upd_skip σ h (fun e => by subst e; rw [hn] at hg; cases hg)
theorem refsL_upd {a : List AV} {d : Nat} (h : Value) (hn : AV.refsL d a = false) : ∀ g, AV.refsL g a = true → upd σ d h g = σ g := fun g hg => upd_skip σ h (fun e => by subst e; rw [hn] at hg; cases hg)

theorem Temps.mono {σ' : Nat → Value} {Z' : Nat → Prop} {w' : World} {t : List (Nat × AV)} {tm : Array Value} (h : Temps σ Z w t tm) (hk : Keeps Z w w') (hz : ∀ b, Z b → Z' b) (hs : ∀ i a, lk t i = some a → ∀ g, a.refs g = true → σ' g = σ g) : Temps σ' Z' w' t tm :=
  fun i a hi => AV.Rep.mono hk hz (hs i a hi) (h i a hi)

theorem OB.Rep.mono {σ' : Nat → Value} {Z' : Nat → Prop} {w' : World} {ob : OB} {h : Value} (hr : ob.Rep σ Z w h) (hk : Keeps Z w w') (hz : ∀ b, Z b → Z' b) (hs : ∀ g, AV.refsL g ob.cells = true → σ' g = σ g) (hb : ∀ b, blk h = some b → w'.heap[b]? = w.heap[b]?) : ob.Rep σ' Z' w' h := by
  cases ob with
  | box t cs =>
    obtain ⟨b, arr, rfl, h2, h3⟩ := hr
    exact ⟨b, arr, rfl, (hb b rfl).trans h2, AV.RepL.mono hk hz hs h3⟩
  | row t size n cs =>
    obtain ⟨xs, h2, h3⟩ := hr
    refine ⟨xs, ⟨h2.1, ?_⟩, AV.RepL.mono hk hz hs h3⟩
    rcases h2.2 with h4 | ⟨g, cap, cur, rfl, h5, h6, h7⟩
    · exact .inl h4
    · exact .inr ⟨g, cap, cur, rfl, h5, (hb g (blk_slice h5)).trans h6, h7⟩

theorem OB.Rep.lt {ob : OB} {h : Value} (hr : ob.Rep σ Z w h) {b : Nat} (hb : blk h = some b) : b < w.heap.size := by
  cases ob with
  | box t cs =>
    obtain ⟨b', arr, rfl, h2, h3⟩ := hr
    obtain rfl : b' = b := by simpa [blk] using hb
    exact (Array.getElem?_eq_some_iff.1 h2).1
  | row t size n cs =>
    obtain ⟨xs, h2, h3⟩ := hr
    rcases h2.2 with ⟨_, A, rfl⟩ | ⟨g, cap, cur, rfl, h5, h6, h7⟩
    · rw [blk_zero] at hb; cases hb
    · rw [blk_slice h5] at hb
      obtain rfl := Option.some.inj hb
      exact (Array.getElem?_eq_some_iff.1 h6).1

theorem alloc_keeps (w : World) (o : Obj) (hz : ∀ b, Z b → b < w.heap.size) : Keeps Z w (w.alloc o) := fun b hb => Below.heap_alloc w o b (hz b hb)

theorem Inv.drew (h : Inv C own σ Z w) : Inv C own σ Z w.drew :=
  ⟨h.os, h.tape, h.output, h.size, Nat.le_succ_of_le h.drawn, h.frame, h.zlt, h.zold, h.znew, fun g ob hg => (h.has g ob hg).mono (fun _ _ => rfl) (fun _ hb => hb) (fun _ _ => rfl) (fun _ _ => rfl), h.mine, h.inj, h.keep⟩
theorem Temps.drew {t : List (Nat × AV)} {tm : Array Value} (h : Temps σ Z w t tm) : Temps σ Z w.drew t tm := h.mono (fun _ _ => rfl) (fun _ hb => hb) (fun _ _ _ _ _ => rfl)

theorem Inv.alloc (h : Inv C own σ Z w) {d : Nat} {hd : Value} {ob : OB} {o : Obj} (hb : blk hd = some w.heap.size) (hlow : d < 1000) (hr : ob.Rep (upd σ d hd) Z (w.alloc o) hd)
    (hH : NoH d own) : Inv C ((d, ob) :: own) (upd σ d hd) Z (w.alloc o) := by
  have hkeep := alloc_keeps w o h.zlt
  refine ⟨h.os, h.tape, h.output, by have := h.size; simp; omega, h.drawn, fun b hb1 hb2 => ?_, fun b hb1 => ?_, h.zold, h.znew, fun g x hg => ?_, fun g x b hg hgb => ?_, fun g g' x x' b hg hg' hgb hgb' => ?_, fun g hg => ?_⟩
  · exact (Below.heap_alloc w o b (by have := h.size; omega)).trans (h.frame b hb1 hb2)
  · have := h.zlt b hb1; simp; omega
  · rw [lk_cons] at hg
    split at hg
    · rename_i e
      subst e
      obtain rfl := Option.some.inj hg
      rw [upd_hit]
      exact hr
    · rename_i e
      rw [upd_skip _ _ (Ne.symm e)]
      exact (h.has g x hg).mono hkeep (fun _ hb => hb) (refsL_upd hd (hH _ _ hg)) (fun b hb' => Below.heap_alloc w o b (h.mine g x b hg hb').2.2)
  · rw [lk_cons] at hg
    split at hg
    · rename_i e
      subst e
      rw [upd_hit, hb] at hgb
      obtain rfl := Option.some.inj hgb
      exact ⟨.inr h.size, fun hz => by have := h.zlt _ hz; omega, by simp⟩
    · rename_i e
      rw [upd_skip _ _ (Ne.symm e)] at hgb
      have := h.mine g x b hg hgb
      exact ⟨this.1, this.2.1, by have := this.2.2; simp; omega⟩
  · rw [lk_cons] at hg hg'
    split at hg
    · rename_i e
      subst e
      split at hg'
      · rename_i e'; exact e'
      · rename_i e'
        rw [upd_hit, hb] at hgb
        rw [upd_skip _ _ (Ne.symm e')] at hgb'
        obtain rfl := Option.some.inj hgb
        have := (h.mine _ _ _ hg' hgb').2.2
        omega
    · rename_i e
      rw [upd_skip _ _ (Ne.symm e)] at hgb
      split at hg'
      · rename_i e'
        subst e'
        rw [upd_hit, hb] at hgb'
        obtain rfl := Option.some.inj hgb'
        have := (h.mine _ _ _ hg hgb).2.2
        omega
      · rename_i e'
        rw [upd_skip _ _ (Ne.symm e')] at hgb'
        exact h.inj g g' x x' b hg hg' hgb hgb'
  · rw [upd_skip _ _ (by omega)]
    exact h.keep g hg

theorem Inv.zero (h : Inv C own σ Z w) {d : Nat} {hd : Value} {ob : OB} {o : Obj} (hb : blk hd = none) (hlow : d < 1000) (hr : ob.Rep (upd σ d hd) Z (w.alloc o) hd)
    (hH : NoH d own) : Inv C ((d, ob) :: own) (upd σ d hd) Z (w.alloc o) := by
  have hkeep := alloc_keeps w o h.zlt
  refine ⟨h.os, h.tape, h.output, by have := h.size; simp; omega, h.drawn, fun b hb1 hb2 => ?_, fun b hb1 => ?_, h.zold, h.znew, fun g x hg => ?_, fun g x b hg hgb => ?_, fun g g' x x' b hg hg' hgb hgb' => ?_, fun g hg => ?_⟩
  · exact (Below.heap_alloc w o b (by have := h.size; omega)).trans (h.frame b hb1 hb2)
  · have := h.zlt b hb1; simp; omega
  · rw [lk_cons] at hg
    split at hg
    · rename_i e
      subst e
      obtain rfl := Option.some.inj hg
      rw [upd_hit]
      exact hr
    · rename_i e
      rw [upd_skip _ _ (Ne.symm e)]
      exact (h.has g x hg).mono hkeep (fun _ hb => hb) (refsL_upd hd (hH _ _ hg)) (fun b hb' => Below.heap_alloc w o b (h.mine g x b hg hb').2.2)
  · rw [lk_cons] at hg
    split at hg
    · rename_i e
      subst e
      rw [upd_hit, hb] at hgb
      cases hgb
    · rename_i e
      rw [upd_skip _ _ (Ne.symm e)] at hgb
      have := h.mine g x b hg hgb
      exact ⟨this.1, this.2.1, by have := this.2.2; simp; omega⟩
  · have key : ∀ i y, lk ((d, ob) :: own) i = some y → ∀ k, blk (upd σ d hd i) = some k → lk own i = some y ∧ blk (σ i) = some k := by
      intro i y hi k hk
      rw [lk_cons] at hi
      split at hi
      · rename_i e; subst e; rw [upd_hit, hb] at hk; cases hk
      · rename_i e; rw [upd_skip _ _ (Ne.symm e)] at hk; exact ⟨hi, hk⟩
    exact h.inj g g' x x' b (key g x hg b hgb).1 (key g' x' hg' b hgb').1 (key g x hg b hgb).2 (key g' x' hg' b hgb').2
  · rw [upd_skip _ _ (by omega)]
    exact h.keep g hg

theorem Inv.allocZ (h : Inv C own σ Z w) (o : Obj) : Inv C own σ (fun b => Z b ∨ b = w.heap.size) (w.alloc o) := by
  have hkeep := alloc_keeps w o h.zlt
  refine ⟨h.os, h.tape, h.output, by have := h.size; simp; omega, h.drawn, fun b hb1 hb2 => ?_, fun b hb1 => ?_, fun b hb => .inl (h.zold b hb), fun b hb => ?_, fun g x hg => ?_, fun g x b hg hgb => ?_, h.inj, h.keep⟩
  · exact (Below.heap_alloc w o b (by have := h.size; omega)).trans (h.frame b hb1 hb2)
  · rcases hb1 with hb1 | hb1
    · have := h.zlt b hb1; simp; omega
    · subst hb1; simp
  · rcases hb with hb | hb
    · exact h.znew b hb
    · subst hb; exact .inr (.inr h.size)
  · exact (h.has g x hg).mono hkeep (fun _ hb => .inl hb) (fun _ _ => rfl) (fun b hb' => Below.heap_alloc w o b (h.mine g x b hg hb').2.2)
  · have := h.mine g x b hg hgb
    refine ⟨this.1, fun hz => ?_, by have := this.2.2; simp; omega⟩
    rcases hz with hz | hz
    · exact this.2.1 hz
    · have := this.2.2; omega

theorem Inv.name (h : Inv C own σ Z w) {d : Nat} {hd : Value} {ob : OB} (hb : blk hd = none) (hlow : d < 1000) (hr : ob.Rep (upd σ d hd) Z w hd)
    (hH : NoH d own) : Inv C ((d, ob) :: own) (upd σ d hd) Z w := by
  have key : ∀ i y, lk ((d, ob) :: own) i = some y → ∀ k, blk (upd σ d hd i) = some k → lk own i = some y ∧ blk (σ i) = some k := by
    intro i y hi k hk
    rw [lk_cons] at hi
    split at hi
    · rename_i e; subst e; rw [upd_hit, hb] at hk; cases hk
    · rename_i e; rw [upd_skip _ _ (Ne.symm e)] at hk; exact ⟨hi, hk⟩
  refine ⟨h.os, h.tape, h.output, h.size, h.drawn, h.frame, h.zlt, h.zold, h.znew, fun g x hg => ?_, fun g x b hg hgb => h.mine g x b (key g x hg b hgb).1 (key g x hg b hgb).2, fun g g' x x' b hg hg' hgb hgb' => h.inj g g' x x' b (key g x hg b hgb).1 (key g' x' hg' b hgb').1 (key g x hg b hgb).2 (key g' x' hg' b hgb').2, fun g hg => ?_⟩
  · rw [lk_cons] at hg
    split at hg
    · rename_i e
      subst e
      obtain rfl := Option.some.inj hg
      rw [upd_hit]
      exact hr
    · rename_i e
      rw [upd_skip _ _ (Ne.symm e)]
      exact (h.has g x hg).mono (fun _ _ => rfl) (fun _ hb => hb) (refsL_upd hd (hH _ _ hg)) (fun _ _ => rfl)
  · rw [upd_skip _ _ (by omega)]
    exact h.keep g hg

theorem Inv.write (h : Inv C own σ Z w) {g : Nat} {ob ob' : OB} {w' : World} {b : Nat} (hg : lk own g = some ob) (hb : blk (σ g) = some b)
    (hos : w'.os = w.os) (htape : w'.tape = w.tape) (hout : w'.output = w.output) (hdr : w'.drawn = w.drawn) (hsz : w'.heap.size = w.heap.size) (hother : ∀ k, k ≠ b → w'.heap[k]? = w.heap[k]?)
    (hr : ob'.Rep σ Z w' (σ g)) : Inv C ((g, ob') :: own) σ Z w' := by
  have hm := h.mine g ob b hg hb
  have hkeep : Keeps Z w w' := fun k hk => hother k (fun e => hm.2.1 (e ▸ hk))
  refine ⟨hos.trans h.os, htape.trans h.tape, hout.trans h.output, by rw [hsz]; exact h.size, by rw [hdr]; exact h.drawn, fun k hk1 hk2 => ?_, fun k hk => by rw [hsz]; exact h.zlt k hk, h.zold, h.znew, fun i x hi => ?_, fun i x k hi hik => ?_, fun i i' x x' k hi hi' hik hik' => ?_, h.keep⟩
  · refine (hother k (fun e => ?_)).trans (h.frame k hk1 hk2)
    subst e
    rcases hm.1 with h1 | h1
    · exact hk2 h1
    · omega
  · rw [lk_cons] at hi
    split at hi
    · rename_i e; subst e; obtain rfl := Option.some.inj hi; exact hr
    · rename_i e
      refine (h.has i x hi).mono hkeep (fun _ hb => hb) (fun _ _ => rfl) (fun k hk => hother k (fun e' => e ?_))
      subst e'
      exact h.inj g i ob x k hg hi hb hk
  · rw [lk_cons] at hi
    rw [hsz]
    split at hi
    · rename_i e; subst e; exact h.mine _ _ _ hg hik
    · exact h.mine _ _ _ hi hik
  · have key : ∀ i x, lk ((g, ob') :: own) i = some x → ∃ y, lk own i = some y := by
      intro i x hi
      rw [lk_cons] at hi
      split at hi
      · rename_i e; subst e; exact ⟨_, hg⟩
      · exact ⟨_, hi⟩
    obtain ⟨y, hy⟩ := key i x hi
    obtain ⟨y', hy'⟩ := key i' x' hi'
    exact h.inj i i' y y' k hy hy' hik hik'
end
end Go.Proofs.YtmidechdlbcepaaGreat