/- Rows of the call's own, with room or without; what an append comes to. -/
import Derived.Test.YtdbbmjdeeenlhaaOwn
import Derived.Lib.AppendStr
import Derived.Below
namespace Go.Proofs.Ytdbbmjdeeenlhaa
open Go.RowKit

/-- The block of a handle; a slice without room has none. -/
def blk : Value → Option Nat
  | .pointer (some a) => some a.block
  | .slice (some a) _ (_ + 1) => some a.block
  | _ => none
theorem blk_slice {a : Addr} {n c : Nat} (h : 0 < c) : blk (.slice (some a) n c) = some a.block := by
  obtain ⟨c, rfl⟩ : ∃ k, c = k + 1 := ⟨c - 1, by omega⟩
  rfl
theorem blk_zero {A : Option Addr} {n : Nat} : blk (.slice A n 0) = none := by cases A <;> rfl
/-- A row of the call's own, or one without room. -/
def rowZ (w : World) (e size : Nat) (h : Value) (n : Nat) (xs : List Value) : Prop :=
  xs.length = n * size ∧ ((n = 0 ∧ ∃ A, h = .slice A 0 0) ∨ ∃ g cap cur, h = .slice (some ⟨g, 0, none⟩) n cap ∧ 0 < cap ∧ w.heap[g]? = some (.cells cur e (0, 0)) ∧ n ≤ cap ∧ cap ≤ maxLen ∧ cur.size = cap * size ∧ cur.toList.take (n * size) = xs)
theorem rowZ_of {w : World} {e size n : Nat} {h : Value} {xs : List Value} (hr : w.ownsRow 0 e size h n xs) : rowZ w e size h n xs := by
  refine ⟨hr.1, ?_⟩
  rcases hr.2 with ⟨h1, h2⟩ | ⟨g, cap, cur, h1, _, h3, h4, h5, h6⟩
  · exact .inl ⟨h2, none, by rw [h1]⟩
  · rcases Nat.eq_zero_or_pos cap with h0 | h0
    · subst h0
      obtain rfl : n = 0 := by omega
      exact .inl ⟨rfl, _, h1⟩
    · exact .inr ⟨g, cap, cur, h1, h0, h3, h4, h5, h6⟩

/-- What an append comes to, whatever is appended. -/
structure AppRuns (P : Program) (w : World) (ts : Array TypeId) (ty e size : Nat) (z : Value) (x : Value) (n m : Nat) (news : List Value) : Prop where
  zero : m = 0 → ∀ A, (Builtin.append_ ts ty #[.slice A 0 0, x]).run P w = .ok (.slice A 0 0) w
  nil : 0 < m → (Builtin.append_ ts ty #[.slice none 0 0, x]).run P w = .ok (.slice (some ⟨w.heap.size, 0, .none⟩) m (grownCap w m 0 e)) (w.drew.alloc (.cells (news.toArray ++ Builtin.zeroCells z.cells (grownCap w m 0 e - m)) e))
  room : ∀ (g sCap : Nat) (cur : Array Value), w.heap[g]? = some (.cells cur e (0, 0)) → n + m ≤ sCap → n * size + news.length ≤ cur.size →
    (Builtin.append_ ts ty #[.slice (some ⟨g, 0, .none⟩) n sCap, x]).run P w = .ok (.slice (some ⟨g, 0, .none⟩) (n + m) sCap) (w.setRow g (cur.toList.take (n * size) ++ news ++ cur.toList.drop (n * size + news.length)).toArray)
  grow : ∀ (b : Addr) (sCap : Nat) (olds : List Value), olds.length = n * size → (∀ j v, olds[j]? = some v → w.cell? (b.add j) = some v) → sCap < n + m →
    (Builtin.append_ ts ty #[.slice (some b) n sCap, x]).run P w = .ok (.slice (some ⟨w.heap.size, 0, .none⟩) (n + m) (grownCap w (n + m) sCap e)) (w.drew.alloc (.cells (olds.toArray ++ news.toArray ++ Builtin.zeroCells z.cells (grownCap w (n + m) sCap e - (n + m))) e))

section
variable {P : Program} (w : World)
theorem run_appX {ts : Array TypeId} {ty e size : Nat} {z : Value} (hzs : z.cells.size = size) {v x : Value} {n m : Nat} {xs news : List Value} (hown : rowZ w e size v n xs) (hl : news.length = m * size)
    (h63 : n + m ≤ maxLen) (hA : AppRuns P w ts ty e size z x n m news) :
    ∃ v' w', (Builtin.append_ ts ty #[v, x]).run P w = .ok v' w' ∧ rowZ w' e size v' (n + m) (xs ++ news) ∧ w.grownBy w' (blk v) ∧ w.drawn ≤ w'.drawn ∧ (∀ b, blk v' = some b → (some b = blk v ∨ b = w.heap.size)) := by
  have hlen : (xs ++ news).length = (n + m) * size := by rw [List.length_append, hown.1, hl, Nat.add_mul]
  have grown : ∀ (old : Nat), 0 < n + m → ∀ (row : Option Nat),
      rowZ (w.drew.alloc (.cells (xs.toArray ++ news.toArray ++ Builtin.zeroCells z.cells (grownCap w (n + m) old e - (n + m))) e)) e size
        (.slice (some ⟨w.heap.size, 0, none⟩) (n + m) (grownCap w (n + m) old e)) (n + m) (xs ++ news) ∧
      w.grownBy (w.drew.alloc (.cells (xs.toArray ++ news.toArray ++ Builtin.zeroCells z.cells (grownCap w (n + m) old e - (n + m))) e)) row := by
    intro old h0 row
    have hge := grownCap_ge w (n + m) old e
    have hcm : grownCap w (n + m) old e ≤ maxLen := grownCap_le_maxLen w (n + m) old e h63
    refine ⟨⟨hlen, .inr ⟨w.heap.size, _, _, rfl, by omega, heap_alloc_new w.drew _, hge, hcm, ?_, ?_⟩⟩, ⟨rfl, rfl, rfl, by simp, fun k hk _ => Below.heap_alloc w.drew _ k hk⟩⟩
    · simp only [Array.size_append, List.size_toArray, size_zeroCells, hzs, hown.1, hl, ← Nat.add_mul]
      congr 1
      omega
    · simp only [Array.toList_append, List.append_assoc]
      rw [← List.append_assoc, ← hlen]
      exact List.take_left
  rcases hown.2 with ⟨rfl, A, rfl⟩ | ⟨g, cap, cur, rfl, hcap, hg, hnc, hcm, hcs, htake⟩
  · have hx : xs = [] := List.eq_nil_of_length_eq_zero (by simpa using hown.1)
    subst hx
    rcases Nat.eq_zero_or_pos m with hm | hm
    · subst hm
      have hn : news = [] := List.eq_nil_of_length_eq_zero (by simpa using hl)
      subst hn
      exact ⟨_, w, hA.zero rfl A, ⟨by simp, .inl ⟨rfl, A, rfl⟩⟩, ⟨rfl, rfl, rfl, Nat.le_refl _, fun _ _ _ => rfl⟩, Nat.le_refl _, fun b hb => .inl hb.symm⟩
    · have hgr := grown 0 (by omega) (blk (.slice A 0 0))
      have hge := grownCap_ge w m 0 e
      cases A with
      | none =>
        have hr := hA.nil hm
        simp only [Nat.zero_add, List.nil_append, Array.empty_append] at hgr ⊢
        exact ⟨_, _, hr, hgr.1, hgr.2, Nat.le_succ _, fun b hb => .inr (by rw [blk_slice (by omega)] at hb; exact (Option.some.inj hb).symm)⟩
      | some a =>
        have hr := hA.grow a 0 [] (by simp) (by simp) (by omega)
        simp only [Nat.zero_add, List.nil_append, Array.empty_append] at hgr hr ⊢
        exact ⟨_, _, hr, hgr.1, hgr.2, Nat.le_succ _, fun b hb => .inr (by rw [blk_slice (by omega)] at hb; exact (Option.some.inj hb).symm)⟩
  · by_cases hroom : n + m ≤ cap
    · have hfit : n * size + news.length ≤ cur.size := by rw [hl, hcs, ← Nat.add_mul]; exact Nat.mul_le_mul_right _ hroom
      have hr := hA.room g cap cur hg hroom hfit
      refine ⟨_, _, hr, ⟨hlen, .inr ⟨g, cap, _, rfl, hcap, setRow_heap w g cur _ e _ hg, hroom, hcm, ?_, ?_⟩⟩, ⟨rfl, rfl, rfl, by simp, fun k _ hk => setRow_other w g k _ (fun e => hk (by rw [blk_slice hcap, e]))⟩, by simp, fun b hb => .inl (by rw [blk_slice hcap] at hb ⊢; exact hb.symm)⟩
      · simp only [List.size_toArray, List.length_append, List.length_take, List.length_drop, Array.length_toList]
        omega
      · rw [htake, ← hlen]
        exact List.take_left
    · have holds : ∀ j u, xs[j]? = some u → w.cell? ((⟨g, 0, none⟩ : Addr).add j) = some u := fun j u hj => by
        rw [Addr.add_lit, Nat.zero_add, cell_of_row w g j cur e (0, 0) hg]
        rw [← htake, List.getElem?_take] at hj
        split at hj
        · simpa using hj
        · cases hj
      have hr := hA.grow ⟨g, 0, none⟩ cap xs hown.1 holds (by omega)
      have hge := grownCap_ge w (n + m) cap e
      have hgr := grown cap (by omega) (blk (.slice (some ⟨g, 0, none⟩) n cap))
      exact ⟨_, _, hr, hgr.1, hgr.2, Nat.le_succ _, fun b hb => .inr (by rw [blk_slice (by omega)] at hb; exact (Option.some.inj hb).symm)⟩

theorem run_appZ {t ty e size bytes : Nat} (he : Elem P t e size bytes) {A : Option Addr} {n m : Nat} (c : Nat) {news : List Value} (hl : news.length = m * size) (hr : Src w A m news) (h1 : ∀ u ∈ news, u.oneCell' = true) (h63 : n + m ≤ maxLen) (hbytes : (n + m) * bytes ≤ 140737488355328)
    {v : Value} {xs : List Value} (hown : rowZ w e size v n xs) : ∃ v' w', (Builtin.append_ #[t, t] ty #[v, .slice A m c]).run P w = .ok v' w' ∧ rowZ w' e size v' (n + m) (xs ++ news) ∧ w.grownBy w' (blk v) ∧ w.drawn ≤ w'.drawn ∧ (∀ b, blk v' = some b → (some b = blk v ∨ b = w.heap.size)) := by
  obtain ⟨ht, hsz, i, z, hi, hz, hsize, hby, hzs⟩ := he
  subst hsize hby
  rcases Nat.eq_zero_or_pos m with hm | hm
  · -- nothing is appended
    subst hm
    have hn : news = [] := List.eq_nil_of_length_eq_zero (by simpa using hl)
    subst hn
    have hfc : ∀ w, (Builtin.firstCells i.size 0 (.slice A 0 c)).run P w = .ok #[] w := fun w => by cases A <;> simp [Builtin.firstCells, loadCells, loadCellsFrom]
    rcases hown.2 with ⟨rfl, A', rfl⟩ | ⟨g, cap, cur, rfl, hcap, hg, hnc, hcm, hcs, htake⟩
    · refine ⟨_, w, ?_, by simpa using hown, ⟨rfl, rfl, rfl, Nat.le_refl _, fun _ _ _ => rfl⟩, Nat.le_refl _, fun b hb => .inl hb.symm⟩
      cases A' <;> simp [Builtin.append_, run_underlying ht, sizeOf, typeInfo, hi, Builtin.lenOf, hfc, storeCells]
    · refine ⟨_, w, ?_, by simpa using hown, ⟨rfl, rfl, rfl, Nat.le_refl _, fun _ _ _ => rfl⟩, Nat.le_refl _, fun b hb => .inl (by simpa using hb.symm)⟩
      simp [Builtin.append_, run_underlying ht, sizeOf, typeInfo, hi, Builtin.lenOf, hfc, hnc, storeCells]
  · obtain ⟨b, off, rfl, hc⟩ := hr hm
    have hnews : ∀ j u, news[j]? = some u → w.cell? ((⟨b, off, none⟩ : Addr).add j) = some u := fun j u hu => by rw [Addr.add_lit]; exact hc j u hu
    have hmb : m * i.bytes ≤ (n + m) * i.bytes := Nat.mul_le_mul_right _ (by omega)
    have h63' : n + m ≤ 9223372036854775807 := by simp only [maxLen] at h63; omega
    exact run_appX w hzs hown hl h63 ⟨fun h => absurd h (by omega), fun _ => run_append_nil (P := P) w t ty e i z ht hi hz _ m c news hl hnews hm (by omega) (by omega), fun g sCap cur hg hroom hfit => run_append_room (P := P) w t ty e i ht hi g n sCap cur hg _ m c news hl hnews h1 hroom hfit,
      fun b' sCap olds hlo holds hcap => run_append_grow (P := P) w t ty e i z ht hi hz b' n sCap olds hlo holds _ m c news hl hnews hcap (by omega) (growslice_fits hcap hbytes)⟩
/-- A string's bytes, appended. -/
theorem run_appS {t u ty e : Nat} (ht : P.underlying t = some (.slice e)) (hu : P.underlying u = some .string) {i : TypeInfo} (hi : P.info? e = some i) (hz : i.zero = some (.int .u8 0)) (hsize : i.size = 1) (hby : i.bytes = 1) {n : Nat} (s : ByteArray) (h63 : n + s.size ≤ maxLen) (hbytes : n + s.size ≤ 140737488355328)
    {v : Value} {xs : List Value} (hown : rowZ w e 1 v n xs) : ∃ v' w', (Builtin.append_ #[t, u] ty #[v, .string s]).run P w = .ok v' w' ∧ rowZ w' e 1 v' (n + s.size) (xs ++ Go.Lib.strCells s) ∧ w.grownBy w' (blk v) ∧ w.drawn ≤ w'.drawn ∧ (∀ b, blk v' = some b → (some b = blk v ∨ b = w.heap.size)) := by
  have hl : (Go.Lib.strCells s).length = s.size * 1 := by rw [Go.Lib.strCells_length, Nat.mul_one]
  have h63' : n + s.size ≤ 9223372036854775807 := by simp only [maxLen] at h63; omega
  have hzc : (Value.int .u8 0).cells.size = 1 := rfl
  refine run_appX w hzc hown hl h63 ⟨fun h A => ?_, fun h => ?_, fun g sCap cur hg hroom hfit => ?_, fun b' sCap olds hlo holds hcap => ?_⟩
  · have hf := Go.Lib.run_firstCells_string (P := P) w 1 s
    rw [h] at hf
    have : Go.Lib.strCells s = [] := List.eq_nil_of_length_eq_zero (by omega)
    rw [this] at hf
    cases A <;> simp [Builtin.append_, run_underlying ht, run_underlying hu, sizeOf, typeInfo, hi, hsize, Builtin.lenOf, h, hf, storeCells]
  · have := run_append_nil_string (P := P) w t u ty e i _ ht hu hi hz s h (by omega) (by rw [hby]; omega)
    rw [this]
    congr 4
    apply Array.ext'
    simp [Go.Lib.strCells]
  · have := Go.Lib.run_append_room_string (P := P) w t u ty e i ht hu hi hsize g n sCap cur hg s hroom (by rw [Go.Lib.strCells_length] at hfit; omega)
    rw [this]
    simp [Go.Lib.strCells_length]
  · exact Go.Lib.run_append_grow_string (P := P) w t u ty e i _ ht hu hi hz b' n sCap olds (by rw [hsize]; exact hlo) holds s hcap (by omega) (growslice_fits hcap (by rw [hby]; omega))
end
end Go.Proofs.Ytdbbmjdeeenlhaa
