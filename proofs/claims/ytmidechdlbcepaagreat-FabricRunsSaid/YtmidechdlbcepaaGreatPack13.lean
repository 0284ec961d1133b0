import Derived.Test.YtmidechdlbcepaaGreatPack08
import Derived.Test.YtmidechdlbcepaaGreatPack07
set_option linter.unusedSimpArgs false
set_option linter.unusedVariables false
namespace Go.Proofs.YtmidechdlbcepaaGreat
open Go.ChangeShapes Go.WideShapes Go.ChangeAt Go.RowKit Go.Deep
def Rd (w : World) (S : Nat → Prop) (A : Option Addr) (xs : List Value) : Prop :=
  xs ≠ [] → ∃ b off, A = some ⟨b, off, none⟩ ∧ S b ∧ ∀ (j : Nat) (u : Value), xs[j]? = some u → w.cell? ⟨b, off + j, none⟩ = some u

section
variable {w w' : World} {S S' : Nat → Prop} {A : Option Addr} {xs : List Value}
theorem Rd.nil (A : Option Addr) : Rd w S A [] := fun h => absurd rfl h
theorem Rd.keep (h : Rd w S A xs) (hk : ∀ b, S b → w'.heap[b]? = w.heap[b]?) (hS : ∀ b, S b → S' b) : Rd w' S' A xs := fun hn => by
  obtain ⟨b, off, e, hb, hc⟩ := h hn
  exact ⟨b, off, e, hS b hb, fun j u hu => by
    have : w'.cell? ⟨b, off + j, none⟩ = w.cell? ⟨b, off + j, none⟩ := World.cell?_of_block (w := w) (hk b hb)
    rw [this]
    exact hc j u hu⟩
theorem Rd.src (h : Rd w S A xs) (n : Nat) (hn : 0 < n → xs ≠ []) : Src w A n xs := fun h0 => by
  obtain ⟨b, off, e, _, hc⟩ := h (hn h0)
  exact ⟨b, off, e, hc⟩
end

theorem exists_list {α : Type} {Q : Nat → α → Prop} : ∀ (n : Nat), (∀ i, i < n → ∃ x, Q i x) → ∃ l : List α, l.length = n ∧ ∀ (i : Nat) (x : α), l[i]? = some x → Q i x
  | 0, _ => ⟨[], rfl, fun i x h => by simp at h⟩
  | n + 1, h => by
    obtain ⟨l, hl, hq⟩ := exists_list n (fun i hi => h i (by omega))
    obtain ⟨x, hx⟩ := h n (by omega)
    refine ⟨l ++ [x], by simp [hl], fun i y hy => ?_⟩
    rcases Nat.lt_or_ge i n with hi | hi
    · rw [List.getElem?_append_left (by omega)] at hy
      exact hq i y hy
    · rw [List.getElem?_append_right (by omega)] at hy
      rcases Nat.eq_zero_or_pos (i - l.length) with h0 | h0
      · rw [h0] at hy
        simp at hy
        subst hy
        obtain rfl : i = n := by omega
        exact hx
      · rw [List.getElem?_eq_none (by simp; omega)] at hy
        cases hy

theorem flatten_get {α : Type} {k : Nat} : ∀ (css : List (List α)), (∀ cs ∈ css, cs.length = k) → ∀ (j : Nat) (u : α), css.flatten[j]? = some u → 0 < k → ∃ cs, css[j / k]? = some cs ∧ cs[j % k]? = some u
  | [], _, j, u, h, _ => by simp at h
  | cs :: css, hk, j, u, h, hp => by
    have hc : cs.length = k := hk cs (by simp)
    rw [List.flatten_cons] at h
    rcases Nat.lt_or_ge j k with hj | hj
    · rw [List.getElem?_append_left (by omega)] at h
      exact ⟨cs, by simp [Nat.div_eq_of_lt hj], by rwa [Nat.mod_eq_of_lt hj]⟩
    · rw [List.getElem?_append_right (by omega), hc] at h
      obtain ⟨c, h1, h2⟩ := flatten_get css (fun c hc => hk c (by simp [hc])) (j - k) u h hp
      refine ⟨c, ?_, ?_⟩
      · rw [Nat.div_eq_sub_div hp hj]
        simpa using h1
      · rwa [Nat.mod_eq_sub_mod hj]

section
variable {H : Type} {enc : TypeId × Value → H} {P : Program} {w : World} {base : Nat} {spare : Nat → Bool} {held : Bool} {Cl : TypeId → DataW H → Prop}
theorem open_slice_plain (hcl : Closed P Cl) {t e : TypeId} {n m : Nat} {ls : List Leaf} {v : Value} {y : DataW H × List MemPlace} (hu : P.underlying t = some (.slice e)) (hl : leaves P n e = some ls) (hc : P.cellsOf e = ls.length) (hk : 0 < ls.length)
    (h : DataW.trod enc P w base spare held m t [v] = some y) (hC : Cl t y.1) :
    ∃ (css : List (List Value)) (A : Option Addr) (c : Nat), v = .slice A css.length c ∧ css.length ≤ c ∧ c ≤ maxLen ∧ (∀ cs ∈ css, AllOk enc P w base spare held Cl ls cs) ∧ Rd w (fun b => b < w.heap.size) A css.flatten ∧ (css = [] ∨ ∃ el sp, Cl t (.slice el sp) ∧ el.length = css.length) := by
  rcases open_slice hu h with ⟨hv, _⟩ | ⟨a, len, cap, m', n', D, Pl, hv, hb, hle, hm, hmm, hye, hi⟩
  · simp at hv
    subst hv
    exact ⟨[], none, 0, rfl, Nat.le_refl _, Nat.zero_le _, by simp, Rd.nil _, .inl rfl⟩
  · simp at hv
    subst hv
    have hml : len ≤ m' := by rw [hmm]; split <;> omega
    rw [hc] at hi
    rw [hye] at hC
    obtain ⟨css, hlen, hq⟩ := exists_list (Q := fun i cs => AllOk enc P w base spare held Cl ls cs ∧ ∀ j, j < ls.length → w.cell? ((a.add (i * ls.length)).add j) = cs[j]?) len (fun i hi' => by
      obtain ⟨cs', h1, h2⟩ := hi i (by omega)
      obtain ⟨_, hl', hcell⟩ := World.cells?_some h1
      exact ⟨cs', leaves_ok hcl n e ls n' cs' _ hl h2 (hcl.ofSlice t e _ _ hu hC _ (List.mem_map_of_mem (List.mem_range.2 hi'))), hcell⟩)
    refine ⟨css, some a, cap, by rw [hlen], by omega, hm, fun cs hcs => ?_, fun hne => ?_, .inr ⟨_, _, hC, by simp [hlen]⟩⟩
    · obtain ⟨i, hi1, rfl⟩ := List.getElem_of_mem hcs
      exact (hq i _ (List.getElem?_eq_getElem hi1)).1
    · have hall : ∀ cs ∈ css, cs.length = ls.length := fun cs hcs => by
        obtain ⟨i, hi1, rfl⟩ := List.getElem_of_mem hcs
        exact (hq i _ (List.getElem?_eq_getElem hi1)).1.length
      have h0 : ∃ u, css.flatten[0]? = some u := by
        cases hf : css.flatten with
        | nil => exact absurd hf hne
        | cons u r => exact ⟨u, rfl⟩
      obtain ⟨u, hu0⟩ := h0
      obtain ⟨cs0, e1, e2⟩ := flatten_get css hall 0 u hu0 hk
      have hc0 := (hq _ _ e1).2 0 hk
      have ha0 : w.cell? a = some u := by
        simp only [Nat.zero_div, Nat.zero_mod, Nat.zero_mul] at hc0 e1 e2
        rw [e2] at hc0
        simpa [Addr.add] using hc0
      have hspot : a = ⟨a.block, a.off, none⟩ := by
        obtain ⟨b, o, s⟩ := a
        cases s with
        | none => rfl
        | some s => simp [World.cell?] at ha0; split at ha0 <;> cases ha0
      have hblk : a.block < w.heap.size := by
        rcases Nat.lt_or_ge a.block w.heap.size with h | h
        · exact h
        · simp [World.cell?, Array.getElem?_eq_none h] at ha0
      refine ⟨a.block, a.off, by rw [← hspot], hblk, fun j u hj => ?_⟩
      obtain ⟨cs, e1, e2⟩ := flatten_get css hall j u hj hk
      have hcj := (hq _ _ e1).2 (j % ls.length) (Nat.mod_lt _ hk)
      rw [e2, hspot, Addr.add_lit, Addr.add_lit] at hcj
      rw [← hcj]
      congr 2
      rw [Nat.add_assoc, Nat.mul_comm, Nat.div_add_mod]

end
end Go.Proofs.YtmidechdlbcepaaGreat