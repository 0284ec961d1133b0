/- A logic of memory: what keeps a state; slots; new blocks; stores. -/
import Derived.Test.YtdbbmjdeeenlhaaL1
namespace Go.Proofs.Ytdbbmjdeeenlhaa
open Go.RowKit

/-- A state's slot gets a value. -/
def St.put (st : St) (d : Option Nat) (r : AV) : St :=
  match d with
  | some d => { st with t := (d, r) :: st.t }
  | none => st
theorem St.put_own (st : St) (d : Option Nat) (r : AV) : (st.put d r).own = st.own := by cases d <;> rfl

section
variable {C : Ctx} {own : Own} {σ : Nat → Value} {Z : Nat → Prop} {w : World}

theorem Temps.put {t : List (Nat × AV)} {tm : Array Value} (h : Temps σ Z w t tm) {d : Nat} (hd : d < tm.size) {r : AV} {v : Value} (hr : r.Rep σ Z w v) : Temps σ Z w ((d, r) :: t) (tm.setIfInBounds d v) := by
  intro i a hi
  rw [lk_cons] at hi
  by_cases e : d = i
  · subst e
    rw [if_pos rfl] at hi
    obtain rfl := Option.some.inj hi
    simpa [Array.getD, hd] using hr
  · rw [if_neg e] at hi
    have := h i a hi
    simpa [Array.getD_eq_getD_getElem?, Array.getElem?_setIfInBounds_ne e] using this
theorem Temps.put_any {t : List (Nat × AV)} {tm : Array Value} (h : Temps σ Z w t tm) {d : Nat} (v : Value) : Temps σ Z w ((d, .any) :: t) (tm.setIfInBounds d v) := by
  intro i a hi
  rw [lk_cons] at hi
  by_cases e : d = i
  · subst e
    rw [if_pos rfl] at hi
    obtain rfl := Option.some.inj hi
    trivial
  · rw [if_neg e] at hi
    have := h i a hi
    simpa [Array.getD_eq_getD_getElem?, Array.getElem?_setIfInBounds_ne e] using this

/-- No slot names the block. -/
def noRefT (g : Nat) : List (Nat × AV) → Bool
  | [] => true
  | (_, a) :: l => !a.refs g && noRefT g l
def noRefH (g : Nat) : Own → Bool
  | [] => true
  | (_, ob) :: l => !AV.refsL g ob.cells && noRefH g l
theorem noRefT_lk {g : Nat} : ∀ {t : List (Nat × AV)}, noRefT g t = true → ∀ {i : Nat} {a : AV}, lk t i = some a → a.refs g = false
  | [], _, _, _, h => by simp [lk] at h
  | (k, x) :: l, hn, i, a, h => by
    simp only [noRefT, Bool.and_eq_true, Bool.not_eq_true'] at hn
    rw [lk_cons] at h
    split at h
    · obtain rfl := Option.some.inj h; exact hn.1
    · exact noRefT_lk hn.2 h
theorem noRefH_lk {g : Nat} : ∀ {t : Own}, noRefH g t = true → ∀ {i : Nat} {ob : OB}, lk t i = some ob → AV.refsL g ob.cells = false
  | [], _, _, _, h => by simp [lk] at h
  | (k, x) :: l, hn, i, a, h => by
    simp only [noRefH, Bool.and_eq_true, Bool.not_eq_true'] at hn
    rw [lk_cons] at h
    split at h
    · obtain rfl := Option.some.inj h; exact hn.1
    · exact noRefH_lk hn.2 h

/-- Nothing that is seen names the block. -/
def NoT (g : Nat) (t : List (Nat × AV)) : Prop := ∀ i a, lk t i = some a → a.refs g = false
def NoH (g : Nat) (t : Own) : Prop := ∀ i ob, lk t i = some ob → AV.refsL g ob.cells = false
theorem noT_of {g : Nat} {t : List (Nat × AV)} (h : noRefT g t = true) : NoT g t := fun _ _ h' => noRefT_lk h h'
theorem noH_of {g : Nat} {t : Own} (h : noRefH g t = true) : NoH g t := fun _ _ h' => noRefH_lk h h'
theorem noH_nil (g : Nat) : NoH g [] := fun i ob h => by simp [lk] at h
theorem noH_one {g d : Nat} {ob : OB} (h : AV.refsL g ob.cells = false) : NoH g [(d, ob)] := fun i x hx => by
  rw [lk_cons] at hx
  split at hx
  · obtain rfl := Option.some.inj hx; exact h
  · simp [lk] at hx
/-- The handles' table with one more. -/
def upd (σ : Nat → Value) (d : Nat) (h : Value) : Nat → Value := fun g => if g = d then h else σ g
theorem upd_hit (σ : Nat → Value) (d : Nat) (h : Value) : upd σ d h d = h := if_pos rfl
theorem upd_skip (σ : Nat → Value) {d g : Nat} (h : Value) (e : g ≠ d) : upd σ d h g = σ g := if_neg e

theorem refs_upd {a : AV} {d : Nat} (h : Value) (hn : a.refs d = false) : ∀ g, a.refs g = true → upd σ d h g = σ g := fun g hg => upd_skip σ h (fun e => by subst e; rw [hn] at hg; cases hg)
theorem refsL_upd {a : List AV} {d : Nat} (h : Value) (hn : AV.refsL d a = false) : ∀ g, AV.refsL g a = true → upd σ d h g = σ g := fun g hg => upd_skip σ h (fun e => by subst e; rw [hn] at hg; cases hg)

theorem Temps.mono {σ' : Nat → Value} {Z' : Nat → Prop} {w' : World} {t : List (Nat × AV)} {tm : Array Value} (h : Temps σ Z w t tm) (hk : Keeps Z w w') (hz : ∀ b, Z b → Z' b) (hs : ∀ i a, lk t i = some a → ∀ g, a.refs g = true → σ' g = σ g) : Temps σ' Z' w' t tm :=
  fun i a hi => AV.Rep.mono hk hz (hs i a hi) (h i a hi)

theorem OB.Rep.mono {σ' : Nat → Value} {Z' : Nat → Prop} {w' : World} {ob : OB} {h : Value} (hr : ob.Rep σ Z w h) (hk : Keeps Z w w') (hz : ∀ b, Z b → Z' b) (hs : ∀ g, AV.refsL g ob.cells = true → σ' g = σ g) (hb : ∀ b, blk h = some b → w'.heap[b]? = w.heap[b]?) : ob.Rep σ' Z' w' h := by
  cases ob with
  | box t cs =>
    obtain ⟨b, arr, rfl, h2, h3⟩ := hr
    exact ⟨b, arr, rfl, (hb b rfl).trans h2, AV.RepL.mono hk hz hs h3⟩
  | row t size n cs =>
    obtain ⟨xs, h2, h3⟩ := hr
    refine ⟨xs, ⟨h2.1, ?_⟩, AV.RepL.mono hk hz hs h3⟩
    rcases h2.2 with h4 | ⟨g, cap, cur, rfl, h5, h6, h7⟩
    · exact .inl h4
    · exact .inr ⟨g, cap, cur, rfl, h5, (hb g (blk_slice h5)).trans h6, h7⟩

theorem OB.Rep.lt {ob : OB} {h : Value} (hr : ob.Rep σ Z w h) {b : Nat} (hb : blk h = some b) : b < w.heap.size := by
  cases ob with
  | box t cs =>
    obtain ⟨b', arr, rfl, h2, h3⟩ := hr
    obtain rfl : b' = b := by simpa [blk] using hb
    exact (Array.getElem?_eq_some_iff.1 h2).1
  | row t size n cs =>
    obtain ⟨xs, h2, h3⟩ := hr
    rcases h2.2 with ⟨_, A, rfl⟩ | ⟨g, cap, cur, rfl, h5, h6, h7⟩
    · rw [blk_zero] at hb; cases hb
    · rw [blk_slice h5] at hb
      obtain rfl := Option.some.inj hb
      exact (Array.getElem?_eq_some_iff.1 h6).1

theorem alloc_keeps (w : World) (o : Obj) (hz : ∀ b, Z b → b < w.heap.size) : Keeps Z w (w.alloc o) := fun b hb => Below.heap_alloc w o b (hz b hb)

/-- A draw. -/
theorem Inv.drew (h : Inv C own σ Z w) : Inv C own σ Z w.drew :=
  ⟨h.os, h.tape, h.output, h.size, Nat.le_succ_of_le h.drawn, h.frame, h.zlt, h.zold, h.znew, fun g ob hg => (h.has g ob hg).mono (fun _ _ => rfl) (fun _ hb => hb) (fun _ _ => rfl) (fun _ _ => rfl), h.mine, h.inj, h.keep⟩
theorem Temps.drew {t : List (Nat × AV)} {tm : Array Value} (h : Temps σ Z w t tm) : Temps σ Z w.drew t tm := h.mono (fun _ _ => rfl) (fun _ hb => hb) (fun _ _ _ _ _ => rfl)

/-- A block that nobody names any more is let go. -/
theorem lk_filter_ne {g : Nat} {own : Own} {i : Nat} {ob : OB} (h : lk (own.filter fun p => !Nat.beq p.1 g) i = some ob) : i ≠ g ∧ lk own i = some ob := by
  induction own with
  | nil => simp [lk] at h
  | cons p l ih =>
    obtain ⟨k, x⟩ := p
    rw [List.filter_cons] at h
    by_cases e : k = g
    · subst e
      simp at h
      obtain ⟨h1, h2⟩ := ih h
      exact ⟨h1, by rw [lk_skip _ _ (Ne.symm h1)]; exact h2⟩
    · have : Nat.beq k g = false := by cases e' : Nat.beq k g with
        | false => rfl
        | true => exact absurd (Nat.eq_of_beq_eq_true e') e
      simp only [this, Bool.not_false, if_true] at h
      rw [lk_cons] at h ⊢
      split at h
      · rename_i e'
        subst e'
        exact ⟨e, by rw [if_pos rfl]; exact h⟩
      · rename_i e'
        rw [if_neg e']
        exact ih h

/-- The world grows by a block of the call's own. -/
theorem Inv.alloc (h : Inv C own σ Z w) {d : Nat} {hd : Value} {ob : OB} {o : Obj} (hb : blk hd = some w.heap.size) (hlow : d < 1000) (hr : ob.Rep (upd σ d hd) Z (w.alloc o) hd)
    (hH : NoH d own) : Inv C ((d, ob) :: own) (upd σ d hd) Z (w.alloc o) := by
  have hkeep := alloc_keeps w o h.zlt
  refine ⟨h.os, h.tape, h.output, by have := h.size; simp; omega, h.drawn, fun b hb1 hb2 => ?_, fun b hb1 => ?_, h.zold, h.znew, fun g x hg => ?_, fun g x b hg hgb => ?_, fun g g' x x' b hg hg' hgb hgb' => ?_, fun g hg => ?_⟩
  · exact (Below.heap_alloc w o b (by have := h.size; omega)).trans (h.frame b hb1 hb2)
  · have := h.zlt b hb1; simp; omega
  · rw [lk_cons] at hg
    split at hg
    · rename_i e
      subst e
      obtain rfl := Option.some.inj hg
      rw [upd_hit]
      exact hr
    · rename_i e
      rw [upd_skip _ _ (Ne.symm e)]
      exact (h.has g x hg).mono hkeep (fun _ hb => hb) (refsL_upd hd (hH _ _ hg)) (fun b hb' => Below.heap_alloc w o b (h.mine g x b hg hb').2.2)
  · rw [lk_cons] at hg
    split at hg
    · rename_i e
      subst e
      rw [upd_hit, hb] at hgb
      obtain rfl := Option.some.inj hgb
      exact ⟨.inr h.size, fun hz => by have := h.zlt _ hz; omega, by simp⟩
    · rename_i e
      rw [upd_skip _ _ (Ne.symm e)] at hgb
      have := h.mine g x b hg hgb
      exact ⟨this.1, this.2.1, by have := this.2.2; simp; omega⟩
  · rw [lk_cons] at hg hg'
    split at hg
    · rename_i e
      subst e
      split at hg'
      · rename_i e'; exact e'
      · rename_i e'
        rw [upd_hit, hb] at hgb
        rw [upd_skip _ _ (Ne.symm e')] at hgb'
        obtain rfl := Option.some.inj hgb
        have := (h.mine _ _ _ hg' hgb').2.2
        omega
    · rename_i e
      rw [upd_skip _ _ (Ne.symm e)] at hgb
      split at hg'
      · rename_i e'
        subst e'
        rw [upd_hit, hb] at hgb'
        obtain rfl := Option.some.inj hgb'
        have := (h.mine _ _ _ hg hgb).2.2
        omega
      · rename_i e'
        rw [upd_skip _ _ (Ne.symm e')] at hgb'
        exact h.inj g g' x x' b hg hg' hgb hgb'
  · rw [upd_skip _ _ (by omega)]
    exact h.keep g hg

/-- The world grows by a block that nobody sees; a row without room gets a name. -/
theorem Inv.zero (h : Inv C own σ Z w) {d : Nat} {hd : Value} {ob : OB} {o : Obj} (hb : blk hd = none) (hlow : d < 1000) (hr : ob.Rep (upd σ d hd) Z (w.alloc o) hd)
    (hH : NoH d own) : Inv C ((d, ob) :: own) (upd σ d hd) Z (w.alloc o) := by
  have hkeep := alloc_keeps w o h.zlt
  refine ⟨h.os, h.tape, h.output, by have := h.size; simp; omega, h.drawn, fun b hb1 hb2 => ?_, fun b hb1 => ?_, h.zold, h.znew, fun g x hg => ?_, fun g x b hg hgb => ?_, fun g g' x x' b hg hg' hgb hgb' => ?_, fun g hg => ?_⟩
  · exact (Below.heap_alloc w o b (by have := h.size; omega)).trans (h.frame b hb1 hb2)
  · have := h.zlt b hb1; simp; omega
  · rw [lk_cons] at hg
    split at hg
    · rename_i e
      subst e
      obtain rfl := Option.some.inj hg
      rw [upd_hit]
      exact hr
    · rename_i e
      rw [upd_skip _ _ (Ne.symm e)]
      exact (h.has g x hg).mono hkeep (fun _ hb => hb) (refsL_upd hd (hH _ _ hg)) (fun b hb' => Below.heap_alloc w o b (h.mine g x b hg hb').2.2)
  · rw [lk_cons] at hg
    split at hg
    · rename_i e
      subst e
      rw [upd_hit, hb] at hgb
      cases hgb
    · rename_i e
      rw [upd_skip _ _ (Ne.symm e)] at hgb
      have := h.mine g x b hg hgb
      exact ⟨this.1, this.2.1, by have := this.2.2; simp; omega⟩
  · have key : ∀ i y, lk ((d, ob) :: own) i = some y → ∀ k, blk (upd σ d hd i) = some k → lk own i = some y ∧ blk (σ i) = some k := by
      intro i y hi k hk
      rw [lk_cons] at hi
      split at hi
      · rename_i e; subst e; rw [upd_hit, hb] at hk; cases hk
      · rename_i e; rw [upd_skip _ _ (Ne.symm e)] at hk; exact ⟨hi, hk⟩
    exact h.inj g g' x x' b (key g x hg b hgb).1 (key g' x' hg' b hgb').1 (key g x hg b hgb).2 (key g' x' hg' b hgb').2
  · rw [upd_skip _ _ (by omega)]
    exact h.keep g hg

/-- The world grows by a block that nobody writes any more. -/
theorem Inv.allocZ (h : Inv C own σ Z w) (o : Obj) : Inv C own σ (fun b => Z b ∨ b = w.heap.size) (w.alloc o) := by
  have hkeep := alloc_keeps w o h.zlt
  refine ⟨h.os, h.tape, h.output, by have := h.size; simp; omega, h.drawn, fun b hb1 hb2 => ?_, fun b hb1 => ?_, fun b hb => .inl (h.zold b hb), fun b hb => ?_, fun g x hg => ?_, fun g x b hg hgb => ?_, h.inj, h.keep⟩
  · exact (Below.heap_alloc w o b (by have := h.size; omega)).trans (h.frame b hb1 hb2)
  · rcases hb1 with hb1 | hb1
    · have := h.zlt b hb1; simp; omega
    · subst hb1; simp
  · rcases hb with hb | hb
    · exact h.znew b hb
    · subst hb; exact .inr (.inr h.size)
  · exact (h.has g x hg).mono hkeep (fun _ hb => .inl hb) (fun _ _ => rfl) (fun b hb' => Below.heap_alloc w o b (h.mine g x b hg hb').2.2)
  · have := h.mine g x b hg hgb
    refine ⟨this.1, fun hz => ?_, by have := this.2.2; simp; omega⟩
    rcases hz with hz | hz
    · exact this.2.1 hz
    · have := this.2.2; omega

/-- A row without room gets a name. -/
theorem Inv.name (h : Inv C own σ Z w) {d : Nat} {hd : Value} {ob : OB} (hb : blk hd = none) (hlow : d < 1000) (hr : ob.Rep (upd σ d hd) Z w hd)
    (hH : NoH d own) : Inv C ((d, ob) :: own) (upd σ d hd) Z w := by
  have key : ∀ i y, lk ((d, ob) :: own) i = some y → ∀ k, blk (upd σ d hd i) = some k → lk own i = some y ∧ blk (σ i) = some k := by
    intro i y hi k hk
    rw [lk_cons] at hi
    split at hi
    · rename_i e; subst e; rw [upd_hit, hb] at hk; cases hk
    · rename_i e; rw [upd_skip _ _ (Ne.symm e)] at hk; exact ⟨hi, hk⟩
  refine ⟨h.os, h.tape, h.output, h.size, h.drawn, h.frame, h.zlt, h.zold, h.znew, fun g x hg => ?_, fun g x b hg hgb => h.mine g x b (key g x hg b hgb).1 (key g x hg b hgb).2, fun g g' x x' b hg hg' hgb hgb' => h.inj g g' x x' b (key g x hg b hgb).1 (key g' x' hg' b hgb').1 (key g x hg b hgb).2 (key g' x' hg' b hgb').2, fun g hg => ?_⟩
  · rw [lk_cons] at hg
    split at hg
    · rename_i e
      subst e
      obtain rfl := Option.some.inj hg
      rw [upd_hit]
      exact hr
    · rename_i e
      rw [upd_skip _ _ (Ne.symm e)]
      exact (h.has g x hg).mono (fun _ _ => rfl) (fun _ hb => hb) (refsL_upd hd (hH _ _ hg)) (fun _ _ => rfl)
  · rw [upd_skip _ _ (by omega)]
    exact h.keep g hg

/-- A block of the call's own is written: all else stays. -/
theorem Inv.write (h : Inv C own σ Z w) {g : Nat} {ob ob' : OB} {w' : World} {b : Nat} (hg : lk own g = some ob) (hb : blk (σ g) = some b)
    (hos : w'.os = w.os) (htape : w'.tape = w.tape) (hout : w'.output = w.output) (hdr : w'.drawn = w.drawn) (hsz : w'.heap.size = w.heap.size) (hother : ∀ k, k ≠ b → w'.heap[k]? = w.heap[k]?)
    (hr : ob'.Rep σ Z w' (σ g)) : Inv C ((g, ob') :: own) σ Z w' := by
  have hm := h.mine g ob b hg hb
  have hkeep : Keeps Z w w' := fun k hk => hother k (fun e => hm.2.1 (e ▸ hk))
  refine ⟨hos.trans h.os, htape.trans h.tape, hout.trans h.output, by rw [hsz]; exact h.size, by rw [hdr]; exact h.drawn, fun k hk1 hk2 => ?_, fun k hk => by rw [hsz]; exact h.zlt k hk, h.zold, h.znew, fun i x hi => ?_, fun i x k hi hik => ?_, fun i i' x x' k hi hi' hik hik' => ?_, h.keep⟩
  · refine (hother k (fun e => ?_)).trans (h.frame k hk1 hk2)
    subst e
    rcases hm.1 with h1 | h1
    · exact hk2 h1
    · omega
  · rw [lk_cons] at hi
    split at hi
    · rename_i e; subst e; obtain rfl := Option.some.inj hi; exact hr
    · rename_i e
      refine (h.has i x hi).mono hkeep (fun _ hb => hb) (fun _ _ => rfl) (fun k hk => hother k (fun e' => e ?_))
      subst e'
      exact h.inj g i ob x k hg hi hb hk
  · rw [lk_cons] at hi
    rw [hsz]
    split at hi
    · rename_i e; subst e; exact h.mine _ _ _ hg hik
    · exact h.mine _ _ _ hi hik
  · have key : ∀ i x, lk ((g, ob') :: own) i = some x → ∃ y, lk own i = some y := by
      intro i x hi
      rw [lk_cons] at hi
      split at hi
      · rename_i e; subst e; exact ⟨_, hg⟩
      · exact ⟨_, hi⟩
    obtain ⟨y, hy⟩ := key i x hi
    obtain ⟨y', hy'⟩ := key i' x' hi'
    exact h.inj i i' y y' k hy hy' hik hik'
end
end Go.Proofs.Ytdbbmjdeeenlhaa
