/- A logic of memory: calls that get blocks of the call's own, and leave blocks behind. -/
import Derived.Test.YtdbbmjdeeenlhaaPack05
import Derived.Test.YtdbbmjdeeenlhaaProg
import Derived.KernelRfl
import Derived.Test.YtdbbmjdeeenlhaaPack01
import Derived.Test.YtdbbmjdeeenlhaaRows
import Derived.Test.YtdbbmjdeeenlhaaPack02
namespace Go.Proofs.Ytdbbmjdeeenlhaa
open Go.RowKit

/-- A function that gets blocks, answers, and leaves blocks behind. -/
def FunO (P : Program) (f : FuncId) (args : List AV) (own : Own) (r : AV) (own' : Own) : Prop := Triple P f args own fun r' o' => r' = r ∧ o' = own'

mutual
theorem AV.To.own {φ : List (Nat × Whence)} {F : List Nat} {H H' : Own} (hl : ∀ g, F.contains g = true → lk H' g = lk H g) {b a : AV} (h : AV.To φ F H b a) : AV.To φ F H' b a := by
  cases h with
  | le h1 h2 => exact .le h1 h2
  | any => exact .any
  | ptr h => exact .ptr h
  | sl h => exact .sl h
  | ptr0 h => exact .ptr0 h
  | sl0 h => exact .sl0 h
  | nil h => exact .nil h
  | frz h1 h2 h3 => exact .frz ((hl _ h3).trans h1) h2 h3
  | frp h1 h2 h3 => exact .frp ((hl _ h3).trans h1) h2 h3
  | cut h => exact .cut h
  | sb h => exact .sb h
  | sb0 h => exact .sb0 h
  | frb h1 h2 h3 h4 => exact .frb ((hl _ h4).trans h1) h2 h3 h4
  | agg h => exact .agg (AV.ToL.own hl h)
  | tup h => exact .tup (AV.ToL.own hl h)
  | fn h => exact .fn (AV.ToL.own hl h)
theorem AV.ToL.own {φ : List (Nat × Whence)} {F : List Nat} {H H' : Own} (hl : ∀ g, F.contains g = true → lk H' g = lk H g) {b a : List AV} (h : AV.ToL φ F H b a) : AV.ToL φ F H' b a := by
  cases h with
  | nil => exact .nil
  | cons h h' => exact .cons (AV.To.own hl h) (AV.ToL.own hl h')
end
def srcsN : List (Nat × Whence) → List Nat
  | [] => []
  | (_, .id g) :: l => g :: srcsN l
  | (_, .cut g _) :: l => g :: srcsN l
  | (_, .nil) :: l => srcsN l
theorem srcsN_mem : ∀ {φ : List (Nat × Whence)} {k g : Nat} {x : Whence}, lk φ k = some x → x.src = some g → g ∈ srcsN φ
  | [], _, _, _, h, _ => by simp [lk] at h
  | (k', .id g') :: l, k, g, x, h, hx => by
    rw [lk_cons] at h
    split at h
    · obtain rfl := Option.some.inj h; simp [Whence.src] at hx; simp [srcsN, hx]
    · simp [srcsN, srcsN_mem h hx]
  | (k', .cut g' n) :: l, k, g, x, h, hx => by
    rw [lk_cons] at h
    split at h
    · obtain rfl := Option.some.inj h; simp [Whence.src] at hx; simp [srcsN, hx]
    · simp [srcsN, srcsN_mem h hx]
  | (k', .nil) :: l, k, g, x, h, hx => by
    rw [lk_cons] at h
    split at h
    · obtain rfl := Option.some.inj h; simp [Whence.src] at hx
    · simp [srcsN, srcsN_mem h hx]
/-- The blocks that are given are all under new names. -/
def givenB (φ : List (Nat × Whence)) : Own → Bool
  | [] => true
  | (k, _) :: l => (match lk φ k with | some _ => true | none => false) && Nat.ble 1000 k && givenB φ l
theorem givenB_lk {φ : List (Nat × Whence)} : ∀ {l : Own} {k : Nat} {ob : OB}, givenB φ l = true → lk l k = some ob → (∃ x, lk φ k = some x) ∧ 1000 ≤ k
  | [], _, _, _, h => by simp [lk] at h
  | (k', x) :: l, k, ob, hg, h => by
    simp only [givenB, Bool.and_eq_true] at hg
    rw [lk_cons] at h
    split at h
    · rename_i e
      subst e
      refine ⟨?_, Nat.le_of_ble_eq_true hg.1.2⟩
      have := hg.1.1
      cases e : lk φ k' with
      | none => rw [e] at this; cases this
      | some y => exact ⟨y, rfl⟩
    · exact givenB_lk hg.2 h
theorem OB.To.own {φ : List (Nat × Whence)} {F : List Nat} {H H' : Own} {k : Nat} {ob : OB} (hk : ∃ x, lk φ k = some x) (hl : ∀ g, F.contains g = true → lk H' g = lk H g) (hs : ∀ g ∈ srcsN φ, lk H' g = lk H g) (h : OB.To φ F H k ob) : OB.To φ F H' k ob := by
  obtain ⟨x, hx⟩ := hk
  have key : ∀ g, (whence φ k).src = some g → g ∈ srcsN φ := fun g hg => by
    simp only [whence, hx, Option.getD_some] at hg
    exact srcsN_mem hx hg
  cases h with
  | nil h => exact .nil h
  | row h1 h2 h3 h4 => exact .row h1 ((hs _ (key _ (by rw [h1]; rfl))).trans h2) h3 (h4.own hl)
  | cut h1 h2 h3 h5 h6 h4 => exact .cut h1 ((hs _ (key _ (by rw [h1]; rfl))).trans h2) h3 h5 h6 (h4.own hl)
  | box h1 h2 h4 => exact .box h1 ((hs _ (key _ (by rw [h1]; rfl))).trans h2) (h4.own hl)
theorem toH_own {φ : List (Nat × Whence)} {F : List Nat} {H H' : Own} (hl : ∀ g, F.contains g = true → lk H' g = lk H g) (hs : ∀ g ∈ srcsN φ, lk H' g = lk H g) : ∀ {l : Own}, givenB φ l = true → toH φ F H l → toH φ F H' l
  | [], _, _ => trivial
  | (k, ob) :: l, hg, ⟨h1, h2⟩ => by
    have hk := (givenB_lk (k := k) (ob := ob) hg (lk_hit _ _ _)).1
    simp only [givenB, Bool.and_eq_true] at hg
    exact ⟨h1.own hk hl hs, toH_own hl hs hg.2 h2⟩

section
variable {C : Ctx} {H : Own} {σ : Nat → Value} {Z : Nat → Prop} {w : World} {φ : List (Nat × Whence)} {F : List Nat}
theorem toH_src {own : Own} (hh : toH φ F H own) {k : Nat} {ob : OB} (hk : lk own k = some ob) : (newσ φ σ k = .slice none 0 0) ∨ ∃ g ob0, (whence φ k).src = some g ∧ lk H g = some ob0 ∧ blk (newσ φ σ k) = blk (σ g) := by
  cases toH_lk hh hk with
  | nil h => exact .inl (newσ_nil h)
  | row h h' _ _ => exact .inr ⟨_, _, by rw [h]; rfl, h', by rw [newσ_src h]⟩
  | cut h h' _ _ _ _ => exact .inr ⟨_, _, by rw [h]; rfl, h', by rw [newσ_cut h, cutV_blk]⟩
  | box h h' _ => exact .inr ⟨_, _, by rw [h]; rfl, h', by rw [newσ_src h]⟩
theorem toH_has {own : Own} (hI : Inv C H σ Z w) (hh : toH φ F H own) {k : Nat} {ob : OB} (hk : lk own k = some ob) : ob.Rep (newσ φ σ) (newZ F H σ Z) w (newσ φ σ k) := by
  cases toH_lk hh hk with
  | @nil e q h =>
    rw [newσ_nil h]
    exact ⟨[], ⟨by simp, .inl ⟨rfl, none, rfl⟩⟩, trivial⟩
  | @row g e q n n' cs cs' h h' hn hc =>
    subst hn
    rw [newσ_src h]
    obtain ⟨xs, hx, hr⟩ := hI.has g _ h'
    exact ⟨xs, hx, hc.rep hI hr⟩
  | @cut g e q N n n' cs cs2 cs' h h' hnN hn hcs hc =>
    subst hn hcs
    rw [newσ_cut h]
    exact cut_row hI (hI.has g _ h') hnN fun h => hc.rep hI h
  | @box g t cs cs' h h' hc =>
    rw [newσ_src h]
    obtain ⟨b, arr, e1, e2, hr⟩ := hI.has g _ h'
    exact ⟨b, arr, e1, e2, hc.rep hI hr⟩
/-- What a called function finds. -/
theorem inv_call {own : Own} (hI : Inv C H σ Z w) (hs : srcsB φ F own = true) (hh : toH φ F H own) : Inv (ctx0 own (newσ φ σ) (newZ F H σ Z) w) own (newσ φ σ) (newZ F H σ Z) w := by
  obtain ⟨hs1, hs2⟩ := srcs_ok hs
  refine ⟨rfl, rfl, rfl, Nat.le_refl _, Nat.le_refl _, fun _ _ _ => rfl, fun b hb => ?_, fun _ h => h, fun _ h => .inl h, fun k ob hk => toH_has hI hh hk, fun k ob b hk hb => ?_, fun k k' ob ob' b hk hk' hb hb' => ?_, fun _ _ => rfl⟩
  · rcases hb with h | ⟨g, ob, _, hg, hb⟩
    · exact hI.zlt b h
    · exact (hI.mine g ob b hg hb).2.2
  · have hb0 := hb
    rcases toH_src (σ := σ) hh hk with h | ⟨g, ob0, h3, h4, h5⟩
    · rw [h] at hb; cases hb
    · rw [h5] at hb
      have hm := hI.mine g ob0 b h4 hb
      refine ⟨.inl ⟨k, ob, hk, hb0⟩, fun hz => ?_, hm.2.2⟩
      rcases hz with h | ⟨k', ob', hF, hk', hb'⟩
      · exact hm.2.1 h
      · have := hI.inj g k' ob0 ob' b h4 hk' hb hb'
        subst this
        obtain ⟨y, hy⟩ := lk_key hk
        rw [hs1 _ hy _ h3] at hF
        cases hF
  · rcases toH_src (σ := σ) hh hk with h | ⟨g, ob0, h3, h4, h5⟩
    · rw [h] at hb; cases hb
    · rcases toH_src (σ := σ) hh hk' with h | ⟨g', ob0', h3', h4', h5'⟩
      · rw [h] at hb'; cases hb'
      · rw [h5] at hb
        rw [h5'] at hb'
        have := hI.inj g g' _ _ b h4 h4' hb hb'
        subst this
        obtain ⟨y, hy⟩ := lk_key hk
        obtain ⟨y', hy'⟩ := lk_key hk'
        exact hs2 _ _ g hy hy' h3 h3'
end

/-- It names no memory but own blocks. -/
def scalB (L : Bool) (a : AV) : Bool := match L with
  | true => a.scal
  | false => a.flat
mutual
/-- A value, and blocks, under the names of the one who called. -/
inductive AV.Rn (L : Bool) (ν : List (Nat × Nat)) : AV → AV → Prop
  | le {a : AV} : scalB L a = true → AV.Rn L ν a a
  | nil : AV.Rn L ν .nil .nil
  | ptr {k g off : Nat} : lk ν k = some g → AV.Rn L ν (.optr k off) (.optr g off)
  | sl {k g : Nat} : lk ν k = some g → AV.Rn L ν (.osl k) (.osl g)
  | agg {as bs : List AV} : AV.RnL L ν as bs → AV.Rn L ν (.agg as) (.agg bs)
  | tup {as bs : List AV} : AV.RnL L ν as bs → AV.Rn L ν (.tup as) (.tup bs)
  | fn {f : FuncId} {as bs : List AV} : AV.RnL L ν as bs → AV.Rn L ν (.fn f as) (.fn f bs)
inductive AV.RnL (L : Bool) (ν : List (Nat × Nat)) : List AV → List AV → Prop
  | nil : AV.RnL L ν [] []
  | cons {a b : AV} {as bs : List AV} : AV.Rn L ν a b → AV.RnL L ν as bs → AV.RnL L ν (a :: as) (b :: bs)
end
theorem AV.RnL.maps {ν : List (Nat × Nat)} : ∀ (us : List FV), AV.RnL false ν (us.map .fv) (us.map .fv)
  | [] => .nil
  | _ :: us => .cons (.le rfl) (AV.RnL.maps us)
theorem AV.RnL.mapsS {L : Bool} {ν : List (Nat × Nat)} : ∀ {us : List FV}, (∀ u ∈ us, (AV.fv u).scal = true) → AV.RnL L ν (us.map .fv) (us.map .fv)
  | [], _ => .nil
  | u :: us, h => .cons (.le (by
      unfold scalB
      split
      · exact h u (by simp)
      · rfl)) (AV.RnL.mapsS fun x hx => h x (by simp [hx]))
theorem AV.RnL.app {L : Bool} {ν : List (Nat × Nat)} : ∀ {as bs cs ds : List AV}, AV.RnL L ν as bs → AV.RnL L ν cs ds → AV.RnL L ν (as ++ cs) (bs ++ ds)
  | [], _, _, _, h, h' => by cases h; exact h'
  | _ :: _, _, _, _, h, h' => by cases h with | cons h1 h2 => exact .cons h1 (h2.app h')
inductive OB.Rn (L : Bool) (ν : List (Nat × Nat)) : OB → OB → Prop
  | row {e s n : Nat} {cs cs' : List AV} : AV.RnL L ν cs cs' → OB.Rn L ν (.row e s n cs) (.row e s n cs')
  | box {t : Nat} {cs cs' : List AV} : AV.RnL L ν cs cs' → OB.Rn L ν (.box t cs) (.box t cs')
inductive OwnRn (L : Bool) (ν : List (Nat × Nat)) : Own → Own → Prop
  | nil : OwnRn L ν [] []
  | cons {k g : Nat} {ob ob' : OB} {l l' : Own} : lk ν k = some g → OB.Rn L ν ob ob' → OwnRn L ν l l' → OwnRn L ν ((k, ob) :: l) ((g, ob') :: l')

section
variable {L : Bool} {ν : List (Nat × Nat)} {σ σ2 : Nat → Value} {Z Z2 : Nat → Prop} {w : World}
mutual
theorem AV.Rn.rep (hz : L = true ∨ ∀ b, Z b → Z2 b) (hσ : ∀ k g, lk ν k = some g → σ2 g = σ k) {a b : AV} {v : Value} (h : AV.Rn L ν a b) (hr : a.Rep σ Z w v) : b.Rep σ2 Z2 w v := by
  cases h with
  | le h =>
    cases L with
    | true => exact AV.scal_rep h hr
    | false => exact AV.Rep.mono (fun _ _ => rfl) (hz.resolve_left (by simp)) (fun g hg => by rw [AV.flat_refs h] at hg; cases hg) hr
  | nil => exact hr
  | ptr h =>
    obtain ⟨x, h1, h2⟩ := hr
    exact ⟨x, by rw [hσ _ _ h]; exact h1, h2⟩
  | sl h => exact ⟨by rw [hσ _ _ h]; exact hr.1, hr.2⟩
  | agg h =>
    obtain ⟨arr, e, h2⟩ := hr
    exact ⟨arr, e, AV.RnL.rep hz hσ h h2⟩
  | tup h =>
    obtain ⟨arr, e, h2⟩ := hr
    exact ⟨arr, e, AV.RnL.rep hz hσ h h2⟩
  | fn h =>
    obtain ⟨arr, e, h2⟩ := hr
    exact ⟨arr, e, AV.RnL.rep hz hσ h h2⟩
theorem AV.RnL.rep (hz : L = true ∨ ∀ b, Z b → Z2 b) (hσ : ∀ k g, lk ν k = some g → σ2 g = σ k) {as bs : List AV} {vs : List Value} (h : AV.RnL L ν as bs) (hr : AV.RepL σ Z w as vs) : AV.RepL σ2 Z2 w bs vs := by
  cases h with
  | nil =>
    cases vs with
    | nil => trivial
    | cons => exact hr.elim
  | cons h h' =>
    cases vs with
    | nil => exact hr.elim
    | cons v vs => exact ⟨AV.Rn.rep hz hσ h hr.1, AV.RnL.rep hz hσ h' hr.2⟩
end
theorem OB.Rn.rep (hz : L = true ∨ ∀ b, Z b → Z2 b) (hσ : ∀ k g, lk ν k = some g → σ2 g = σ k) {a b : OB} {v : Value} (h : OB.Rn L ν a b) (hr : a.Rep σ Z w v) : b.Rep σ2 Z2 w v := by
  cases h with
  | row h =>
    obtain ⟨xs, h1, h2⟩ := hr
    exact ⟨xs, h1, h.rep hz hσ h2⟩
  | box h =>
    obtain ⟨b, arr, h1, h2, h3⟩ := hr
    exact ⟨b, arr, h1, h2, h.rep hz hσ h3⟩
def vals (ν : List (Nat × Nat)) : List Nat := ν.map (·.2)
theorem vals_mem {k g : Nat} (h : lk ν k = some g) : g ∈ vals ν := List.mem_map.2 ⟨(k, g), lk_mem h, rfl⟩
theorem scalB_refs {a : AV} (h : scalB L a = true) (g : Nat) : a.refs g = false := by
  cases L with
  | true => exact AV.flat_refs (AV.scal_flat h)
  | false => exact AV.flat_refs h
mutual
theorem AV.Rn.refs {g : Nat} (hg : g ∉ vals ν) {a b : AV} (h : AV.Rn L ν a b) : b.refs g = false := by
  cases h with
  | le h => exact scalB_refs h g
  | nil => rfl
  | @ptr k g' off h =>
    simp only [AV.refs]
    cases e : Nat.beq g' g with
    | false => rfl
    | true => have := Nat.eq_of_beq_eq_true e; subst this; exact absurd (vals_mem h) hg
  | @sl k g' h =>
    simp only [AV.refs]
    cases e : Nat.beq g' g with
    | false => rfl
    | true => have := Nat.eq_of_beq_eq_true e; subst this; exact absurd (vals_mem h) hg
  | agg h => simpa [AV.refs] using AV.RnL.refs hg h
  | tup h => simpa [AV.refs] using AV.RnL.refs hg h
  | fn h => simpa [AV.refs] using AV.RnL.refs hg h
theorem AV.RnL.refs {g : Nat} (hg : g ∉ vals ν) {as bs : List AV} (h : AV.RnL L ν as bs) : AV.refsL g bs = false := by
  cases h with
  | nil => rfl
  | cons h h' => simp only [AV.refsL, Bool.or_eq_false_iff]; exact ⟨AV.Rn.refs hg h, AV.RnL.refs hg h'⟩
end
/-- Names go over one to one. -/
def oneB (ν : List (Nat × Nat)) : Bool := ν.all fun p => ν.all fun q => Nat.beq p.1 q.1 == Nat.beq p.2 q.2
theorem oneB_lk (h : oneB ν = true) {k k' g : Nat} (h1 : lk ν k = some g) (h2 : lk ν k' = some g) : k = k' := by
  have := List.all_eq_true.1 (List.all_eq_true.1 h _ (lk_mem h1)) _ (lk_mem h2)
  simp at this
  exact this
def rev (ν : List (Nat × Nat)) : List (Nat × Nat) := ν.map fun p => (p.2, p.1)
theorem rev_lk (h : oneB ν = true) {k g : Nat} : lk (rev ν) g = some k ↔ lk ν k = some g := by
  have key : ∀ l : List (Nat × Nat), (∀ p ∈ l, p ∈ ν) → (lk (rev l) g = some k ↔ lk l k = some g) := by
    intro l
    induction l with
    | nil => intro _; simp [rev, lk]
    | cons p l ih =>
      intro hl
      obtain ⟨a, b⟩ := p
      have ih := ih fun q hq => hl q (by simp [hq])
      have ha := hl (a, b) (by simp)
      simp only [rev, List.map_cons, lk_cons] at ih ⊢
      have hab : ∀ q ∈ ν, Nat.beq a q.1 = Nat.beq b q.2 := fun q hq => by
        have := List.all_eq_true.1 (List.all_eq_true.1 h _ ha) q hq
        simpa using this
      by_cases e1 : b = g
      · subst e1
        by_cases e2 : a = k
        · subst e2; simp
        · simp only [if_pos, e2, if_false, Option.some.injEq, false_iff]
          intro hc
          have := hab _ (hl (k, b) (by have := lk_mem hc; simp [this]))
          simp at this
          exact e2 this
      · by_cases e2 : a = k
        · subst e2
          simp only [if_neg e1, if_pos, Option.some.injEq]
          constructor
          · intro hc
            have hm := lk_mem hc
            obtain ⟨q, hq, hqe⟩ := List.mem_map.1 hm
            have := hab _ (hl q (by simp [hq]))
            obtain ⟨q1, q2⟩ := q
            simp at hqe
            obtain ⟨rfl, rfl⟩ := hqe
            simp at this
            exact absurd this e1
          · intro hc; exact absurd hc e1
        · simp only [if_neg e1, if_neg e2]
          exact ih
  exact key ν fun _ h => h
theorem OwnRn.lk (h1 : oneB ν = true) : ∀ {l l' : Own}, OwnRn L ν l l' → ∀ {g : Nat} {ob' : OB}, Go.Proofs.Ytdbbmjdeeenlhaa.lk l' g = some ob' → ∃ k ob, Go.Proofs.Ytdbbmjdeeenlhaa.lk ν k = some g ∧ Go.Proofs.Ytdbbmjdeeenlhaa.lk l k = some ob ∧ OB.Rn L ν ob ob'
  | _, _, .nil, _, _, h => by simp [Go.Proofs.Ytdbbmjdeeenlhaa.lk] at h
  | _, _, @OwnRn.cons _ _ k g0 ob ob0 l l' e1 e2 e3, g, ob', h => by
    rw [lk_cons] at h
    split at h
    · rename_i e
      subst e
      obtain rfl := Option.some.inj h
      exact ⟨k, ob, e1, lk_hit _ _ _, e2⟩
    · rename_i e
      obtain ⟨k', ob1, h2, h3, h4⟩ := OwnRn.lk h1 e3 h
      refine ⟨k', ob1, h2, ?_, h4⟩
      rw [lk_skip _ _ (by rintro rfl; rw [e1] at h2; exact e (Option.some.inj h2))]
      exact h3
end
/-- Names that come back: those that were given, and new ones. -/
def backB (φ : List (Nat × Whence)) (ν : List (Nat × Nat)) : Bool := ν.all fun p => match lk φ p.1 with
  | some (.id g) => Nat.beq g p.2 && Nat.ble 1000 p.1
  | _ => Nat.blt p.2 1000
def newsN (φ : List (Nat × Whence)) : List (Nat × Nat) → List Nat
  | [] => []
  | (k, g) :: l => match lk φ k with
    | some (.id _) => newsN φ l
    | _ => g :: newsN φ l
theorem newsN_mem {φ : List (Nat × Whence)} : ∀ {ν : List (Nat × Nat)} {k g : Nat}, (k, g) ∈ ν → (∀ x, lk φ k ≠ some (.id x)) → g ∈ newsN φ ν
  | (k', g') :: l, k, g, h, hn => by
    simp only [newsN]
    rcases List.mem_cons.1 h with h | h
    · simp only [Prod.mk.injEq] at h
      obtain ⟨rfl, rfl⟩ := h
      split
      · rename_i x hx; exact absurd hx (hn x)
      · simp
    · split
      · exact newsN_mem h hn
      · simp [newsN_mem h hn]
theorem back_cases {φ : List (Nat × Whence)} {ν : List (Nat × Nat)} (hb : backB φ ν = true) {k g : Nat} (h : lk ν k = some g) : (lk φ k = some (.id g) ∧ 1000 ≤ k) ∨ (g < 1000 ∧ g ∈ newsN φ ν) := by
  have := List.all_eq_true.1 hb _ (lk_mem h)
  cases e : lk φ k with
  | none => rw [e] at this; exact .inr ⟨by simpa [Nat.blt_eq] using this, newsN_mem (lk_mem h) (fun x => by rw [e]; simp)⟩
  | some y =>
    cases y with
    | nil => rw [e] at this; exact .inr ⟨by simpa [Nat.blt_eq] using this, newsN_mem (lk_mem h) (fun x => by rw [e]; simp)⟩
    | cut g2 n => rw [e] at this; exact .inr ⟨by simpa [Nat.blt_eq] using this, newsN_mem (lk_mem h) (fun x => by rw [e]; simp)⟩
    | id g' =>
      rw [e] at this
      simp only [Bool.and_eq_true] at this
      have h1 := Nat.eq_of_beq_eq_true this.1
      subst h1
      exact .inl ⟨rfl, Nat.le_of_ble_eq_true this.2⟩
/-- What is lent for good. -/
def dropF : Bool → List Nat → List Nat
  | true, _ => []
  | false, F => F
/-- The blocks of others. -/
def rest (N : List Nat) : Own → Own
  | [] => []
  | (k, ob) :: l => match N.contains k with
    | true => rest N l
    | false => (k, ob) :: rest N l
theorem lk_rest {N : List Nat} {g : Nat} : ∀ (H : Own), lk (rest N H) g = if g ∈ N then none else lk H g
  | [] => by simp [rest, lk]
  | (k, x) :: l => by
    simp only [rest]
    cases e : N.contains k with
    | true =>
      simp only [lk_cons, lk_rest l]
      split
      · rfl
      · split
        · rename_i e'; subst e'; simp at e; rename_i h; exact absurd e h
        · rfl
    | false =>
      simp only [lk_cons, lk_rest l]
      split
      · rename_i e'; subst e'; simp at e; simp [e]
      · rfl

section
variable {P : Program} {T : Tbl} {n i : Nat} {ops : Array Oper} {st : St} {o : Oper} {d : Nat}
set_option maxHeartbeats 1000000 in
/-- A call that gets blocks. -/
theorem Step.callO {f : Operand} {args : Array Operand} {ts : Array TypeId} {fid : FuncId} {cs as : List AV} {r r' : AV} {ownC own' A : Own} {φ : List (Nat × Whence)} {F : List Nat} {ν : List (Nat × Nat)} {L : Bool}
    (ho : ops[i]? = some o) (hg : o.guard = none) (hd : o.dst = some d) (hn : d < n) (hop : o.op = .call { callee := .value f, args := args, argTypes := ts }) (hf : st.ev f = .fn fid cs) (hto : AV.ToL φ F st.own (args.toList.map st.ev ++ cs) as) (hoc : toH φ F st.own ownC)
    (hgv : givenB φ ownC = true) (hsrc : srcsB φ F ownC = true) (hC : FunO P fid as ownC r own') (hr : AV.Rn L ν r r') (hA : OwnRn L ν own' A) (h1 : oneB ν = true) (hb : backB φ ν = true) (hfr : ∀ g ∈ newsN φ ν, NoT g st.t ∧ NoH g st.own) :
    Step P T n ops i ⟨srcsN φ ++ F, srcsN φ ++ newsN φ ν ++ dropF L F, newsN φ ν⟩ st ⟨(d, r') :: st.t, A ++ rest (srcsN φ ++ vals ν ++ dropF L F) st.own⟩ := by
  intro hT
  let D : List (Nat × Option OB) := A.map (fun p => (p.1, some p.2)) ++ (srcsN φ ++ vals ν ++ dropF L F).map fun g => (g, none)
  have hDn : ∀ (N : List Nat) (g : Nat), lk (N.map fun g => (g, (none : Option OB))) g = if g ∈ N then some none else none := by
    intro N g
    induction N with
    | nil => simp [lk]
    | cons a N ih =>
      simp only [List.map_cons, lk_cons, ih]
      by_cases h : a = g
      · subst h; simp
      · simp [h, Ne.symm h]
  have hD : ∀ (H : Own) g, eff D H g = lk (A ++ rest (srcsN φ ++ vals ν ++ dropF L F) H) g := by
    intro H g
    simp only [eff, D, lk_append, lk_mapSome, hDn, lk_rest]
    cases lk A g with
    | some x => rfl
    | none =>
      simp only [Option.map_none]
      split <;> simp_all
  have hvals : ∀ g, g ∈ vals ν → g ∈ srcsN φ ∨ g ∈ newsN φ ν := by
    intro g hg
    obtain ⟨⟨k, g'⟩, hp, rfl⟩ := List.mem_map.1 hg
    have := List.all_eq_true.1 hb _ hp
    cases e : lk φ k with
    | none => exact .inr (newsN_mem hp (fun x => by rw [e]; simp))
    | some y =>
      cases y with
      | nil => exact .inr (newsN_mem hp (fun x => by rw [e]; simp))
      | cut g2 n => exact .inr (newsN_mem hp (fun x => by rw [e]; simp))
      | id g2 =>
        simp only [e, Bool.and_eq_true] at this
        have h2 := Nat.eq_of_beq_eq_true this.1
        subst h2
        exact .inl (srcsN_mem e rfl)
  refine ⟨o, some (d, r'), D, ho, ⟨fun s2 s2' e1 e2 hf2 hi => ?_, fun g e1 e2 e3 e4 => ?_, fun q hq => (by obtain rfl := Option.some.inj hq; exact hd), fun k x hk => ?_, fun g hg => List.mem_append_left _ (List.mem_append_right _ hg)⟩, fun g hg => hfr g hg, ⟨fun _ => rfl, fun g => (hD _ g).symm⟩⟩
  · -- the call itself
    have he := ev_looks (st := st) (st' := s2) e1
    rw [hop] at he
    have hFl : ∀ g, F.contains g = true → lk s2.own g = lk st.own g := fun g hg => e2 g (List.mem_append_right _ (by simpa using hg))
    have hSl : ∀ g ∈ srcsN φ, lk s2.own g = lk st.own g := fun g hg => e2 g (List.mem_append_left _ hg)
    have hto2 : AV.ToL φ F s2.own (args.toList.map s2.ev ++ cs) as := by
      have : args.toList.map s2.ev = args.toList.map st.ev := List.map_congr_left fun x hx => he x (by simp [Op.operands, Call.operands]; exact .inr (by simpa using hx))
      rw [this]
      exact hto.own hFl
    have hoc2 : toH φ F s2.own ownC := toH_own hFl hSl hgv hoc
    have hf2' : s2.ev f = .fn fid cs := (he f (by simp [Op.operands, Call.operands])).trans hf
    intro C a w K Q hrel hK
    obtain ⟨q1, q2, σ, Z, hI, ht⟩ := hrel
    have ef := ev_rep ht f
    rw [hf2'] at ef
    obtain ⟨caps, hv, hcs⟩ := ef
    have hargs : AV.RepL σ Z w (args.toList.map s2.ev ++ cs) ((args.map a.eval).toList ++ caps.toList) := by
      refine AV.RepL.append ?_ hcs
      simpa using repL_get (ev_rep ht) args.toList
    have hrun : (execOp a.eval o).run P w = .ok (.enter fid (args.map a.eval ++ caps)) w := by
      simp [execOp, hop, resolve, hv, Deferred.ofValue, invoke, run_callFunc_enter hC.1]
    have hIc := inv_call (F := F) hI hsrc hoc2
    have hc := hC.2 _ _ w _ hIc (hto2.rep hI hargs)
    have hea : ((args.map a.eval).toList ++ caps.toList).toArray = args.map a.eval ++ caps := by
      apply Array.ext'
      simp
    rw [hea] at hc
    unfold wpOp
    simp only [ho]
    rw [if_pos (by simp [Region.wanted, hg])]
    refine .inl ?_
    unfold Oper.wp
    rw [hrun]
    show Calls P fid _ w _
    refine hc.mono ?_
    rintro e w' ⟨v, r0, own0, σ', Z', rfl, ⟨rfl, rfl⟩, hI', hrv⟩
    show K (a.put o.dst v) w'
    -- blocks that the callee may change
    have hmineC : ∀ b, Mine ownC (newσ φ σ) b → ∃ g ob0, g ∈ srcsN φ ∧ lk s2.own g = some ob0 ∧ blk (σ g) = some b := by
      rintro b ⟨k, ob, hk, hbk⟩
      rcases toH_src (σ := σ) hoc2 hk with h | ⟨g, ob0, h3, h4, h5⟩
      · rw [h] at hbk; cases hbk
      · rw [h5] at hbk
        obtain ⟨⟨x, hx⟩, _⟩ := givenB_lk hgv hk
        refine ⟨g, ob0, ?_, h4, hbk⟩
        simp only [whence, hx, Option.getD_some] at h3
        exact srcsN_mem hx h3
    have hkeepB : ∀ b, b < w.heap.size → ¬ Mine ownC (newσ φ σ) b → w'.heap[b]? = w.heap[b]? := fun b h1 h2 => hI'.frame b h1 h2
    have hkeep : Keeps Z w w' := fun b hz => hkeepB b (hI.zlt b hz) fun hm => by
      obtain ⟨g, ob0, _, h3, h4⟩ := hmineC b hm
      exact (hI.mine g ob0 b h3 h4).2.1 hz
    let σ2 : Nat → Value := fun g => match lk (rev ν) g with
      | some k => σ' k
      | none => σ g
    have hσ2 : ∀ k g, lk ν k = some g → σ2 g = σ' k := fun k g h => by
      have := (rev_lk h1).2 h
      simp only [σ2, this]
    have hold : ∀ g, g ∉ newsN φ ν → σ2 g = σ g := fun g hg => by
      simp only [σ2]
      split
      · rename_i k hk
        rcases back_cases hb ((rev_lk h1).1 hk) with ⟨h2, h3⟩ | ⟨_, h2⟩
        · have := hI'.keep k h3
          rw [this]
          show newσ φ σ k = σ g
          exact newσ_src (by simp [whence, h2])
        · exact absurd h2 hg
      · rfl
    obtain ⟨Z2, hZ2, hz1, hz2, hz3⟩ : ∃ Z2 : Nat → Prop, (L = true ∨ ∀ b, Z' b → Z2 b) ∧ (∀ b, Z b → Z2 b) ∧ (∀ b, Z2 b → Z' b) ∧ (∀ b, Z2 b → Z b ∨ Mine ownC (newσ φ σ) b ∨ w.heap.size ≤ b ∨ ∃ g ob, g ∈ dropF L F ∧ lk s2.own g = some ob ∧ blk (σ g) = some b) := by
      cases L with
      | true => exact ⟨Z, .inl rfl, fun _ h => h, fun b hz => hI'.zold b (.inl hz), fun _ h => .inl h⟩
      | false =>
        refine ⟨Z', .inr fun _ h => h, fun b hz => hI'.zold b (.inl hz), fun _ h => h, fun b hz => ?_⟩
        rcases hI'.znew b hz with h2 | h2 | h2
        · rcases h2 with h2 | ⟨g, ob, hF, hg, hb'⟩
          · exact .inl h2
          · exact .inr (.inr (.inr ⟨g, ob, by simpa [dropF] using hF, hg, hb'⟩))
        · exact .inr (.inl h2)
        · exact .inr (.inr (.inl h2))
    have hA' : ∀ g ob', lk A g = some ob' → ∃ k ob, lk ν k = some g ∧ lk own0 k = some ob ∧ OB.Rn L ν ob ob' := fun g ob' h => hA.lk h1 h
    have hlk : ∀ g ob, lk (A ++ rest (srcsN φ ++ vals ν ++ dropF L F) s2.own) g = some ob → (lk A g = some ob) ∨ (lk A g = none ∧ (g ∉ srcsN φ ∧ g ∉ dropF L F) ∧ g ∉ vals ν ∧ lk s2.own g = some ob) := by
      intro g ob h
      rw [lk_append] at h
      split at h
      · rename_i x hx; obtain rfl := Option.some.inj h; exact .inl hx
      · rename_i hx
        rw [lk_rest] at h
        split at h
        · cases h
        · rename_i hn; simp only [List.mem_append, not_or] at hn; exact .inr ⟨hx, ⟨hn.1.1, hn.2⟩, hn.1.2, h⟩
    have hnv : ∀ g, g ∉ vals ν → σ2 g = σ g := fun g hg => by
      simp only [σ2]
      split
      · rename_i k hk; exact absurd (vals_mem ((rev_lk h1).1 hk)) hg
      · rfl
    have hmA : ∀ g ob b, lk A g = some ob → blk (σ2 g) = some b → (C.O0 b ∨ C.w0.heap.size ≤ b) ∧ ¬ Z2 b ∧ b < w'.heap.size ∧ (Mine ownC (newσ φ σ) b ∨ w.heap.size ≤ b) := by
      intro g ob' b hg hb'
      obtain ⟨k, ob, hk, hok, _⟩ := hA' g ob' hg
      rw [hσ2 k g hk] at hb'
      obtain ⟨m1, m2, m3⟩ := hI'.mine k ob b hok hb'
      refine ⟨?_, fun hz => m2 (hz2 b hz), m3, m1⟩
      rcases m1 with h | h
      · obtain ⟨g0, ob0, _, h3, h4⟩ := hmineC b h
        exact (hI.mine g0 ob0 b h3 h4).1
      · exact .inr (Nat.le_trans hI.size h)
    have hmH : ∀ g ob b, g ∉ srcsN φ → lk s2.own g = some ob → blk (σ g) = some b → ¬ Mine ownC (newσ φ σ) b := by
      intro g ob b hng hg hb' hm
      obtain ⟨g0, ob0, h2, h3, h4⟩ := hmineC b hm
      have := hI.inj g g0 ob ob0 b hg h3 hb' h4
      subst this
      exact hng h2
    have hInv : Inv C (A ++ rest (srcsN φ ++ vals ν ++ dropF L F) s2.own) σ2 Z2 w' := by
      refine ⟨hI'.os.trans hI.os, hI'.tape.trans hI.tape, hI'.output.trans hI.output, Nat.le_trans hI.size hI'.size, Nat.le_trans hI.drawn hI'.drawn, fun b hb1 hb2 => ?_, fun b hz => hI'.zlt b (hz2 b hz), fun b hz => hz1 b (hI.zold b hz), fun b hz => ?_, fun g ob hg => ?_, fun g ob b hg hb' => ?_, fun g g' ob ob' b hg hg' hbg hbg' => ?_, fun g hg => ?_⟩
      · refine (hkeepB b (Nat.lt_of_lt_of_le hb1 hI.size) fun hm => ?_).trans (hI.frame b hb1 hb2)
        obtain ⟨g0, ob0, _, h3, h4⟩ := hmineC b hm
        rcases (hI.mine g0 ob0 b h3 h4).1 with h | h
        · exact hb2 h
        · omega
      · rcases hz3 b hz with h | h | h | ⟨g0, ob0, _, h3, h4⟩
        · exact hI.znew b h
        · obtain ⟨g0, ob0, _, h3, h4⟩ := hmineC b h
          exact .inr (hI.mine g0 ob0 b h3 h4).1
        · exact .inr (.inr (Nat.le_trans hI.size h))
        · exact .inr (hI.mine g0 ob0 b h3 h4).1
      · rcases hlk g ob hg with h | ⟨h, ⟨hns, hnd⟩, hnv', hg2⟩
        · obtain ⟨k, ob0, hk, hok, hrn⟩ := hA' g ob h
          rw [hσ2 k g hk]
          exact hrn.rep hZ2 hσ2 (hI'.has k ob0 hok)
        · rw [hnv g hnv']
          refine (hI.has g ob hg2).mono hkeep hz1 (fun k hk => hold k fun hkn => ?_) (fun b hb' => hkeepB b (hI.mine g ob b hg2 hb').2.2 (hmH g ob b hns hg2 hb'))
          rw [(hf2 k hkn).2 g ob hg2] at hk
          cases hk
      · rcases hlk g ob hg with h | ⟨h, ⟨hns, hnd⟩, hnv', hg2⟩
        · obtain ⟨m1, m2, m3, _⟩ := hmA g ob b h hb'
          exact ⟨m1, m2, m3⟩
        · rw [hnv g hnv'] at hb'
          have hm := hI.mine g ob b hg2 hb'
          refine ⟨hm.1, fun hz => ?_, Nat.lt_of_lt_of_le hm.2.2 hI'.size⟩
          rcases hz3 b hz with h2 | h2 | h2 | ⟨g0, ob0, h2, h3, h4⟩
          · exact hm.2.1 h2
          · exact hmH g ob b hns hg2 hb' h2
          · have := hm.2.2; omega
          · have := hI.inj g g0 ob ob0 b hg2 h3 hb' h4
            subst this
            exact hnd h2
      · have cross : ∀ g g' ob ob', lk A g = some ob → g' ∉ srcsN φ → g' ∉ vals ν → lk s2.own g' = some ob' → blk (σ2 g) = some b → blk (σ2 g') = some b → False := by
          intro g g' ob ob' hg hns hnv' hg' hb1 hb2
          rw [hnv g' hnv'] at hb2
          rcases (hmA g ob b hg hb1).2.2.2 with h | h
          · exact hmH g' ob' b hns hg' hb2 h
          · have := (hI.mine g' ob' b hg' hb2).2.2; omega
        rcases hlk g ob hg with h | ⟨h, ⟨hns, _⟩, hnv', hg2⟩
        · rcases hlk g' ob' hg' with h' | ⟨h', ⟨hns', _⟩, hnv2, hg2'⟩
          · obtain ⟨k, ob0, hk, hok, _⟩ := hA' g ob h
            obtain ⟨k', ob0', hk', hok', _⟩ := hA' g' ob' h'
            rw [hσ2 k g hk] at hbg
            rw [hσ2 k' g' hk'] at hbg'
            have := hI'.inj k k' _ _ b hok hok' hbg hbg'
            subst this
            rw [hk] at hk'
            exact Option.some.inj hk'
          · exact (cross g g' ob ob' h hns' hnv2 hg2' hbg hbg').elim
        · rcases hlk g' ob' hg' with h' | ⟨h', ⟨hns', _⟩, hnv2, hg2'⟩
          · exact (cross g' g ob' ob h' hns hnv' hg2 hbg' hbg).elim
          · rw [hnv g hnv'] at hbg
            rw [hnv g' hnv2] at hbg'
            exact hI.inj g g' _ _ b hg2 hg2' hbg hbg'
      · simp only [σ2]
        split
        · rename_i k hk
          rcases back_cases hb ((rev_lk h1).1 hk) with ⟨h2, h3⟩ | ⟨h2, _⟩
          · rw [hI'.keep k h3]
            show newσ φ σ k = C.σ0 g
            rw [newσ_src (show whence φ k = .id g by simp [whence, h2])]
            exact hI.keep g hg
          · omega
        · exact hI.keep g hg
    apply hK
    have hInv' : Inv C s2'.own σ2 Z2 w' := hInv.same fun g => by rw [hi.2, hD]
    refine ⟨(put_defers ..).trans q1, by simp [Act.put, hd, q2], σ2, Z2, hInv', ?_⟩
    have htt : Temps σ2 Z2 w' ((d, r') :: s2.t) (a.tmps.setIfInBounds d v) := by
      refine Temps.put (ht.mono hkeep hz1 fun j x hj g hgx => hold g fun hgn => ?_) (by omega) (hr.rep hZ2 hσ2 hrv)
      rw [(hf2 g hgn).1 j x hj] at hgx
      cases hgx
    simp only [Act.put, hd]
    exact fun j x hj => htt j x (by rw [hi.1] at hj; exact hj)
  · have hg : g ∉ vals ν := fun h => by
      rcases hvals g h with h | h
      · exact e4 (List.mem_append_left _ h)
      · exact e3 h
    refine ⟨fun q hq => by obtain rfl := Option.some.inj hq; exact hr.refs hg, fun k ob hk => ?_⟩
    simp only [D, lk_append, lk_mapSome, hDn] at hk
    cases e : lk A k with
    | none =>
      rw [e] at hk
      simp only [Option.map_none] at hk
      split at hk <;> simp at hk
    | some x =>
      rw [e] at hk
      simp at hk
      subst hk
      obtain ⟨k0, ob0, _, _, hrn⟩ := hA.lk h1 e
      cases hrn with
      | row h => exact h.refs hg
      | box h => exact h.refs hg
  · simp only [D, lk_append, lk_mapSome, hDn] at hk
    cases e : lk A k with
    | none =>
      rw [e] at hk
      simp only [Option.map_none] at hk
      split at hk
      · rename_i hm
        rcases List.mem_append.1 hm with h | h
        · rcases List.mem_append.1 h with h | h
          · exact List.mem_append_left _ (List.mem_append_left _ h)
          · rcases hvals k h with h | h
            · exact List.mem_append_left _ (List.mem_append_left _ h)
            · exact List.mem_append_left _ (List.mem_append_right _ h)
        · exact List.mem_append_right _ h
      · cases hk
    | some x =>
      obtain ⟨k0, ob0, hk0, _, _⟩ := hA.lk h1 e
      rcases hvals k (vals_mem hk0) with h | h
      · exact List.mem_append_left _ (List.mem_append_left _ h)
      · exact List.mem_append_left _ (List.mem_append_right _ h)
theorem Ops.callO {l : List Oper} {fps : List Fp} {K : St → Prop} {t : List (Nat × AV)} {H H1 : Own} {f : Operand} {args : Array Operand} {ts : Array TypeId} {fid : FuncId} {cs as0 as : List AV} {r r' : AV} {ownC own' A : Own} (φ : List (Nat × Whence)) (F : List Nat) (ν : List (Nat × Nat)) (L : Bool)
    (hg : o.guard = none) (hd : o.dst = some d) (hn : Nat.blt d n = true) (hop : o.op = .call { callee := .value f, args := args, argTypes := ts }) (hf : evO t f = some (.fn fid cs)) (hev : evL t args.toList = some as0) (hC : FunO P fid as ownC r own') (hto : AV.ToL φ F H (as0 ++ cs) as) (hoc : toH φ F H ownC)
    (hgv : givenB φ ownC = true) (hsrc : srcsB φ F ownC = true) (hr : AV.Rn L ν r r') (hA : OwnRn L ν own' A) (h1 : oneB ν = true) (hb : backB φ ν = true) (hfr : (newsN φ ν).all (fun g => noRefT g t && noRefH g H) = true) (hrest : rest (srcsN φ ++ vals ν ++ dropF L F) H = H1)
    (hK : OpsL P T n ops (i + 1) l fps K ⟨(d, r') :: t, A ++ H1⟩) : OpsL P T n ops i (o :: l) (⟨srcsN φ ++ F, srcsN φ ++ newsN φ ν ++ dropF L F, newsN φ ν⟩ :: fps) K ⟨t, H⟩ := by
  subst hrest
  refine ⟨_, _, rfl, fun ho => ⟨_, Step.callO (st := ⟨t, H⟩) (L := L) ho hg hd (by simpa [Nat.blt_eq] using hn) hop (evO_ev (st := ⟨t, H⟩) hf) (by rw [evL_ev (st := ⟨t, H⟩) hev]; exact hto) hoc hgv hsrc hC hr hA h1 hb (fun g hg => ?_), hK.out⟩⟩
  have := List.all_eq_true.1 hfr g hg
  simp only [Bool.and_eq_true] at this
  exact ⟨noT_of this.1, noH_of this.2⟩
end
mutual
/-- Which of the caller's blocks are meant by the names that the called function has for what it gets. -/
def AV.phi : AV → AV → List (Nat × Whence)
  | .osl g, .osl k => [(k, .id g)]
  | .nil, .osl k => [(k, .nil)]
  | .osb g _ n _, .osl k => [(k, .cut g n)]
  | .optr g _, .optr k _ => [(k, .id g)]
  | .agg as, .agg bs => AV.phiL as bs
  | .tup as, .tup bs => AV.phiL as bs
  | .fn _ as, .fn _ bs => AV.phiL as bs
  | _, _ => []
def AV.phiL : List AV → List AV → List (Nat × Whence)
  | a :: as, b :: bs => AV.phi a b ++ AV.phiL as bs
  | _, _ => []
end
mutual
/-- .. and which are lent. -/
def AV.lent : AV → AV → List Nat
  | .osl g, .fv _ => [g]
  | .osb g _ _ _, .fv _ => [g]
  | .optr g _, .fptr _ => [g]
  | .agg as, .agg bs => AV.lentL as bs
  | .tup as, .tup bs => AV.lentL as bs
  | .fn _ as, .fn _ bs => AV.lentL as bs
  | _, _ => []
def AV.lentL : List AV → List AV → List Nat
  | a :: as, b :: bs => AV.lent a b ++ AV.lentL as bs
  | _, _ => []
end
def phiO (H : Own) : List (Nat × Whence) → Own → List (Nat × Whence)
  | φ, [] => φ
  | φ, (k, .box _ cs) :: l => match lk φ k with
    | some (.id g) => match lk H g with
      | some (.box _ c0) => phiO H (φ ++ AV.phiL c0 cs) l
      | _ => phiO H φ l
    | _ => phiO H φ l
  | φ, (_, .row _ _ _ _) :: l => phiO H φ l
def lentO (H : Own) (φ : List (Nat × Whence)) : List Nat → Own → List Nat
  | F, [] => F
  | F, (k, .box _ cs) :: l => match lk φ k with
    | some (.id g) => match lk H g with
      | some (.box _ c0) => lentO H φ (F ++ AV.lentL c0 cs) l
      | _ => lentO H φ F l
    | _ => lentO H φ F l
  | F, (_, .row _ _ _ _) :: l => lentO H φ F l
def nuA (φ : List (Nat × Whence)) : Nat → Own → List (Nat × Nat)
  | _, [] => []
  | d, (k, _) :: l => match lk φ k with
    | some (.id g) => (k, g) :: nuA φ d l
    | _ => (k, d) :: nuA φ (d + 300) l
/-- Names that nobody uses. -/
def freeNs : List Nat → List (Nat × AV) → Own → Bool
  | [], _, _ => true
  | g :: l, t, H => noRefT g t && noRefH g H && freeNs l t H
theorem freeNs_all : ∀ {N : List Nat} {t : List (Nat × AV)} {H : Own}, freeNs N t H = true → N.all (fun g => noRefT g t && noRefH g H) = true
  | [], _, _, _ => rfl
  | g :: l, t, H, h => by
    simp only [freeNs, Bool.and_eq_true] at h
    simp only [List.all_cons, Bool.and_eq_true]
    exact ⟨h.1, freeNs_all h.2⟩
def anyB : List Nat → Bool
  | [] => false
  | _ :: _ => true
theorem anyB_or : ∀ (F : List Nat), anyB F = true ∨ F = []
  | [] => .inr rfl
  | _ :: _ => .inl rfl
section
variable {P : Program} {T : Tbl} {n i : Nat} {ops : Array Oper} {o : Oper} {d : Nat}
/-- The same, names found by themselves. -/
theorem Ops.callA (L : Bool) {l : List Oper} {fps : List Fp} {K : St → Prop} {t : List (Nat × AV)} {H H1 : Own} {N : List Nat} {f : Operand} {args : Array Operand} {ts : Array TypeId} {fid : FuncId} {cs as0 as : List AV} {r r' : AV} {ownC own' A : Own}
    (hg : o.guard = none) (hd : o.dst = some d) (hn : Nat.blt d n = true) (hop : o.op = .call { callee := .value f, args := args, argTypes := ts }) (hf : evO t f = some (.fn fid cs)) (hev : evL t args.toList = some as0) (hC : FunO P fid as ownC r own')
    (hto : AV.ToL (phiO H (AV.phiL (as0 ++ cs) as) ownC) (lentO H (phiO H (AV.phiL (as0 ++ cs) as) ownC) (AV.lentL (as0 ++ cs) as) ownC) H (as0 ++ cs) as) (hoc : toH (phiO H (AV.phiL (as0 ++ cs) as) ownC) (lentO H (phiO H (AV.phiL (as0 ++ cs) as) ownC) (AV.lentL (as0 ++ cs) as) ownC) H ownC)
    (hgv : givenB (phiO H (AV.phiL (as0 ++ cs) as) ownC) ownC = true) (hsrc : srcsB (phiO H (AV.phiL (as0 ++ cs) as) ownC) (lentO H (phiO H (AV.phiL (as0 ++ cs) as) ownC) (AV.lentL (as0 ++ cs) as) ownC) ownC = true)
    (hr : AV.Rn L (nuA (phiO H (AV.phiL (as0 ++ cs) as) ownC) d own') r r') (hA : OwnRn L (nuA (phiO H (AV.phiL (as0 ++ cs) as) ownC) d own') own' A)
    (h1 : oneB (nuA (phiO H (AV.phiL (as0 ++ cs) as) ownC) d own') = true) (hb : backB (phiO H (AV.phiL (as0 ++ cs) as) ownC) (nuA (phiO H (AV.phiL (as0 ++ cs) as) ownC) d own') = true)
    (hN : newsN (phiO H (AV.phiL (as0 ++ cs) as) ownC) (nuA (phiO H (AV.phiL (as0 ++ cs) as) ownC) d own') = N) (hfr : freeNs N t H = true) (hH1 : A ++ rest (srcsN (phiO H (AV.phiL (as0 ++ cs) as) ownC) ++ vals (nuA (phiO H (AV.phiL (as0 ++ cs) as) ownC) d own') ++ dropF L (lentO H (phiO H (AV.phiL (as0 ++ cs) as) ownC) (AV.lentL (as0 ++ cs) as) ownC)) H = H1)
    (hK : OpsL P T n ops (i + 1) l fps K ⟨(d, r') :: t, H1⟩) :
    OpsL P T n ops i (o :: l) (⟨srcsN (phiO H (AV.phiL (as0 ++ cs) as) ownC) ++ lentO H (phiO H (AV.phiL (as0 ++ cs) as) ownC) (AV.lentL (as0 ++ cs) as) ownC, srcsN (phiO H (AV.phiL (as0 ++ cs) as) ownC) ++ N ++ dropF L (lentO H (phiO H (AV.phiL (as0 ++ cs) as) ownC) (AV.lentL (as0 ++ cs) as) ownC), N⟩ :: fps) K ⟨t, H⟩ := by
  subst hN hH1
  exact Ops.callO _ _ _ _ hg hd hn hop hf hev hC hto hoc hgv hsrc hr hA h1 hb (freeNs_all hfr) rfl hK
end
end Go.Proofs.Ytdbbmjdeeenlhaa

/- A logic of memory: bytes of strings appended; rows cleared; appends onto a part of a row; rows that nobody writes any more. -/
namespace Go.Proofs.Ytdbbmjdeeenlhaa
open Go.RowKit

/-- A string's bytes as cells. -/
def strFV (s : ByteArray) : List FV := s.data.toList.flatMap encB
theorem strFV_rep {σ : Nat → Value} {Z : Nat → Prop} {w : World} (s : ByteArray) : AV.RepL σ Z w ((strFV s).map .fv) (Go.Lib.strCells s) := by
  unfold strFV Go.Lib.strCells
  generalize s.data.toList = l
  induction l with
  | nil => trivial
  | cons b l ih => exact ⟨rfl, ih⟩
theorem setC_mk : ∀ {cs : List AV} {off : Nat} {us : List AV}, off + us.length ≤ cs.length → setC cs off us = some (cs.take off ++ us ++ cs.drop (off + us.length))
  | cs, 0, [], _ => by cases cs <;> simp [setC]
  | c :: cs, 0, u :: us, h => by
    have ih := setC_mk (cs := cs) (off := 0) (us := us) (by simp at h ⊢; omega)
    simp only [setC, ih]
    simp
  | c :: cs, n + 1, us, h => by
    have ih := setC_mk (cs := cs) (off := n) (us := us) (by simp at h ⊢; omega)
    simp only [setC, ih]
    rw [show n + 1 + us.length = (n + us.length) + 1 from by omega]
    simp
  | [], 0, _ :: _, h => by simp at h
  | [], n + 1, _, h => by simp at h

theorem condD {st : St} {c : Operand} {b b' : Bool} (h : st.ev c = .fv (.bool b)) (hb : b = b') : st.ev c = .fv (.bool b') := hb ▸ h
section
variable {P : Program} {T : Tbl} {n i : Nat} {ops : Array Oper} {st : St} {o : Oper} {d : Nat}
theorem appS_sem {t u e k : Nat} {s : ByteArray} {x y : Operand} {cs : List AV} {H' : Own} (hT : T.Ok P) (ho : ops[i]? = some o) (hg : o.guard = none) (hd : o.dst = some d) (hn : d < n) (hop : o.op = .call { callee := .builtin .append, args := #[x, y], argTypes := #[t, u] }) (ht' : lk T.sli t = some (e, 1, 1)) (hbt : lk T.byt e = some ()) (hu : lk T.str u = some ())
    (hB : ABase st.own e 1 (st.ev x) k cs H') (hy : st.ev y = .fv (.str s)) (h47 : k + s.size ≤ 140737488355328) (hf : Fresh st [(d, .row e 1 (k + s.size) (cs ++ (strFV s).map .fv))]) : OpSem P n ops i st ⟨(d, .osl d) :: st.t, (d, .row e 1 (k + s.size) (cs ++ (strFV s).map .fv)) :: H'⟩ := by
  rintro C a w K Q ⟨h1, h2, σ, Z, hI, ht⟩ hK
  obtain ⟨hlow, hnT, hnH⟩ := hf (d, .row e 1 (k + s.size) (cs ++ (strFV s).map .fv)) (by simp)
  obtain ⟨hut, _⟩ := sliT_spec (tbl_lk hT.sli ht')
  obtain ⟨i', hi1, hi2, hi3, hi4⟩ := bytT_spec (tbl_lk hT.byt hbt)
  have hus := strT_spec (tbl_lk hT.str hu)
  have hyv : a.eval y = .string s := by have := ev_rep ht y; rw [hy] at this; exact this.1
  have hbase : ∃ v xs, a.eval x = v ∧ rowZ w e 1 v k xs ∧ AV.RepL σ Z w cs xs ∧ AV.refsL d cs = false ∧ (∀ b, blk v = some b → (C.O0 b ∨ C.w0.heap.size ≤ b) ∧ ¬ Z b) ∧ (∀ i x, lk H' i = some x → lk st.own i = some x ∧ ∀ b, blk (σ i) = some b → some b ≠ blk v) := by
    have hxr := ev_rep ht x
    generalize st.ev x = ax at hB hxr
    cases hB with
    | nil =>
      refine ⟨.slice none 0 0, [], hxr, ⟨by simp, .inl ⟨rfl, none, rfl⟩⟩, trivial, rfl, ?_, ?_⟩
      · intro b hb
        cases hb
      · intro i x hi
        exact ⟨hi, fun b _ h => by cases h⟩
    | @own g _ _ _ hg' hrm =>
      obtain ⟨hv, _⟩ := hxr
      obtain ⟨xs, ho1, ho2⟩ := hI.has g _ hg'
      refine ⟨σ g, xs, hv, ho1, ho2, hnH _ (.row e 1 k cs) hg', fun b hb => ?_, fun i x hi => ?_⟩
      · have := hI.mine g _ b hg' hb
        exact ⟨this.1, this.2.1⟩
      · obtain ⟨h1, h2⟩ := hrm.lk i x hi
        exact ⟨h2, fun b hb e' => h1 (hI.inj i g x _ b h2 hg' hb e'.symm)⟩
  obtain ⟨v, xs, hxv, hown, hcr, hcref, hmine, hsub⟩ := hbase
  obtain ⟨v', w', hrun, hown', hgr, hdr, hbv⟩ := run_appS (P := P) w (ty := o.type) hut hus hi1 hi2 hi3 hi4 s (by unfold maxLen; omega) h47 hown
  unfold wpOp
  simp only [ho]
  rw [if_pos (by simp [Region.wanted, hg])]
  refine .inl (wp_val (v := v') (w' := w') (by simp [execOp, hop, resolve, invoke, builtin, hxv, hyv, hrun]) ?_)
  have hkeep : Keeps Z w w' := fun b hb => hgr.block b (hI.zlt b hb) (fun e => (hmine b e.symm).2 hb)
  have hv' : ∃ A n c, v' = .slice A n c := by
    rcases hown'.2 with ⟨_, A, e⟩ | ⟨_, _, _, e, _⟩ <;> exact ⟨_, _, _, e⟩
  have hrefs : AV.refsL d (cs ++ (strFV s).map .fv) = false := refsL_append hcref (refsL_fv _)
  have hrep : AV.RepL (upd σ d v') Z w' (cs ++ (strFV s).map .fv) (xs ++ Go.Lib.strCells s) := AV.RepL.mono hkeep (fun _ h => h) (refsL_upd v' hrefs) (hcr.append (strFV_rep s))
  obtain ⟨hI', _⟩ := hI.append (d := d) (v' := v') (ob := .row e 1 (k + s.size) (cs ++ (strFV s).map .fv)) hlow hnH hsub hmine hgr hdr hbv ⟨_, hown', hrep⟩
  apply hK
  refine ⟨(put_defers ..).trans h1, by simp [Act.put, hd, h2], _, Z, hI', ?_⟩
  simp only [Act.put, hd]
  refine Temps.put (ht.mono hkeep (fun _ h => h) (fun i a hi => refs_upd v' (hnT _ _ hi))) (by omega) ⟨by rw [upd_hit], hv'⟩
theorem OpSem.eqv {s s1 s2 : St} (h : OpSem P n ops i s s1) (he : Eqv s1 s2) : OpSem P n ops i s s2 := fun C a w K Q hr hK => h C a w K Q hr fun a' w' hr' => hK a' w' (he.rel hr')
theorem hNone (N : List Nat) (g : Nat) : lk (N.map fun g => (g, (none : Option OB))) g = if g ∈ N then some none else none := by
  induction N with
  | nil => simp [lk]
  | cons a N ih =>
    simp only [List.map_cons, lk_cons, ih]
    by_cases h : a = g
    · subst h; simp
    · simp [h, Ne.symm h]
theorem Step.appS {t u e k : Nat} {s : ByteArray} {x y : Operand} {cs : List AV} {H' : Own} (ho : ops[i]? = some o) (hg : o.guard = none) (hd : o.dst = some d) (hn : d < n) (hop : o.op = .call { callee := .builtin .append, args := #[x, y], argTypes := #[t, u] }) (ht' : lk T.sli t = some (e, 1, 1)) (hbt : lk T.byt e = some ()) (hu : lk T.str u = some ())
    (hB : ABase st.own e 1 (st.ev x) k cs H') (hy : st.ev y = .fv (.str s)) (h47 : k + s.size ≤ 140737488355328) (hf : Fresh st [(d, .row e 1 (k + s.size) (cs ++ (strFV s).map .fv))]) :
    Step P T n ops i ⟨baseN (st.ev x), d :: baseN (st.ev x), [d]⟩ st ⟨(d, .osl d) :: st.t, (d, .row e 1 (k + s.size) (cs ++ (strFV s).map .fv)) :: H'⟩ := by
  intro hT
  obtain ⟨hlow, hnT, hnH⟩ := hf (d, .row e 1 (k + s.size) (cs ++ (strFV s).map .fv)) (by simp)
  have hbase : ∀ s2 : St, s2.ev x = st.ev x → (∀ g ∈ baseN (st.ev x), lk s2.own g = lk st.own g) → ABase s2.own e 1 (s2.ev x) k cs (appD ((baseN (st.ev x)).map fun g => (g, none)) s2.own) := by
    intro s2 hx hl
    rw [hx]
    generalize st.ev x = ax at hB hl
    cases hB with
    | nil => exact .nil
    | @own g _ _ _ hg _ => exact .own ((hl g (by simp [baseN])).trans hg) (rmv_p g _)
  have hH' : ∀ g, lk H' g = lk (appD ((baseN (st.ev x)).map fun g => (g, none)) st.own) g := by
    intro g
    generalize st.ev x = ax at hB
    cases hB with
    | nil => rfl
    | @own g0 _ _ _ hg hr =>
      simp only [baseN, List.map_cons, List.map_nil, appD]
      rw [lk_rmv]
      split
      · rename_i e; subst e; exact hr.1
      · rename_i e; exact hr.2 g (Ne.symm e)
  refine ⟨o, some (d, .osl d), (d, some (.row e 1 (k + s.size) (cs ++ (strFV s).map .fv))) :: (baseN (st.ev x)).map fun g => (g, none), ho, ⟨fun s2 s2' e1 e2 hf2 hi => ?_, fun g e1 e2 e3 _ => ?_, fun q hq => (by obtain rfl := Option.some.inj hq; exact hd), fun q z hk => ?_, fun g hg => (by simp at hg; simp [hg])⟩, fun g hg => ?_, ⟨fun _ => rfl, fun g => ?_⟩⟩
  · have he := ev_looks (st := st) (st' := s2) e1
    rw [hop] at he
    have hx := he x (by simp [Op.operands, Call.operands])
    have hy' := he y (by simp [Op.operands, Call.operands])
    refine (appS_sem hT ho hg hd hn hop ht' hbt hu (hbase s2 hx e2) (hy'.trans hy) h47 (fun p hp => by simp at hp; subst hp; exact ⟨hlow, hf2 d (by simp)⟩)).eqv ⟨fun j => hi.1 j, fun g => ?_⟩
    rw [hi.2, eff_cons, lk_cons, lk_app]
  · have h13 := ev_looks_refs e1
    rw [hop] at h13
    have hx := h13 x (by simp [Op.operands, Call.operands])
    refine ⟨fun q hq => ?_, fun q ob hk => ?_⟩
    · obtain rfl := Option.some.inj hq
      simp only [AV.refs]
      cases e : Nat.beq d g with
      | false => rfl
      | true => exact absurd (Nat.eq_of_beq_eq_true e) (by intro e; subst e; simp at e3)
    · rw [lk_cons, hNone] at hk
      split at hk
      · simp only [Option.some.injEq] at hk
        subst hk
        refine refsL_append ?_ (refsL_fv _)
        generalize st.ev x = ax at hB hx e2
        cases hB with
        | nil => rfl
        | @own g0 _ _ _ hg _ => exact e2 g0 (by simp [baseN]) _ hg
      · split at hk <;> simp at hk
  · rw [lk_cons, hNone] at hk
    split at hk
    · rename_i e; subst e; simp
    · split at hk
      · rename_i h; simp [h]
      · cases hk
  · simp at hg
    subst hg
    exact ⟨hnT, hnH⟩
  · show lk ((d, _) :: H') g = _
    rw [eff_cons, lk_cons, hH', lk_app]

theorem Ops.appS {l : List Oper} {fps : List Fp} {K : St → Prop} {t : List (Nat × AV)} {H H' : Own} {ty u e k : Nat} {s : ByteArray} {x y : Operand} {ax : AV} {cs : List AV} (hg : o.guard = none) (hd : o.dst = some d) (hn : Nat.blt d n = true) (hop : o.op = .call { callee := .builtin .append, args := #[x, y], argTypes := #[ty, u] }) (hty : lk T.sli ty = some (e, 1, 1)) (hbt : lk T.byt e = some ()) (hu : lk T.str u = some ())
    (hx : evO t x = some ax) (hy : evO t y = some (.fv (.str s))) (hB : ABase H e 1 ax k cs H') (h47 : k + s.size ≤ 140737488355328) (hf : freshB ⟨t, H⟩ [(d, .row e 1 (k + s.size) (cs ++ (strFV s).map .fv))] = true) (hK : OpsL P T n ops (i + 1) l fps K ⟨(d, .osl d) :: t, (d, .row e 1 (k + s.size) (cs ++ (strFV s).map .fv)) :: H'⟩) :
    OpsL P T n ops i (o :: l) (⟨baseN ax, d :: baseN ax, [d]⟩ :: fps) K ⟨t, H⟩ :=
  ⟨_, _, rfl, fun ho => ⟨_, by
    have e1 := evO_ev (st := ⟨t, H⟩) hx
    have := Step.appS (P := P) (T := T) (n := n) (st := ⟨t, H⟩) (d := d) (k := k) (cs := cs) ho hg hd (by simpa [Nat.blt_eq] using hn) hop hty hbt hu (by rw [e1]; exact hB) (evO_ev (st := ⟨t, H⟩) hy) h47 (freshB_mem hf)
    rw [e1] at this
    exact this, hK.out⟩⟩
end
/-- A function that gets blocks and leaves blocks, by its body. -/
theorem FunO.body {P : Program} {T : Tbl} {f : FuncId} {fn : Func} {c : Code} {n : Nat} {args : List AV} {own own' : Own} {r : AV} (hT : T.Ok P) (hf : P.funcs[f]? = some fn) (hb : fn.body = some c) (hen : enterB P f = true) (hn : fn.ntmps = n) (hargs : Nat.ble args.length n = true) {rvs : List ResultVar} (hrv : fn.results.toList = rvs)
    (h : WP P n c (Post T rvs fun r' o' => r' = r ∧ o' = own') ⟨argT 0 args, own⟩) : FunO P f args own r own' := Triple.body hT hf hb hen hn hargs hrv h
theorem Post.ofO {T : Tbl} {rvs : List ResultVar} {r : AV} {own' : Own} {e : Exit} {s s' : St} {rs : List AV} (he : e = .ret ∨ e = .normal) (hle : St.Le s s') (h1 : retL T s' rvs = some rs) (h2 : retA rs = r) (h3 : s'.own = own') : Post T rvs (fun r' o' => r' = r ∧ o' = own') e s := by
  rcases he with rfl | rfl <;> exact ⟨s', hle, rs, h1, h2, h3⟩
/-- What a function leaves is nobody's. -/
theorem FunO.froz {P : Program} {f : FuncId} {args : List AV} {own' : Own} {r r' : AV} (F : List Nat) (h : FunO P f args [] r own') (hr : AV.To [] F own' r r') : Fun P f args r' := by
  refine ⟨h.1, fun σ Z w vs hI hrep => (h.2 σ Z w vs hI hrep).mono ?_⟩
  rintro e w' ⟨v, r0, own0, σ', Z', rfl, ⟨rfl, rfl⟩, hI', hr'⟩
  have hv := hr.rep hI' hr'
  refine ⟨v, r', [], _, _, rfl, ⟨rfl, rfl⟩, ⟨hI'.os, hI'.tape, hI'.output, hI'.size, hI'.drawn, hI'.frame, fun b hb => ?_, fun b hb => .inl (hI'.zold b hb), fun b hb => ?_, fun g ob h => by simp [lk] at h, fun g ob b h => by simp [lk] at h, fun g g' ob ob' b h => by simp [lk] at h, fun g hg => hI'.keep g hg⟩, hv⟩
  · rcases hb with h | ⟨g, ob, _, hg, hb⟩
    · exact hI'.zlt b h
    · exact (hI'.mine g ob b hg hb).2.2
  · rcases hb with h | ⟨g, ob, _, hg, hb⟩
    · exact hI'.znew b h
    · exact .inr (hI'.mine g ob b hg hb).1
/-- 'fillA', in one pass. -/
def fillS (place : Nat → Option (Nat × Nat)) : List AV → List (Nat × List AV) → Option (List AV)
  | cs, [] => some cs
  | cs, (i, us) :: rest => match place i with
    | some (off, size) => match Nat.beq us.length size with
      | true => match setC cs off us with
        | some cs' => fillS place cs' rest
        | none => none
      | false => none
    | none => none
theorem fillS_eq {place : Nat → Option (Nat × Nat)} : ∀ {l : List (Nat × List AV)} {cs r : List AV}, fillS place cs l = some r → fillA place cs l = some r
  | [], _, _, h => h
  | (i, us) :: rest, cs, r, h => by
    unfold fillS at h
    unfold fillA
    split at h
    · rename_i off size hp
      split at h
      · rename_i hb
        split at h
        · rename_i cs' hs
          obtain ⟨h1, h2⟩ := setC_eq hs
          have e := Nat.eq_of_beq_eq_true hb
          rw [hp]
          dsimp only
          rw [hb, Nat.ble_eq_true_of_le (show off + size ≤ cs.length by omega)]
          dsimp only
          rw [← e, ← h2]
          exact fillS_eq h
        · cases h
      · cases h
    · cases h
section
variable {T : Tbl} {ρ : Operand → AV} {H : Own} {d : Nat}
theorem Eff.buildS {t : Nat} {parts : Array (Nat × Operand)} {zs cs : List AV} {pl : List (Nat × Nat)} {us : List (Nat × List AV)} (h1 : lk T.zero t = some zs) (h2 : lk T.plc t = some pl) (h3 : cellsL ρ parts.toList = some us) (h4 : fillS (pl[·]?) zs us = some cs) : Eff T ρ H d (.build t parts) (.agg cs) [] :=
  .build h1 h2 h3 (fillS_eq h4)
theorem Eff.bsliceS {t n e s b : Nat} {parts : Array (Nat × Operand)} {zs cs : List AV} {us : List (Nat × List AV)} (h1 : lk T.sli t = some (e, s, b)) (h2 : lk T.zero e = some zs) (h3 : cellsL ρ parts.toList = some us) (h4 : fillS (fun i => some (i * s, s)) ((List.replicate n zs).flatten) us = some cs) (h5 : Nat.ble (n * s) 100000 = true) : Eff T ρ H d (.buildSlice t n parts) (.osl d) [(d, .row e s n cs)] :=
  .bslice h1 h2 h3 (fillS_eq h4) h5
theorem Eff.bsliceFS {t n e s b : Nat} {parts : Array (Nat × Operand)} {zs cs : List AV} {us : List (Nat × List AV)} {fs : List FV} (h1 : lk T.sli t = some (e, s, b)) (h2 : lk T.zero e = some zs) (h3 : cellsL ρ parts.toList = some us) (h4 : fillS (fun i => some (i * s, s)) ((List.replicate n zs).flatten) us = some cs) (h5 : Nat.ble (n * s) 100000 = true) (h6 : plainL cs = some fs) : Eff T ρ H d (.buildSlice t n parts) (.fv (.sl fs n)) [] :=
  .bsliceF h1 h2 h3 (fillS_eq h4) h5 h6
end
end Go.Proofs.Ytdbbmjdeeenlhaa

/- The types of the program that the proofs ask about. -/
namespace Go.Proofs.Ytdbbmjdeeenlhaa
set_option maxRecDepth 100000
def tbl : Tbl where
  one := [(2, ()), (3, ()), (4, ()), (5, ()), (6, ()), (9, ()), (10, ()), (11, ()), (12, ()), (15, ()), (16, ()), (17, ()), (25, ()), (26, ()), (31, ()), (34, ()), (37, ()), (40, ()), (46, ()), (47, ()), (48, ()), (81, ()), (115, ()), (128, ()), (130, ()), (136, ()), (137, ()), (139, ()), (145, ()), (147, ()), (156, ()), (167, ()), (174, ()), (175, ()), (177, ()), (180, ()), (183, ()), (191, ()), (193, ()), (198, ()), (202, ()), (206, ()), (216, ()), (217, ()), (218, ()), (219, ()), (220, ()), (221, ())]
  agg := [(8, 4), (14, 2), (19, 1), (22, 10), (24, 11), (30, 3), (33, 3), (36, 4), (44, 13), (50, 3), (52, 3), (54, 5), (56, 9), (58, 8), (60, 28), (67, 4), (141, 5), (149, 10), (211, 4), (223, 11)]
  fld := [(8, [(0, 0), (1, 1), (2, 2), (3, 3)]), (14, [(0, 0), (1, 1)]), (19, [(0, 0)]), (24, [(0, 0), (1, 10)]), (30, [(0, 0), (1, 1), (2, 2)]), (33, [(0, 0), (1, 1), (2, 2)]), (36, [(0, 0), (1, 1), (2, 2), (3, 3)]), (44, [(0, 0), (1, 1), (2, 2)]), (50, [(0, 0), (1, 1), (2, 2)]), (52, [(0, 0), (1, 1), (2, 2)]), (54, [(0, 0), (1, 1), (2, 2), (3, 3), (4, 4)]), (56, [(0, 0), (1, 1), (2, 2), (3, 3), (4, 4), (5, 5), (6, 6), (7, 7), (8, 8)]), (58, [(0, 0), (1, 1), (2, 2), (3, 3), (4, 4), (5, 5), (6, 6), (7, 7)]), (60, [(0, 0), (1, 1), (2, 4), (3, 9), (4, 18), (5, 19), (6, 20)]), (67, [(0, 0), (1, 1), (2, 2), (3, 3)]), (141, [(0, 0), (1, 3), (2, 4)]), (149, [(0, 0), (1, 1), (2, 2)]), (211, [(0, 0), (1, 1), (2, 2), (3, 3)]), (223, [(0, 0), (1, 1), (2, 2), (3, 3), (4, 4), (5, 5), (6, 6), (7, 7), (8, 8), (9, 9), (10, 10)])]
  arr := [(22, (10, 1))]
  sli := [(25, (44, 13, 112)), (31, (30, 3, 24)), (34, (33, 3, 24)), (37, (36, 4, 64)), (40, (67, 4, 32)), (46, (52, 3, 24)), (47, (54, 5, 40)), (48, (56, 9, 72)), (81, (5, 1, 1)), (115, (3, 1, 8)), (145, (149, 10, 88)), (147, (4, 1, 1))]
  zero := [(2, [.fv (.int .i64 0)]), (3, [.fv (.int .i64 0)]), (4, [.fv (.bool false)]), (5, [.fv (.int .u8 0)]), (6, [.fv (.int .u8 0)]), (8, [.fv (.int .i64 0), .fv (.int .i64 0), .fv (.bool false), .fv (.int .u8 0)]), (9, [.fv (.str ⟨#[]⟩)]), (10, [.fv (.str ⟨#[]⟩)]), (11, [.fv (.str ⟨#[]⟩)]), (12, [.fv (.int .u64 0)]), (14, [.fv (.str ⟨#[]⟩), .fv (.int .u64 0)]), (15, [.any]), (16, [.any]), (17, [.any]), (19, [.any]), (22, [.fv (.int .i64 0), .fv (.int .i64 0), .fv (.int .i64 0), .fv (.int .i64 0), .fv (.int .i64 0), .fv (.int .i64 0), .fv (.int .i64 0), .fv (.int .i64 0), .fv (.int .i64 0), .fv (.int .i64 0)]), (24, [.fv (.int .i64 0), .fv (.int .i64 0), .fv (.int .i64 0), .fv (.int .i64 0), .fv (.int .i64 0), .fv (.int .i64 0), .fv (.int .i64 0), .fv (.int .i64 0), .fv (.int .i64 0), .fv (.int .i64 0), .fv (.str ⟨#[]⟩)]), (25, [.nil]), (26, [.fv (.int .i64 0)]), (30, [.fv (.int .i64 0), .fv (.int .i64 0), .fv (.int .i64 0)]), (31, [.nil]), (33, [.fv (.int .i64 0), .fv (.int .i64 0), .fv (.int .i64 0)]), (34, [.nil]), (36, [.fv (.int .i64 0), .fv (.int .i64 0), .nil, .nil]), (37, [.nil]), (40, [.nil]), (44, [.fv (.int .i64 0), .fv (.int .i64 0), .fv (.int .i64 0), .fv (.int .i64 0), .fv (.int .i64 0), .fv (.int .i64 0), .fv (.int .i64 0), .fv (.int .i64 0), .fv (.int .i64 0), .fv (.int .i64 0), .fv (.int .i64 0), .fv (.int .i64 0), .fv (.str ⟨#[]⟩)]), (46, [.nil]), (47, [.nil]), (48, [.nil]), (50, [.nil, .nil, .nil]), (52, [.fv (.int .i64 0), .fv (.int .i64 0), .fv (.int .i64 0)]), (54, [.fv (.int .i64 0), .fv (.int .i64 0), .fv (.int .i64 0), .fv (.int .i64 0), .fv (.int .i64 0)]), (56, [.fv (.int .i64 0), .fv (.int .i64 0), .fv (.bool false), .fv (.int .i64 0), .fv (.int .i64 0), .fv (.int .i64 0), .fv (.int .i64 0), .fv (.int .i64 0), .fv (.bool false)]), (58, [.fv (.int .i64 0), .fv (.int .i64 0), .fv (.int .i64 0), .fv (.int .i64 0), .fv (.int .i64 0), .fv (.int .i64 0), .fv (.int .i64 0), .fv (.str ⟨#[]⟩)]), (60, [.fv (.int .i64 0), .fv (.int .i64 0), .fv (.int .i64 0), .fv (.int .i64 0), .fv (.int .i64 0), .fv (.int .i64 0), .fv (.int .i64 0), .fv (.int .i64 0), .fv (.int .i64 0), .fv (.int .i64 0), .fv (.int .i64 0), .fv (.bool false), .fv (.int .i64 0), .fv (.int .i64 0), .fv (.int .i64 0), .fv (.int .i64 0), .fv (.int .i64 0), .fv (.bool false), .fv (.int .i64 0), .fv (.int .i64 0), .fv (.int .i64 0), .fv (.int .i64 0), .fv (.int .i64 0), .fv (.int .i64 0), .fv (.int .i64 0), .fv (.int .i64 0), .fv (.int .i64 0), .fv (.str ⟨#[]⟩)]), (67, [.fv (.int .i64 0), .fv (.int .i64 0), .fv (.int .i64 0), .fv (.int .i64 0)]), (81, [.nil]), (115, [.nil]), (128, [.any]), (130, [.any]), (136, [.fv (.int .u64 0)]), (137, [.any]), (139, [.any]), (141, [.nil, .nil, .nil, .fv (.int .i64 0), .nil]), (145, [.nil]), (147, [.nil]), (149, [.fv (.int .i64 0), .fv (.int .i64 0), .fv (.int .i64 0), .fv (.int .i64 0), .fv (.int .i64 0), .fv (.int .i64 0), .fv (.int .i64 0), .fv (.int .i64 0), .fv (.int .i64 0), .fv (.str ⟨#[]⟩)]), (156, [.any]), (167, [.any]), (174, [.any]), (175, [.any]), (177, [.any]), (180, [.any]), (183, [.fv (.int .i64 0)]), (191, [.fv (.int .u32 0)]), (193, [.fv (.int .u64 0)]), (198, [.fv (.int .u64 0)]), (202, [.any]), (206, [.any]), (211, [.any, .any, .any, .fv (.str ⟨#[]⟩)]), (216, [.fv (.int .u8 0)]), (217, [.fv (.int .u8 0)]), (218, [.any]), (219, [.any]), (220, [.fv (.int .i32 0)]), (221, [.fv (.int .i32 0)]), (223, [.fv (.int .u64 0), .fv (.int .u64 0), .fv (.int .u32 0), .fv (.int .u8 0), .fv (.int .u8 0), .fv (.int .u8 0), .fv (.int .u8 0), .any, .any, .fv (.int .i32 0), .fv (.int .i32 0)])]
  str := [(9, ()), (10, ()), (11, ())]
  kind := [(2, .i64), (3, .i64), (5, .u8), (6, .u8), (12, .u64), (26, .i64), (136, .u64), (183, .i64), (191, .u32), (193, .u64), (198, .u64), (216, .u8), (217, .u8), (220, .i32), (221, .i32)]
  plc := [(8, [(0, 1), (1, 1), (2, 1), (3, 1)]), (14, [(0, 1), (1, 1)]), (19, [(0, 1)]), (22, [(0, 1), (1, 1), (2, 1), (3, 1), (4, 1), (5, 1), (6, 1), (7, 1), (8, 1), (9, 1)]), (24, [(0, 10), (10, 1)]), (30, [(0, 1), (1, 1), (2, 1)]), (33, [(0, 1), (1, 1), (2, 1)]), (36, [(0, 1), (1, 1), (2, 1), (3, 1)]), (44, [(0, 1), (1, 1), (2, 11)]), (50, [(0, 1), (1, 1), (2, 1)]), (52, [(0, 1), (1, 1), (2, 1)]), (54, [(0, 1), (1, 1), (2, 1), (3, 1), (4, 1)]), (56, [(0, 1), (1, 1), (2, 1), (3, 1), (4, 1), (5, 1), (6, 1), (7, 1), (8, 1)]), (58, [(0, 1), (1, 1), (2, 1), (3, 1), (4, 1), (5, 1), (6, 1), (7, 1)]), (60, [(0, 1), (1, 3), (4, 5), (9, 9), (18, 1), (19, 1), (20, 8)]), (67, [(0, 1), (1, 1), (2, 1), (3, 1)]), (141, [(0, 3), (3, 1), (4, 1)]), (149, [(0, 1), (1, 1), (2, 8)]), (211, [(0, 1), (1, 1), (2, 1), (3, 1)]), (223, [(0, 1), (1, 1), (2, 1), (3, 1), (4, 1), (5, 1), (6, 1), (7, 1), (8, 1), (9, 1), (10, 1)])]
  eqt := [(24, [.int, .int, .int, .int, .int, .int, .int, .int, .int, .int, .str]), (30, [.int, .int, .int]), (33, [.int, .int, .int]), (44, [.int, .int, .int, .int, .int, .int, .int, .int, .int, .int, .int, .int, .str]), (52, [.int, .int, .int]), (54, [.int, .int, .int, .int, .int]), (56, [.int, .int, .bool, .int, .int, .int, .int, .int, .bool]), (58, [.int, .int, .int, .int, .int, .int, .int, .str]), (60, [.int, .int, .int, .int, .int, .int, .int, .int, .int, .int, .int, .bool, .int, .int, .int, .int, .int, .bool, .int, .int, .int, .int, .int, .int, .int, .int, .int, .str]), (67, [.int, .int, .int, .int]), (149, [.int, .int, .int, .int, .int, .int, .int, .int, .int, .str])]
  ael := [(22, 3)]
  byt := [(5, ()), (6, ()), (216, ()), (217, ())]
theorem tbl_one : tbl.one.map (fun p => oneT Try.prog p.1) = tbl.one.map (fun p => some p.2) := by kernel_rfl
theorem tbl_agg : tbl.agg.map (fun p => aggT Try.prog p.1) = tbl.agg.map (fun p => some p.2) := by kernel_rfl
theorem tbl_fld : tbl.fld.map (fun p => p.2.map fun q => fldT Try.prog p.1 q.1) = tbl.fld.map (fun p => p.2.map fun q => some q.2) := by kernel_rfl
theorem tbl_arr : tbl.arr.map (fun p => arrT Try.prog p.1) = tbl.arr.map (fun p => some p.2) := by kernel_rfl
theorem tbl_sli : tbl.sli.map (fun p => sliT Try.prog p.1) = tbl.sli.map (fun p => some p.2) := by kernel_rfl
theorem tbl_zero : tbl.zero.map (fun p => zeroT Try.prog p.1) = tbl.zero.map (fun p => some p.2) := by kernel_rfl
theorem tbl_str : tbl.str.map (fun p => strT Try.prog p.1) = tbl.str.map (fun p => some p.2) := by kernel_rfl
theorem tbl_kind : tbl.kind.map (fun p => kindT Try.prog p.1) = tbl.kind.map (fun p => some p.2) := by kernel_rfl
theorem tbl_plc : tbl.plc.map (fun p => plcT Try.prog p.1) = tbl.plc.map (fun p => some p.2) := by kernel_rfl
theorem tbl_eqt : tbl.eqt.map (fun p => eqcT Try.prog p.1) = tbl.eqt.map (fun p => some p.2) := by kernel_rfl
theorem tbl_ael : tbl.ael.map (fun p => aelT Try.prog p.1) = tbl.ael.map (fun p => some p.2) := by kernel_rfl
theorem tbl_byt : tbl.byt.map (fun p => bytT Try.prog p.1) = tbl.byt.map (fun p => some p.2) := by kernel_rfl
theorem tbl_ok : tbl.Ok Try.prog := ⟨tbl_one, tbl_agg, tbl_fld, tbl_arr, tbl_sli, tbl_zero, tbl_str, tbl_kind, tbl_plc, tbl_eqt, tbl_ael, tbl_byt⟩
theorem mixed_no : Try.prog.follows .mixedOrders = true := by kernel_rfl
end Go.Proofs.Ytdbbmjdeeenlhaa

/- Contracts of small functions, by the logic of memory. -/
namespace Go.Proofs.Ytdbbmjdeeenlhaa
open Go.RowKit
set_option maxRecDepth 100000

theorem and_of {p q : Prop} [Decidable p] [Decidable q] : (decide p && decide q) = decide (p ∧ q) := by simp
theorem wword_T (n : Int) : Fun Try.prog 92 [.fv (.int .i64 n)] (.fv (.bool (word n))) := by
  refine Fun.body tbl_ok Try.func92 rfl (by kernel_rfl) rfl rfl rfl ?_
  repeat' (first
    | (apply Ops.loc; (· rfl); (· rfl); (· rfl); (· first | exact .eff (.mv rfl) | exact .eff (.asg rfl) | exact .eff (.and rfl rfl rfl) | exact .eff (.bin rfl rfl rfl)))
    | with_reducible refine WP.seq ?_
    | with_reducible apply WP.reg tbl_ok rfl
    | with_reducible refine Ops.nil ?_
    | with_reducible refine thenQ.nor ?_
    | with_reducible refine WP.ret ?_
    | (apply Ops.gst; (· rfl); (· rfl); (· rfl); (· rfl); (· rfl); (· rfl); (· rfl); (· first | exact .b | exact .w); (· intro hc; repeat' (first | exact trivial | exact fun _ => hc | exact fun _ => hc.1 | exact fun _ => ⟨hc.1.1, hc.1.2⟩ | refine And.intro ?_ ?_)); (· intro hc; first | exact .eff (.mvG rfl) | exact .eff (.asg rfl) | exact .eff (.and rfl rfl rfl) | exact .eff (.bin rfl rfl rfl)); (· rfl); (· rfl))
    | fail)
  all_goals (try exact ([] : List Fp))
  exact .f1 (.inl rfl) rfl (by rw [and_of]; rfl)
theorem fword_T (n : Int) : Fun Try.prog 105 [.fv (.int .i64 n)] (.fv (.bool (word n))) := by
  refine Fun.body tbl_ok Try.func105 rfl (by kernel_rfl) rfl rfl rfl ?_
  repeat' (first
    | (apply Ops.loc; (· rfl); (· rfl); (· rfl); (· first | exact .eff (.mv rfl) | exact .eff (.asg rfl) | exact .eff (.and rfl rfl rfl) | exact .eff (.bin rfl rfl rfl)))
    | with_reducible refine WP.seq ?_
    | with_reducible apply WP.reg tbl_ok rfl
    | with_reducible refine Ops.nil ?_
    | with_reducible refine thenQ.nor ?_
    | with_reducible refine WP.ret ?_
    | (apply Ops.gst; (· rfl); (· rfl); (· rfl); (· rfl); (· rfl); (· rfl); (· rfl); (· first | exact .b | exact .w); (· intro hc; repeat' (first | exact trivial | exact fun _ => hc | exact fun _ => hc.1 | exact fun _ => ⟨hc.1.1, hc.1.2⟩ | refine And.intro ?_ ?_)); (· intro hc; first | exact .eff (.mvG rfl) | exact .eff (.asg rfl) | exact .eff (.and rfl rfl rfl) | exact .eff (.bin rfl rfl rfl)); (· rfl); (· rfl))
    | fail)
  all_goals (try exact ([] : List Fp))
  exact .f1 (.inl rfl) rfl (by rw [and_of]; rfl)
theorem in_T (n lo hi : Int) : Fun Try.prog 51 [.fv (.int .i64 n), .fv (.int .i64 lo), .fv (.int .i64 hi)] (.fv (.bool (inR n lo hi))) := by
  refine Fun.body tbl_ok Try.func51 rfl (by kernel_rfl) rfl rfl rfl ?_
  repeat' (first
    | (apply Ops.loc; (· rfl); (· rfl); (· rfl); (· first | exact .eff (.mv rfl) | exact .eff (.asg rfl) | exact .eff (.and rfl rfl rfl) | exact .eff (.bin rfl rfl rfl)))
    | with_reducible refine WP.seq ?_
    | with_reducible apply WP.reg tbl_ok rfl
    | with_reducible refine Ops.nil ?_
    | with_reducible refine thenQ.nor ?_
    | with_reducible refine WP.ret ?_
    | (apply Ops.gst; (· rfl); (· rfl); (· rfl); (· rfl); (· rfl); (· rfl); (· rfl); (· first | exact .b | exact .w); (· intro hc; repeat' (first | exact trivial | exact fun _ => hc | exact fun _ => hc.1 | exact fun _ => ⟨hc.1.1, hc.1.2⟩ | refine And.intro ?_ ?_)); (· intro hc; first | exact .eff (.mvG rfl) | exact .eff (.asg rfl) | exact .eff (.and rfl rfl rfl) | exact .eff (.bin rfl rfl rfl)); (· rfl); (· rfl))
    | fail)
  all_goals (try exact ([] : List Fp))
  exact .f1 (.inl rfl) rfl (by rw [and_of]; rfl)
theorem within_T (n lo hi : Int) : Fun Try.prog 65 [.fv (.int .i64 n), .fv (.int .i64 lo), .fv (.int .i64 hi)] (.fv (.bool (inR n lo hi))) := by
  refine Fun.body tbl_ok Try.func65 rfl (by kernel_rfl) rfl rfl rfl ?_
  repeat' (first
    | (apply Ops.loc; (· rfl); (· rfl); (· rfl); (· first | exact .eff (.mv rfl) | exact .eff (.asg rfl) | exact .eff (.and rfl rfl rfl) | exact .eff (.bin rfl rfl rfl)))
    | with_reducible refine WP.seq ?_
    | with_reducible apply WP.reg tbl_ok rfl
    | with_reducible refine Ops.nil ?_
    | with_reducible refine thenQ.nor ?_
    | with_reducible refine WP.ret ?_
    | (apply Ops.gst; (· rfl); (· rfl); (· rfl); (· rfl); (· rfl); (· rfl); (· rfl); (· first | exact .b | exact .w); (· intro hc; repeat' (first | exact trivial | exact fun _ => hc | exact fun _ => hc.1 | exact fun _ => ⟨hc.1.1, hc.1.2⟩ | refine And.intro ?_ ?_)); (· intro hc; first | exact .eff (.mvG rfl) | exact .eff (.asg rfl) | exact .eff (.and rfl rfl rfl) | exact .eff (.bin rfl rfl rfl)); (· rfl); (· rfl))
    | fail)
  all_goals (try exact ([] : List Fp))
  exact .f1 (.inl rfl) rfl (by rw [and_of]; rfl)
end Go.Proofs.Ytdbbmjdeeenlhaa

/- Slices of plain data in memory. -/
namespace Go.Proofs.Ytdbbmjdeeenlhaa
open Go.ChangeShapes Go.WideShapes Go.ChangeAt Go.RowKit Go.Deep

/-- The cells xs lie at A, in blocks of which S holds. -/
def Rd (w : World) (S : Nat → Prop) (A : Option Addr) (xs : List Value) : Prop :=
  xs ≠ [] → ∃ b off, A = some ⟨b, off, none⟩ ∧ S b ∧ ∀ (j : Nat) (u : Value), xs[j]? = some u → w.cell? ⟨b, off + j, none⟩ = some u

section
variable {w w' : World} {S S' : Nat → Prop} {A : Option Addr} {xs : List Value}
theorem Rd.nil (A : Option Addr) : Rd w S A [] := fun h => absurd rfl h
theorem Rd.keep (h : Rd w S A xs) (hk : ∀ b, S b → w'.heap[b]? = w.heap[b]?) (hS : ∀ b, S b → S' b) : Rd w' S' A xs := fun hn => by
  obtain ⟨b, off, e, hb, hc⟩ := h hn
  exact ⟨b, off, e, hS b hb, fun j u hu => by
    have : w'.cell? ⟨b, off + j, none⟩ = w.cell? ⟨b, off + j, none⟩ := World.cell?_of_block (w := w) (hk b hb)
    rw [this]
    exact hc j u hu⟩
theorem Rd.below {B : Nat} (h : Rd w S A xs) (hb : Below B w w') (hS : ∀ b, S b → b < B) : Rd w' S A xs := h.keep (fun b hb' => hb.block b (hS b hb')) fun _ h => h
theorem Rd.weaken (h : Rd w S A xs) (hS : ∀ b, S b → S' b) : Rd w S' A xs := h.keep (fun _ _ => rfl) hS
theorem Rd.up (h : Rd w S A xs) (hb : Below w.heap.size w w') (hS : ∀ b, S b → b < w.heap.size) : Rd w' (fun b => b < w'.heap.size) A xs := (h.below hb hS).weaken fun b h' => Nat.lt_of_lt_of_le (hS b h') hb.size
theorem Rd.src (h : Rd w S A xs) (n : Nat) (hn : 0 < n → xs ≠ []) : Src w A n xs := fun h0 => by
  obtain ⟨b, off, e, _, hc⟩ := h (hn h0)
  exact ⟨b, off, e, hc⟩
theorem rd_of_owns {base : Nat} {e : TypeId} {size n : Nat} {v : Value} (h : w.ownsRow base e size v n xs) : ∃ A c, v = .slice A n c ∧ n ≤ c ∧ c ≤ maxLen ∧ Rd w (fun b => base ≤ b ∧ b < w.heap.size) A xs := by
  have hk := h
  rcases h.2 with ⟨rfl, rfl⟩ | ⟨g, cap, cur, hv, hg, hh, hc, hm, _⟩
  · have : xs = [] := List.eq_nil_of_length_eq_zero (by simpa using hk.1)
    subst this
    exact ⟨none, 0, rfl, Nat.le_refl _, Nat.zero_le _, Rd.nil _⟩
  · refine ⟨_, cap, hv, hc, hm, fun _ => ⟨g, 0, rfl, ⟨hg, (h.lt g (by rw [hv]; rfl)).2⟩, fun j u hu => ?_⟩⟩
    have := h.cells (g := g) (by rw [hv]; rfl) j u hu
    rwa [Addr.add_lit] at this
end

theorem flatten_at {α β : Type} {k : Nat} {cells : α → List β} (hk : ∀ x, (cells x).length = k) : ∀ (l : List α) (i : Nat) (x : α) (j : Nat) (u : β), l[i]? = some x → (cells x)[j]? = some u → (l.map cells).flatten[i * k + j]? = some u
  | [], i, x, j, u, h, _ => by simp at h
  | y :: l, 0, x, j, u, h, hj => by
    simp at h
    subst h
    have hlt : j < (cells y).length := (List.getElem?_eq_some_iff.1 hj).1
    rw [List.map_cons, List.flatten_cons, Nat.zero_mul, Nat.zero_add, List.getElem?_append_left hlt]
    exact hj
  | y :: l, i + 1, x, j, u, h, hj => by
    have ih := flatten_at hk l i x j u (by simpa using h) hj
    rw [List.map_cons, List.flatten_cons, List.getElem?_append_right (by rw [hk, Nat.succ_mul]; omega), hk]
    rw [← ih]
    congr 1
    rw [Nat.succ_mul]
    omega
theorem flatten_len {α β : Type} {k : Nat} {cells : α → List β} (hk : ∀ x, (cells x).length = k) : ∀ l : List α, (l.map cells).flatten.length = l.length * k
  | [] => by simp
  | y :: l => by rw [List.map_cons, List.flatten_cons, List.length_append, flatten_len hk l, hk, List.length_cons, Nat.succ_mul, Nat.add_comm]

/-- The i-th element of a slice that reads as l, cell by cell. -/
theorem rd_at {α : Type} {w : World} {S : Nat → Prop} {A : Option Addr} {k : Nat} {cells : α → List Value} (hk : ∀ x, (cells x).length = k) (hp : 0 < k) {l : List α} (h : Rd w S A (l.map cells).flatten) {i : Nat} {x : α} (hx : l[i]? = some x) :
    ∃ b off, A = some ⟨b, off, none⟩ ∧ S b ∧ ∀ (j : Nat) (u : Value), (cells x)[j]? = some u → w.cell? ⟨b, off + (i * k + j), none⟩ = some u := by
  have hne : (l.map cells).flatten ≠ [] := by
    intro e
    have := flatten_len hk l
    rw [e] at this
    have hi := (List.getElem?_eq_some_iff.1 hx).1
    have : 0 < l.length * k := Nat.mul_pos (by omega) hp
    simp at *
    omega
  obtain ⟨b, off, e, hS, hc⟩ := h hne
  exact ⟨b, off, e, hS, fun j u hj => hc _ u (flatten_at hk l i x j u hx hj)⟩

theorem exists_list {α : Type} {Q : Nat → α → Prop} : ∀ (n : Nat), (∀ i, i < n → ∃ x, Q i x) → ∃ l : List α, l.length = n ∧ ∀ (i : Nat) (x : α), l[i]? = some x → Q i x
  | 0, _ => ⟨[], rfl, fun i x h => by simp at h⟩
  | n + 1, h => by
    obtain ⟨l, hl, hq⟩ := exists_list n (fun i hi => h i (by omega))
    obtain ⟨x, hx⟩ := h n (by omega)
    refine ⟨l ++ [x], by simp [hl], fun i y hy => ?_⟩
    rcases Nat.lt_or_ge i n with hi | hi
    · rw [List.getElem?_append_left (by omega)] at hy
      exact hq i y hy
    · rw [List.getElem?_append_right (by omega)] at hy
      rcases Nat.eq_zero_or_pos (i - l.length) with h0 | h0
      · rw [h0] at hy
        simp at hy
        subst hy
        obtain rfl : i = n := by omega
        exact hx
      · rw [List.getElem?_eq_none (by simp; omega)] at hy
        cases hy

theorem flatten_get {α : Type} {k : Nat} : ∀ (css : List (List α)), (∀ cs ∈ css, cs.length = k) → ∀ (j : Nat) (u : α), css.flatten[j]? = some u → 0 < k → ∃ cs, css[j / k]? = some cs ∧ cs[j % k]? = some u
  | [], _, j, u, h, _ => by simp at h
  | cs :: css, hk, j, u, h, hp => by
    have hc : cs.length = k := hk cs (by simp)
    rw [List.flatten_cons] at h
    rcases Nat.lt_or_ge j k with hj | hj
    · rw [List.getElem?_append_left (by omega)] at h
      exact ⟨cs, by simp [Nat.div_eq_of_lt hj], by rwa [Nat.mod_eq_of_lt hj]⟩
    · rw [List.getElem?_append_right (by omega), hc] at h
      obtain ⟨c, h1, h2⟩ := flatten_get css (fun c hc => hk c (by simp [hc])) (j - k) u h hp
      refine ⟨c, ?_, ?_⟩
      · rw [Nat.div_eq_sub_div hp hj]
        simpa using h1
      · rwa [Nat.mod_eq_sub_mod hj]

section
variable {H : Type} {enc : TypeId × Value → H} {P : Program} {w : World} {base : Nat} {spare : Nat → Bool} {held : Bool} {Cl : TypeId → DataW H → Prop}
/-- A slice of plain data that came in. -/
theorem open_slice_plain (hcl : Closed P Cl) {t e : TypeId} {n m : Nat} {ls : List Leaf} {v : Value} {y : DataW H × List MemPlace} (hu : P.underlying t = some (.slice e)) (hl : leaves P n e = some ls) (hc : P.cellsOf e = ls.length) (hk : 0 < ls.length)
    (h : DataW.trod enc P w base spare held m t [v] = some y) (hC : Cl t y.1) :
    ∃ (css : List (List Value)) (A : Option Addr) (c : Nat), v = .slice A css.length c ∧ css.length ≤ c ∧ c ≤ maxLen ∧ (∀ cs ∈ css, AllOk enc P w base spare held Cl ls cs) ∧ Rd w (fun b => b < w.heap.size) A css.flatten ∧ (css = [] ∨ ∃ el sp, Cl t (.slice el sp) ∧ el.length = css.length) := by
  rcases open_slice hu h with ⟨hv, _⟩ | ⟨a, len, cap, m', n', D, Pl, hv, hb, hle, hm, hmm, hye, hi⟩
  · simp at hv
    subst hv
    exact ⟨[], none, 0, rfl, Nat.le_refl _, Nat.zero_le _, by simp, Rd.nil _, .inl rfl⟩
  · simp at hv
    subst hv
    have hml : len ≤ m' := by rw [hmm]; split <;> omega
    rw [hc] at hi
    rw [hye] at hC
    obtain ⟨css, hlen, hq⟩ := exists_list (Q := fun i cs => AllOk enc P w base spare held Cl ls cs ∧ ∀ j, j < ls.length → w.cell? ((a.add (i * ls.length)).add j) = cs[j]?) len (fun i hi' => by
      obtain ⟨cs', h1, h2⟩ := hi i (by omega)
      obtain ⟨_, hl', hcell⟩ := World.cells?_some h1
      exact ⟨cs', leaves_ok hcl n e ls n' cs' _ hl h2 (hcl.ofSlice t e _ _ hu hC _ (List.mem_map_of_mem (List.mem_range.2 hi'))), hcell⟩)
    refine ⟨css, some a, cap, by rw [hlen], by omega, hm, fun cs hcs => ?_, fun hne => ?_, .inr ⟨_, _, hC, by simp [hlen]⟩⟩
    · obtain ⟨i, hi1, rfl⟩ := List.getElem_of_mem hcs
      exact (hq i _ (List.getElem?_eq_getElem hi1)).1
    · have hall : ∀ cs ∈ css, cs.length = ls.length := fun cs hcs => by
        obtain ⟨i, hi1, rfl⟩ := List.getElem_of_mem hcs
        exact (hq i _ (List.getElem?_eq_getElem hi1)).1.length
      have h0 : ∃ u, css.flatten[0]? = some u := by
        cases hf : css.flatten with
        | nil => exact absurd hf hne
        | cons u r => exact ⟨u, rfl⟩
      obtain ⟨u, hu0⟩ := h0
      obtain ⟨cs0, e1, e2⟩ := flatten_get css hall 0 u hu0 hk
      have hc0 := (hq _ _ e1).2 0 hk
      have ha0 : w.cell? a = some u := by
        simp only [Nat.zero_div, Nat.zero_mod, Nat.zero_mul] at hc0 e1 e2
        rw [e2] at hc0
        simpa [Addr.add] using hc0
      have hspot : a = ⟨a.block, a.off, none⟩ := by
        obtain ⟨b, o, s⟩ := a
        cases s with
        | none => rfl
        | some s => simp [World.cell?] at ha0; split at ha0 <;> cases ha0
      have hblk : a.block < w.heap.size := by
        rcases Nat.lt_or_ge a.block w.heap.size with h | h
        · exact h
        · simp [World.cell?, Array.getElem?_eq_none h] at ha0
      refine ⟨a.block, a.off, by rw [← hspot], hblk, fun j u hj => ?_⟩
      obtain ⟨cs, e1, e2⟩ := flatten_get css hall j u hj hk
      have hcj := (hq _ _ e1).2 (j % ls.length) (Nat.mod_lt _ hk)
      rw [e2, hspot, Addr.add_lit, Addr.add_lit] at hcj
      rw [← hcj]
      congr 2
      rw [Nat.add_assoc, Nat.mul_comm, Nat.div_add_mod]

/-- A list of cells' lists, each of which is an x's cells. -/
theorem decode_all {α : Type} {cells : α → List Value} {Ok : α → Prop} {Q : List Value → Prop} (hd : ∀ cs, Q cs → ∃ x, cs = cells x ∧ Ok x) : ∀ css : List (List Value), (∀ cs ∈ css, Q cs) → ∃ l : List α, css = l.map cells ∧ ∀ x ∈ l, Ok x
  | [], _ => ⟨[], rfl, by simp⟩
  | cs :: css, h => by
    obtain ⟨x, rfl, hx⟩ := hd cs (h _ (by simp))
    obtain ⟨l, rfl, hl⟩ := decode_all hd css (fun c hc => h c (by simp [hc]))
    exact ⟨x :: l, rfl, by simpa using ⟨hx, hl⟩⟩
end
end Go.Proofs.Ytdbbmjdeeenlhaa

/- The cells of the program's types; '==' on them. -/
namespace Go.Proofs.Ytdbbmjdeeenlhaa
set_option maxRecDepth 100000
theorem frame_leaves : leaves Try.prog 2 58 = some frameLeaves := by kernel_rfl
theorem packet_leaves : leaves Try.prog 3 24 = some packetLeaves := by kernel_rfl
theorem packet_shp (p : Pk) : Shp packetLeaves p.cells := ⟨trivial, trivial, trivial, trivial, trivial, trivial, trivial, trivial, trivial, trivial, trivial, trivial⟩
theorem frame_shp (p : Fr) : Shp frameLeaves p.cells := ⟨trivial, trivial, trivial, trivial, trivial, trivial, trivial, trivial, trivial⟩
theorem packet_eqOk : eqOk Try.prog 3 24 = true := by kernel_rfl
theorem packet_lenOk : lenOk Try.prog 3 24 = true := by kernel_rfl
theorem packet_agg : aggB Try.prog 24 = true := by kernel_rfl
theorem eql_packet (p q : Pk) (W : World) : (binOp .eql 24 (.agg p.cells.toArray) (.agg q.cells.toArray)).run Try.prog W = .ok (.bool (beqL p.cells q.cells)) W :=
  run_eql_plain packet_leaves packet_eqOk packet_lenOk (by omega) packet_agg _ _ (packet_shp p) (packet_shp q) W
theorem eql_packet_same (p : Pk) (W : World) : (binOp .eql 24 (.agg p.cells.toArray) (.agg p.cells.toArray)).run Try.prog W = .ok (.bool true) W := by
  rw [eql_packet, beqL_refl (packet_shp p)]
end Go.Proofs.Ytdbbmjdeeenlhaa
