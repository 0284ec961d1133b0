import Derived.Test.YtmidechdlbcepaaGreatPack23
set_option linter.unusedSimpArgs false
set_option linter.unusedVariables false
namespace Go.Proofs.YtmidechdlbcepaaGreat
open Go.RowKit
def FunO (P : Program) (f : FuncId) (args : List AV) (own : Own) (r : AV) (own' : Own) : Prop := Triple P f args own fun r' o' => r' = r ∧ o' = own'

mutual
theorem AV.To.own {φ : List (Nat × Whence)} {F : List Nat} {H H' : Own} (hl : ∀ g, F.contains g = true → lk H' g = lk H g) {b a : AV} (h : AV.To φ F H b a) : AV.To φ F H' b a := by
  cases h with
  | le h1 h2 => exact .le h1 h2
  | any => exact .any
  | ptr h => exact .ptr h
  | sl h => exact .sl h
  | ptr0 h => exact .ptr0 h
  | sl0 h => exact .sl0 h
  | nil h => exact .nil h
  | frz h1 h2 h3 => exact .frz ((hl _ h3).trans h1) h2 h3
  | frp h1 h2 h3 => exact .frp ((hl _ h3).trans h1) h2 h3
  | cut h => exact .cut h
  | sb h => exact .sb h
  | sb0 h => exact .sb0 h
  | frb h1 h2 h3 h4 => exact .frb ((hl _ h4).trans h1) h2 h3 h4
  | agg h => exact .agg (AV.ToL.own hl h)
  | tup h => exact .tup (AV.ToL.own hl h)
  | fn h => exact .fn (AV.ToL.own hl h)
theorem AV.ToL.own {φ : List (Nat × Whence)} {F : List Nat} {H H' : Own} (hl : ∀ g, F.contains g = true → lk H' g = lk H g) {b a : List AV} (h : AV.ToL φ F H b a) : AV.ToL φ F H' b a := by
  cases h with
  | nil => exact .nil
  | cons h h' => exact .cons (AV.To.own hl h) (AV.ToL.own hl h')
end
def srcsN : List (Nat × Whence) → List Nat
  | [] => []
  | (_, .id g) :: l => g :: srcsN l
  | (_, .cut g _) :: l => g :: srcsN l
  | (_, .nil) :: l => srcsN l
theorem srcsN_mem : ∀ {φ : List (Nat × Whence)} {k g : Nat} {x : Whence}, lk φ k = some x → x.src = some g → g ∈ srcsN φ
  | [], _, _, _, h, _ => by simp [lk] at h
  | (k', .id g') :: l, k, g, x, h, hx => by
    rw [lk_cons] at h
    split at h
    · obtain rfl := Option.some.inj h; simp [Whence.src] at hx; simp [srcsN, hx]
    · simp [srcsN, srcsN_mem h hx]
  | (k', .cut g' n) :: l, k, g, x, h, hx => by
    rw [lk_cons] at h
    split at h
    · obtain rfl := Option.some.inj h; simp [Whence.src] at hx; simp [srcsN, hx]
    · simp [srcsN, srcsN_mem h hx]
  | (k', .nil) :: l, k, g, x, h, hx => by
    rw [lk_cons] at h
    split at h
    · obtain rfl := Option.some.inj h; simp [Whence.src] at hx
    · simp [srcsN, srcsN_mem h hx]
def givenB (φ : List (Nat × Whence)) : Own → Bool
  | [] => true
  | (k, _) :: l => (match lk φ k with | some _ => true | none => false) && Nat.ble 1000 k && givenB φ l
theorem givenB_lk {φ : List (Nat × Whence)} : ∀ {l : Own} {k : Nat} {ob : OB}, givenB φ l = true → lk l k = some ob → (∃ x, lk φ k = some x) ∧ 1000 ≤ k
  | [], _, _, _, h => by simp [lk] at h
  | (k', x) :: l, k, ob, hg, h => by
    simp only [givenB, Bool.and_eq_true] at hg
    rw [lk_cons] at h
    split at h
    · rename_i e
      subst e
      refine ⟨?_, Nat.le_of_ble_eq_true hg.1.2⟩
      have := hg.1.1
      cases e : lk φ k' with
      | none => rw [e] at this; cases this
      | some y => exact ⟨y, rfl⟩
    · exact givenB_lk hg.2 h
theorem OB.To.own {φ : List (Nat × Whence)} {F : List Nat} {H H' : Own} {k : Nat} {ob : OB} (hk : ∃ x, lk φ k = some x) (hl : ∀ g, F.contains g = true → lk H' g = lk H g) (hs : ∀ g ∈ srcsN φ, lk H' g = lk H g) (h : OB.To φ F H k ob) : OB.To φ F H' k ob := by
  obtain ⟨x, hx⟩ := hk
  have key : ∀ g, (whence φ k).src = some g → g ∈ srcsN φ := fun g hg => by
    simp only [whence, hx, Option.getD_some] at hg
    exact srcsN_mem hx hg
  cases h with
  | nil h => exact .nil h
  | row h1 h2 h3 h4 => exact .row h1 ((hs _ (key _ (by rw [h1]; rfl))).trans h2) h3 (h4.own hl)
  | cut h1 h2 h3 h5 h6 h4 => exact .cut h1 ((hs _ (key _ (by rw [h1]; rfl))).trans h2) h3 h5 h6 (h4.own hl)
  | box h1 h2 h4 => exact .box h1 ((hs _ (key _ (by rw [h1]; rfl))).trans h2) (h4.own hl)
theorem toH_own {φ : List (Nat × Whence)} {F : List Nat} {H H' : Own} (hl : ∀ g, F.contains g = true → lk H' g = lk H g) (hs : ∀ g ∈ srcsN φ, lk H' g = lk H g) : ∀ {l : Own}, givenB φ l = true → toH φ F H l → toH φ F H' l
  | [], _, _ => trivial
  | (k, ob) :: l, hg, ⟨h1, h2⟩ => by
    have hk := (givenB_lk (k := k) (ob := ob) hg (lk_hit _ _ _)).1
    simp only [givenB, Bool.and_eq_true] at hg
    exact ⟨h1.own hk hl hs, toH_own hl hs hg.2 h2⟩

section
variable {C : Ctx} {H : Own} {σ : Nat → Value} {Z : Nat → Prop} {w : World} {φ : List (Nat × Whence)} {F : List Nat}
theorem toH_src {own : Own} (hh : toH φ F H own) {k : Nat} {ob : OB} (hk : lk own k = some ob) : (newσ φ σ k = .slice none 0 0) ∨ ∃ g ob0, (whence φ k).src = some g ∧ lk H g = some ob0 ∧ blk (newσ φ σ k) = blk (σ g) := by
  cases toH_lk hh hk with
  | nil h => exact .inl (newσ_nil h)
  | row h h' _ _ => exact .inr ⟨_, _, by rw [h]; rfl, h', by rw [newσ_src h]⟩
  | cut h h' _ _ _ _ => exact .inr ⟨_, _, by rw [h]; rfl, h', by rw [newσ_cut h, cutV_blk]⟩
  | box h h' _ => exact .inr ⟨_, _, by rw [h]; rfl, h', by rw [newσ_src h]⟩
theorem toH_has {own : Own} (hI : Inv C H σ Z w) (hh : toH φ F H own) {k : Nat} {ob : OB} (hk : lk own k = some ob) : ob.Rep (newσ φ σ) (newZ F H σ Z) w (newσ φ σ k) := by
  cases toH_lk hh hk with
  | @nil e q h =>
    rw [newσ_nil h]
    exact ⟨[], ⟨by simp, .inl ⟨rfl, none, rfl⟩⟩, trivial⟩
  | @row g e q n n' cs cs' h h' hn hc =>
    subst hn
    rw [newσ_src h]
    obtain ⟨xs, hx, hr⟩ := hI.has g _ h'
    exact ⟨xs, hx, hc.rep hI hr⟩
  | @cut g e q N n n' cs cs2 cs' h h' hnN hn hcs hc =>
    subst hn hcs
    rw [newσ_cut h]
    exact cut_row hI (hI.has g _ h') hnN fun h => hc.rep hI h
  | @box g t cs cs' h h' hc =>
    rw [newσ_src h]
    obtain ⟨b, arr, e1, e2, hr⟩ := hI.has g _ h'
    exact ⟨b, arr, e1, e2, hc.rep hI hr⟩
theorem inv_call {own : Own} (hI : Inv C H σ Z w) (hs : srcsB φ F own = true) (hh : toH φ F H own) : Inv (ctx0 own (newσ φ σ) (newZ F H σ Z) w) own (newσ φ σ) (newZ F H σ Z) w := by
  obtain ⟨hs1, hs2⟩ := srcs_ok hs
  refine ⟨rfl, rfl, rfl, Nat.le_refl _, Nat.le_refl _, fun _ _ _ => rfl, fun b hb => ?_, fun _ h => h, fun _ h => .inl h, fun k ob hk => toH_has hI hh hk, fun k ob b hk hb => ?_, fun k k' ob ob' b hk hk' hb hb' => ?_, fun _ _ => rfl⟩
  · rcases hb with h | ⟨g, ob, _, hg, hb⟩
    · exact hI.zlt b h
    · exact (hI.mine g ob b hg hb).2.2
  · have hb0 := hb
    rcases toH_src (σ := σ) hh hk with h | ⟨g, ob0, h3, h4, h5⟩
    · rw [h] at hb; cases hb
    · rw [h5] at hb
      have hm := hI.mine g ob0 b h4 hb
      refine ⟨.inl ⟨k, ob, hk, hb0⟩, fun hz => ?_, hm.2.2⟩
      rcases hz with h | ⟨k', ob', hF, hk', hb'⟩
      · exact hm.2.1 h
      · have := hI.inj g k' ob0 ob' b h4 hk' hb hb'
        subst this
        obtain ⟨y, hy⟩ := lk_key hk
        rw [hs1 _ hy _ h3] at hF
        cases hF
  · rcases toH_src (σ := σ) hh hk with h | ⟨g, ob0, h3, h4, h5⟩
    · rw [h] at hb; cases hb
    · rcases toH_src (σ := σ) hh hk' with h | ⟨g', ob0', h3', h4', h5'⟩
      · rw [h] at hb'; cases hb'
      · rw [h5] at hb
        rw [h5'] at hb'
        have := hI.inj g g' _ _ b h4 h4' hb hb'
        subst this
        obtain ⟨y, hy⟩ := lk_key hk
        obtain ⟨y', hy'⟩ := lk_key hk'
        exact hs2 _ _ g hy hy' h3 h3'
end

def scalB (L : Bool) (a : AV) : Bool := match L with
  | true => a.scal
  | false => a.flat
mutual
inductive AV.Rn (L : Bool) (ν : List (Nat × Nat)) : AV → AV → Prop
  | le {a : AV} : scalB L a = true → AV.Rn L ν a a
  | nil : AV.Rn L ν .nil .nil
  | ptr {k g off : Nat} : lk ν k = some g → AV.Rn L ν (.optr k off) (.optr g off)
  | sl {k g : Nat} : lk ν k = some g → AV.Rn L ν (.osl k) (.osl g)
  | agg {as bs : List AV} : AV.RnL L ν as bs → AV.Rn L ν (.agg as) (.agg bs)
  | tup {as bs : List AV} : AV.RnL L ν as bs → AV.Rn L ν (.tup as) (.tup bs)
  | fn {f : FuncId} {as bs : List AV} : AV.RnL L ν as bs → AV.Rn L ν (.fn f as) (.fn f bs)
inductive AV.RnL (L : Bool) (ν : List (Nat × Nat)) : List AV → List AV → Prop
  | nil : AV.RnL L ν [] []
  | cons {a b : AV} {as bs : List AV} : AV.Rn L ν a b → AV.RnL L ν as bs → AV.RnL L ν (a :: as) (b :: bs)
end
theorem AV.RnL.maps {ν : List (Nat × Nat)} : ∀ (us : List FV), AV.RnL false ν (us.map .fv) (us.map .fv)
  | [] => .nil
  | _ :: us => .cons (.le rfl) (AV.RnL.maps us)
theorem AV.RnL.mapsS {L : Bool} {ν : List (Nat × Nat)} : ∀ {us : List FV}, (∀ u ∈ us, (AV.fv u).scal = true) → AV.RnL L ν (us.map .fv) (us.map .fv)
  | [], _ => .nil
  | u :: us, h => .cons (.le (by
      unfold scalB
      split
      · exact h u (by simp)
      · rfl)) (AV.RnL.mapsS fun x hx => h x (by simp [hx]))
theorem AV.RnL.app {L : Bool} {ν : List (Nat × Nat)} : ∀ {as bs cs ds : List AV}, AV.RnL L ν as bs → AV.RnL L ν cs ds → AV.RnL L ν (as ++ cs) (bs ++ ds)
  | [], _, _, _, h, h' => by cases h; exact h'
  | _ :: _, _, _, _, h, h' => by cases h with | cons h1 h2 => exact .cons h1 (h2.app h')
inductive OB.Rn (L : Bool) (ν : List (Nat × Nat)) : OB → OB → Prop
  | row {e s n : Nat} {cs cs' : List AV} : AV.RnL L ν cs cs' → OB.Rn L ν (.row e s n cs) (.row e s n cs')
  | box {t : Nat} {cs cs' : List AV} : AV.RnL L ν cs cs' → OB.Rn L ν (.box t cs) (.box t cs')
inductive OwnRn (L : Bool) (ν : List (Nat × Nat)) : Own → Own → Prop
  | nil : OwnRn L ν [] []
  | cons {k g : Nat} {ob ob' : OB} {l l' : Own} : lk ν k = some g → OB.Rn L ν ob ob' → OwnRn L ν l l' → OwnRn L ν ((k, ob) :: l) ((g, ob') :: l')

section
variable {L : Bool} {ν : List (Nat × Nat)} {σ σ2 : Nat → Value} {Z Z2 : Nat → Prop} {w : World}
mutual
theorem AV.Rn.rep (hz : L = true ∨ ∀ b, Z b → Z2 b) (hσ : ∀ k g, lk ν k = some g → σ2 g = σ k) {a b : AV} {v : Value} (h : AV.Rn L ν a b) (hr : a.Rep σ Z w v) : b.Rep σ2 Z2 w v := by
  cases h with
  | le h =>
    cases L with
    | true => exact AV.scal_rep h hr
    | false => exact AV.Rep.mono (fun _ _ => rfl) (hz.resolve_left (by simp)) (fun g hg => by rw [AV.flat_refs h] at hg; cases hg) hr
  | nil => exact hr
  | ptr h =>
    obtain ⟨x, h1, h2⟩ := hr
    exact ⟨x, by rw [hσ _ _ h]; exact h1, h2⟩
  | sl h => exact ⟨by rw [hσ _ _ h]; exact hr.1, hr.2⟩
  | agg h =>
    obtain ⟨arr, e, h2⟩ := hr
    exact ⟨arr, e, AV.RnL.rep hz hσ h h2⟩
  | tup h =>
    obtain ⟨arr, e, h2⟩ := hr
    exact ⟨arr, e, AV.RnL.rep hz hσ h h2⟩
  | fn h =>
    obtain ⟨arr, e, h2⟩ := hr
    exact ⟨arr, e, AV.RnL.rep hz hσ h h2⟩
theorem AV.RnL.rep (hz : L = true ∨ ∀ b, Z b → Z2 b) (hσ : ∀ k g, lk ν k = some g → σ2 g = σ k) {as bs : List AV} {vs : List Value} (h : AV.RnL L ν as bs) (hr : AV.RepL σ Z w as vs) : AV.RepL σ2 Z2 w bs vs := by
  cases h with
  | nil =>
    cases vs with
    | nil => trivial
    | cons => exact hr.elim
  | cons h h' =>
    cases vs with
    | nil => exact hr.elim
    | cons v vs => exact ⟨AV.Rn.rep hz hσ h hr.1, AV.RnL.rep hz hσ h' hr.2⟩
end
theorem OB.Rn.rep (hz : L = true ∨ ∀ b, Z b → Z2 b) (hσ : ∀ k g, lk ν k = some g → σ2 g = σ k) {a b : OB} {v : Value} (h : OB.Rn L ν a b) (hr : a.Rep σ Z w v) : b.Rep σ2 Z2 w v := by
  cases h with
  | row h =>
    obtain ⟨xs, h1, h2⟩ := hr
    exact ⟨xs, h1, h.rep hz hσ h2⟩
  | box h =>
    obtain ⟨b, arr, h1, h2, h3⟩ := hr
    exact ⟨b, arr, h1, h2, h.rep hz hσ h3⟩
def vals (ν : List (Nat × Nat)) : List Nat := ν.map (·.2)
theorem vals_mem {k g : Nat} (h : lk ν k = some g) : g ∈ vals ν := List.mem_map.2 ⟨(k, g), lk_mem h, rfl⟩
theorem scalB_refs {a : AV} (h : scalB L a = true) (g : Nat) : a.refs g = false := by
  cases L with
  | true => exact AV.flat_refs (AV.scal_flat h)
  | false => exact AV.flat_refs h
mutual
theorem AV.Rn.refs {g : Nat} (hg : g ∉ vals ν) {a b : AV} (h : AV.Rn L ν a b) : b.refs g = false := by
  cases h with
  | le h => exact scalB_refs h g
  | nil => rfl
  | @ptr k g' off h =>
    simp only [AV.refs]
    cases e : Nat.beq g' g with
    | false => rfl
    | true => have := Nat.eq_of_beq_eq_true e; subst this; exact absurd (vals_mem h) hg
  | @sl k g' h =>
    simp only [AV.refs]
    cases e : Nat.beq g' g with
    | false => rfl
    | true => have := Nat.eq_of_beq_eq_true e; subst this; exact absurd (vals_mem h) hg
  | agg h => simpa [AV.refs] using AV.RnL.refs hg h
  | tup h => simpa [AV.refs] using AV.RnL.refs hg h
  | fn h => simpa [AV.refs] using AV.RnL.refs hg h
theorem AV.RnL.refs {g : Nat} (hg : g ∉ vals ν) {as bs : List AV} (h : AV.RnL L ν as bs) : AV.refsL g bs = false := by
  cases h with
  | nil => rfl
  | cons h h' => simp only [AV.refsL, Bool.or_eq_false_iff]; exact ⟨AV.Rn.refs hg h, AV.RnL.refs hg h'⟩
end
def oneB (ν : List (Nat × Nat)) : Bool := ν.all fun p => ν.all fun q => Nat.beq p.1 q.1 == Nat.beq p.2 q.2
def rev (ν : List (Nat × Nat)) : List (Nat × Nat) := ν.map fun p => (p.2, p.1)
theorem rev_lk (h : oneB ν = true) {k g : Nat} : lk (rev ν) g = some k ↔ lk ν k = some g := by
  have key : ∀ l : List (Nat × Nat), (∀ p ∈ l, p ∈ ν) → (lk (rev l) g = some k ↔ lk l k = some g) := by
    intro l
    induction l with
    | nil => intro _; simp [rev, lk]
    | cons p l ih =>
      intro hl
      obtain ⟨a, b⟩ := p
      have ih := ih fun q hq => hl q (by simp [hq])
      have ha := hl (a, b) (by simp)
      simp only [rev, List.map_cons, lk_cons] at ih ⊢
      have hab : ∀ q ∈ ν, Nat.beq a q.1 = Nat.beq b q.2 := fun q hq => by
        have := List.all_eq_true.1 (List.all_eq_true.1 h _ ha) q hq
        simpa using this
      by_cases e1 : b = g
      · subst e1
        by_cases e2 : a = k
        · subst e2; simp
        · simp only [if_pos, e2, if_false, Option.some.injEq, false_iff]
          intro hc
          have := hab _ (hl (k, b) (by have := lk_mem hc; simp [this]))
          simp at this
          exact e2 this
      · by_cases e2 : a = k
        · subst e2
          simp only [if_neg e1, if_pos, Option.some.injEq]
          constructor
          · intro hc
            have hm := lk_mem hc
            obtain ⟨q, hq, hqe⟩ := List.mem_map.1 hm
            have := hab _ (hl q (by simp [hq]))
            obtain ⟨q1, q2⟩ := q
            simp at hqe
            obtain ⟨rfl, rfl⟩ := hqe
            simp at this
            exact absurd this e1
          · intro hc; exact absurd hc e1
        · simp only [if_neg e1, if_neg e2]
          exact ih
  exact key ν fun _ h => h
theorem OwnRn.lk (h1 : oneB ν = true) : ∀ {l l' : Own}, OwnRn L ν l l' → ∀ {g : Nat} {ob' : OB}, Go.Proofs.YtmidechdlbcepaaGreat.lk l' g = some ob' → ∃ k ob, Go.Proofs.YtmidechdlbcepaaGreat.lk ν k = some g ∧ Go.Proofs.YtmidechdlbcepaaGreat.lk l k = some ob ∧ OB.Rn L ν ob ob'
  | _, _, .nil, _, _, h => by simp [Go.Proofs.YtmidechdlbcepaaGreat.lk] at h
  | _, _, @OwnRn.cons _ _ k g0 ob ob0 l l' e1 e2 e3, g, ob', h => by
    rw [lk_cons] at h
    split at h
    · rename_i e
      subst e
      obtain rfl := Option.some.inj h
      exact ⟨k, ob, e1, lk_hit _ _ _, e2⟩
    · rename_i e
      obtain ⟨k', ob1, h2, h3, h4⟩ := OwnRn.lk h1 e3 h
      refine ⟨k', ob1, h2, ?_, h4⟩
      rw [lk_skip _ _ (by rintro rfl; rw [e1] at h2; exact e (Option.some.inj h2))]
      exact h3
end
def backB (φ : List (Nat × Whence)) (ν : List (Nat × Nat)) : Bool := ν.all fun p => match lk φ p.1 with
  | some (.id g) => Nat.beq g p.2 && Nat.ble 1000 p.1
  | _ => Nat.blt p.2 1000
def newsN (φ : List (Nat × Whence)) : List (Nat × Nat) → List Nat
  | [] => []
  | (k, g) :: l => match lk φ k with
    | some (.id _) => newsN φ l
    | _ => g :: newsN φ l
theorem newsN_mem {φ : List (Nat × Whence)} : ∀ {ν : List (Nat × Nat)} {k g : Nat}, (k, g) ∈ ν → (∀ x, lk φ k ≠ some (.id x)) → g ∈ newsN φ ν
  | (k', g') :: l, k, g, h, hn => by
    simp only [newsN]
    rcases List.mem_cons.1 h with h | h
    · simp only [Prod.mk.injEq] at h
      obtain ⟨rfl, rfl⟩ := h
      split
      · rename_i x hx; exact absurd hx (hn x)
      · simp
    · split
      · exact newsN_mem h hn
      · simp [newsN_mem h hn]
theorem back_cases {φ : List (Nat × Whence)} {ν : List (Nat × Nat)} (hb : backB φ ν = true) {k g : Nat} (h : lk ν k = some g) : (lk φ k = some (.id g) ∧ 1000 ≤ k) ∨ (g < 1000 ∧ g ∈ newsN φ ν) := by
  have := List.all_eq_true.1 hb _ (lk_mem h)
  cases e : lk φ k with
  | none => rw [e] at this; exact .inr ⟨by simpa [Nat.blt_eq] using this, newsN_mem (lk_mem h) (fun x => by rw [e]; simp)⟩
  | some y =>
    cases y with
    | nil => rw [e] at this; exact .inr ⟨by simpa [Nat.blt_eq] using this, newsN_mem (lk_mem h) (fun x => by rw [e]; simp)⟩
    | cut g2 n => rw [e] at this; exact .inr ⟨by simpa [Nat.blt_eq] using this, newsN_mem (lk_mem h) (fun x => by rw [e]; simp)⟩
    | id g' =>
      rw [e] at this
      simp only [Bool.and_eq_true] at this
      have h1 := Nat.eq_of_beq_eq_true this.1
      subst h1
      exact .inl ⟨rfl, Nat.le_of_ble_eq_true this.2⟩
def dropF : Bool → List Nat → List Nat
  | true, _ => []
  | false, F => F
def rest (N : List Nat) : Own → Own
  | [] => []
  | (k, ob) :: l => match N.contains k with
    | true => rest N l
    | false => (k, ob) :: rest N l
theorem lk_rest {N : List Nat} {g : Nat} : ∀ (H : Own), lk (rest N H) g = if g ∈ N then none else lk H g
  | [] => by simp [rest, lk]
  | (k, x) :: l => by
    simp only [rest]
    cases e : N.contains k with
    | true =>
      simp only [lk_cons, lk_rest l]
      split
      · rfl
      · split
        · rename_i e'; subst e'; simp at e; rename_i h; exact absurd e h
        · rfl
    | false =>
      simp only [lk_cons, lk_rest l]
      split
      · rename_i e'; subst e'; simp at e; simp [e]
      · rfl

section
variable {P : Program} {T : Tbl} {n i : Nat} {ops : Array Oper} {st : St} {o : Oper} {d : Nat}
set_option maxHeartbeats 1000000 in
theorem Step.callO {f : Operand} {args : Array Operand} {ts : Array TypeId} {fid : FuncId} {cs as : List AV} {r r' : AV} {ownC own' A : Own} {φ : List (Nat × Whence)} {F : List Nat} {ν : List (Nat × Nat)} {L : Bool}
    (ho : ops[i]? = some o) (hg : o.guard = none) (hd : o.dst = some d) (hn : d < n) (hop : o.op = .call { callee := .value f, args := args, argTypes := ts }) (hf : st.ev f = .fn fid cs) (hto : AV.ToL φ F st.own (args.toList.map st.ev ++ cs) as) (hoc : toH φ F st.own ownC)
    (hgv : givenB φ ownC = true) (hsrc : srcsB φ F ownC = true) (hC : FunO P fid as ownC r own') (hr : AV.Rn L ν r r') (hA : OwnRn L ν own' A) (h1 : oneB ν = true) (hb : backB φ ν = true) (hfr : ∀ g ∈ newsN φ ν, NoT g st.t ∧ NoH g st.own) :
    Step P T n ops i ⟨srcsN φ ++ F, srcsN φ ++ newsN φ ν ++ dropF L F, newsN φ ν⟩ st ⟨(d, r') :: st.t, A ++ rest (srcsN φ ++ vals ν ++ dropF L F) st.own⟩ := by
  intro hT
  let D : List (Nat × Option OB) := A.map (fun p => (p.1, some p.2)) ++ (srcsN φ ++ vals ν ++ dropF L F).map fun g => (g, none)
  have hDn : ∀ (N : List Nat) (g : Nat), lk (N.map fun g => (g, (none : Option OB))) g = if g ∈ N then some none else none := by
    intro N g
    induction N with
    | nil => simp [lk]
    | cons a N ih =>
      simp only [List.map_cons, lk_cons, ih]
      by_cases h : a = g
      · subst h; simp
      · simp [h, Ne.symm h]
  have hD : ∀ (H : Own) g, eff D H g = lk (A ++ rest (srcsN φ ++ vals ν ++ dropF L F) H) g := by
    intro H g
    simp only [eff, D, lk_append, lk_mapSome, hDn, lk_rest]
    cases lk A g with
    | some x => rfl
    | none =>
      simp only [Option.map_none]
      split <;> simp_all
  have hvals : ∀ g, g ∈ vals ν → g ∈ srcsN φ ∨ g ∈ newsN φ ν := by
    intro g hg
    obtain ⟨⟨k, g'⟩, hp, rfl⟩ := List.mem_map.1 hg
    have := List.all_eq_true.1 hb _ hp
    cases e : lk φ k with
    | none => exact .inr (newsN_mem hp (fun x => by rw [e]; simp))
    | some y =>
      cases y with
      | nil => exact .inr (newsN_mem hp (fun x => by rw [e]; simp))
      | cut g2 n => exact .inr (newsN_mem hp (fun x => by rw [e]; simp))
      | id g2 =>
        simp only [e, Bool.and_eq_true] at this
        have h2 := Nat.eq_of_beq_eq_true this.1
        subst h2
        exact .inl (srcsN_mem e rfl)
  refine ⟨o, some (d, r'), D, ho, ⟨fun s2 s2' e1 e2 hf2 hi => ?_, fun g e1 e2 e3 e4 => ?_, fun q hq => (by obtain rfl := Option.some.inj hq; exact hd), fun k x hk => ?_, fun g hg => List.mem_append_left _ (List.mem_append_right _ hg)⟩, fun g hg => hfr g hg, ⟨fun _ => rfl, fun g => (hD _ g).symm⟩⟩
  · -- the call itself
    have he := ev_looks (st := st) (st' := s2) e1
    rw [hop] at he
    have hFl : ∀ g, F.contains g = true → lk s2.own g = lk st.own g := fun g hg => e2 g (List.mem_append_right _ (by simpa using hg))
    have hSl : ∀ g ∈ srcsN φ, lk s2.own g = lk st.own g := fun g hg => e2 g (List.mem_append_left _ hg)
    have hto2 : AV.ToL φ F s2.own (args.toList.map s2.ev ++ cs) as := by
      have : args.toList.map s2.ev = args.toList.map st.ev := List.map_congr_left fun x hx => he x (by simp [Op.operands, Call.operands]; exact .inr (by simpa using hx))
      rw [this]
      exact hto.own hFl
    have hoc2 : toH φ F s2.own ownC := toH_own hFl hSl hgv hoc
    have hf2' : s2.ev f = .fn fid cs := (he f (by simp [Op.operands, Call.operands])).trans hf
    intro C a w K Q hrel hK
    obtain ⟨q1, q2, σ, Z, hI, ht⟩ := hrel
    have ef := ev_rep ht f
    rw [hf2'] at ef
    obtain ⟨caps, hv, hcs⟩ := ef
    have hargs : AV.RepL σ Z w (args.toList.map s2.ev ++ cs) ((args.map a.eval).toList ++ caps.toList) := by
      refine AV.RepL.append ?_ hcs
      simpa using repL_get (ev_rep ht) args.toList
    have hrun : (execOp a.eval o).run P w = .ok (.enter fid (args.map a.eval ++ caps)) w := by
      simp [execOp, hop, resolve, hv, Deferred.ofValue, invoke, run_callFunc_enter hC.1]
    have hIc := inv_call (F := F) hI hsrc hoc2
    have hc := hC.2 _ _ w _ hIc (hto2.rep hI hargs)
    have hea : ((args.map a.eval).toList ++ caps.toList).toArray = args.map a.eval ++ caps := by
      apply Array.ext'
      simp
    rw [hea] at hc
    unfold wpOp
    simp only [ho]
    rw [if_pos (by simp [Region.wanted, hg])]
    refine .inl ?_
    unfold Oper.wp
    rw [hrun]
    show Calls P fid _ w _
    refine hc.mono ?_
    rintro e w' ⟨v, r0, own0, σ', Z', rfl, ⟨rfl, rfl⟩, hI', hrv⟩
    show K (a.put o.dst v) w'
    -- blocks that the callee may change
    have hmineC : ∀ b, Mine ownC (newσ φ σ) b → ∃ g ob0, g ∈ srcsN φ ∧ lk s2.own g = some ob0 ∧ blk (σ g) = some b := by
      rintro b ⟨k, ob, hk, hbk⟩
      rcases toH_src (σ := σ) hoc2 hk with h | ⟨g, ob0, h3, h4, h5⟩
      · rw [h] at hbk; cases hbk
      · rw [h5] at hbk
        obtain ⟨⟨x, hx⟩, _⟩ := givenB_lk hgv hk
        refine ⟨g, ob0, ?_, h4, hbk⟩
        simp only [whence, hx, Option.getD_some] at h3
        exact srcsN_mem hx h3
    have hkeepB : ∀ b, b < w.heap.size → ¬ Mine ownC (newσ φ σ) b → w'.heap[b]? = w.heap[b]? := fun b h1 h2 => hI'.frame b h1 h2
    have hkeep : Keeps Z w w' := fun b hz => hkeepB b (hI.zlt b hz) fun hm => by
      obtain ⟨g, ob0, _, h3, h4⟩ := hmineC b hm
      exact (hI.mine g ob0 b h3 h4).2.1 hz
    let σ2 : Nat → Value := fun g => match lk (rev ν) g with
      | some k => σ' k
      | none => σ g
    have hσ2 : ∀ k g, lk ν k = some g → σ2 g = σ' k := fun k g h => by
      have := (rev_lk h1).2 h
      simp only [σ2, this]
    have hold : ∀ g, g ∉ newsN φ ν → σ2 g = σ g := fun g hg => by
      simp only [σ2]
      split
      · rename_i k hk
        rcases back_cases hb ((rev_lk h1).1 hk) with ⟨h2, h3⟩ | ⟨_, h2⟩
        · have := hI'.keep k h3
          rw [this]
          show newσ φ σ k = σ g
          exact newσ_src (by simp [whence, h2])
        · exact absurd h2 hg
      · rfl
    obtain ⟨Z2, hZ2, hz1, hz2, hz3⟩ : ∃ Z2 : Nat → Prop, (L = true ∨ ∀ b, Z' b → Z2 b) ∧ (∀ b, Z b → Z2 b) ∧ (∀ b, Z2 b → Z' b) ∧ (∀ b, Z2 b → Z b ∨ Mine ownC (newσ φ σ) b ∨ w.heap.size ≤ b ∨ ∃ g ob, g ∈ dropF L F ∧ lk s2.own g = some ob ∧ blk (σ g) = some b) := by
      cases L with
      | true => exact ⟨Z, .inl rfl, fun _ h => h, fun b hz => hI'.zold b (.inl hz), fun _ h => .inl h⟩
      | false =>
        refine ⟨Z', .inr fun _ h => h, fun b hz => hI'.zold b (.inl hz), fun _ h => h, fun b hz => ?_⟩
        rcases hI'.znew b hz with h2 | h2 | h2
        · rcases h2 with h2 | ⟨g, ob, hF, hg, hb'⟩
          · exact .inl h2
          · exact .inr (.inr (.inr ⟨g, ob, by simpa [dropF] using hF, hg, hb'⟩))
        · exact .inr (.inl h2)
        · exact .inr (.inr (.inl h2))
    have hA' : ∀ g ob', lk A g = some ob' → ∃ k ob, lk ν k = some g ∧ lk own0 k = some ob ∧ OB.Rn L ν ob ob' := fun g ob' h => hA.lk h1 h
    have hlk : ∀ g ob, lk (A ++ rest (srcsN φ ++ vals ν ++ dropF L F) s2.own) g = some ob → (lk A g = some ob) ∨ (lk A g = none ∧ (g ∉ srcsN φ ∧ g ∉ dropF L F) ∧ g ∉ vals ν ∧ lk s2.own g = some ob) := by
      intro g ob h
      rw [lk_append] at h
      split at h
      · rename_i x hx; obtain rfl := Option.some.inj h; exact .inl hx
      · rename_i hx
        rw [lk_rest] at h
        split at h
        · cases h
        · rename_i hn; simp only [List.mem_append, not_or] at hn; exact .inr ⟨hx, ⟨hn.1.1, hn.2⟩, hn.1.2, h⟩
    have hnv : ∀ g, g ∉ vals ν → σ2 g = σ g := fun g hg => by
      simp only [σ2]
      split
      · rename_i k hk; exact absurd (vals_mem ((rev_lk h1).1 hk)) hg
      · rfl
    have hmA : ∀ g ob b, lk A g = some ob → blk (σ2 g) = some b → (C.O0 b ∨ C.w0.heap.size ≤ b) ∧ ¬ Z2 b ∧ b < w'.heap.size ∧ (Mine ownC (newσ φ σ) b ∨ w.heap.size ≤ b) := by
      intro g ob' b hg hb'
      obtain ⟨k, ob, hk, hok, _⟩ := hA' g ob' hg
      rw [hσ2 k g hk] at hb'
      obtain ⟨m1, m2, m3⟩ := hI'.mine k ob b hok hb'
      refine ⟨?_, fun hz => m2 (hz2 b hz), m3, m1⟩
      rcases m1 with h | h
      · obtain ⟨g0, ob0, _, h3, h4⟩ := hmineC b h
        exact (hI.mine g0 ob0 b h3 h4).1
      · exact .inr (Nat.le_trans hI.size h)
    have hmH : ∀ g ob b, g ∉ srcsN φ → lk s2.own g = some ob → blk (σ g) = some b → ¬ Mine ownC (newσ φ σ) b := by
      intro g ob b hng hg hb' hm
      obtain ⟨g0, ob0, h2, h3, h4⟩ := hmineC b hm
      have := hI.inj g g0 ob ob0 b hg h3 hb' h4
      subst this
      exact hng h2
    have hInv : Inv C (A ++ rest (srcsN φ ++ vals ν ++ dropF L F) s2.own) σ2 Z2 w' := by
      refine ⟨hI'.os.trans hI.os, hI'.tape.trans hI.tape, hI'.output.trans hI.output, Nat.le_trans hI.size hI'.size, Nat.le_trans hI.drawn hI'.drawn, fun b hb1 hb2 => ?_, fun b hz => hI'.zlt b (hz2 b hz), fun b hz => hz1 b (hI.zold b hz), fun b hz => ?_, fun g ob hg => ?_, fun g ob b hg hb' => ?_, fun g g' ob ob' b hg hg' hbg hbg' => ?_, fun g hg => ?_⟩
      · refine (hkeepB b (Nat.lt_of_lt_of_le hb1 hI.size) fun hm => ?_).trans (hI.frame b hb1 hb2)
        obtain ⟨g0, ob0, _, h3, h4⟩ := hmineC b hm
        rcases (hI.mine g0 ob0 b h3 h4).1 with h | h
        · exact hb2 h
        · omega
      · rcases hz3 b hz with h | h | h | ⟨g0, ob0, _, h3, h4⟩
        · exact hI.znew b h
        · obtain ⟨g0, ob0, _, h3, h4⟩ := hmineC b h
          exact .inr (hI.mine g0 ob0 b h3 h4).1
        · exact .inr (.inr (Nat.le_trans hI.size h))
        · exact .inr (hI.mine g0 ob0 b h3 h4).1
      · rcases hlk g ob hg with h | ⟨h, ⟨hns, hnd⟩, hnv', hg2⟩
        · obtain ⟨k, ob0, hk, hok, hrn⟩ := hA' g ob h
          rw [hσ2 k g hk]
          exact hrn.rep hZ2 hσ2 (hI'.has k ob0 hok)
        · rw [hnv g hnv']
          refine (hI.has g ob hg2).mono hkeep hz1 (fun k hk => hold k fun hkn => ?_) (fun b hb' => hkeepB b (hI.mine g ob b hg2 hb').2.2 (hmH g ob b hns hg2 hb'))
          rw [(hf2 k hkn).2 g ob hg2] at hk
          cases hk
      · rcases hlk g ob hg with h | ⟨h, ⟨hns, hnd⟩, hnv', hg2⟩
        · obtain ⟨m1, m2, m3, _⟩ := hmA g ob b h hb'
          exact ⟨m1, m2, m3⟩
        · rw [hnv g hnv'] at hb'
          have hm := hI.mine g ob b hg2 hb'
          refine ⟨hm.1, fun hz => ?_, Nat.lt_of_lt_of_le hm.2.2 hI'.size⟩
          rcases hz3 b hz with h2 | h2 | h2 | ⟨g0, ob0, h2, h3, h4⟩
          · exact hm.2.1 h2
          · exact hmH g ob b hns hg2 hb' h2
          · have := hm.2.2; omega
          · have := hI.inj g g0 ob ob0 b hg2 h3 hb' h4
            subst this
            exact hnd h2
      · have cross : ∀ g g' ob ob', lk A g = some ob → g' ∉ srcsN φ → g' ∉ vals ν → lk s2.own g' = some ob' → blk (σ2 g) = some b → blk (σ2 g') = some b → False := by
          intro g g' ob ob' hg hns hnv' hg' hb1 hb2
          rw [hnv g' hnv'] at hb2
          rcases (hmA g ob b hg hb1).2.2.2 with h | h
          · exact hmH g' ob' b hns hg' hb2 h
          · have := (hI.mine g' ob' b hg' hb2).2.2; omega
        rcases hlk g ob hg with h | ⟨h, ⟨hns, _⟩, hnv', hg2⟩
        · rcases hlk g' ob' hg' with h' | ⟨h', ⟨hns', _⟩, hnv2, hg2'⟩
          · obtain ⟨k, ob0, hk, hok, _⟩ := hA' g ob h
            obtain ⟨k', ob0', hk', hok', _⟩ := hA' g' ob' h'
            rw [hσ2 k g hk] at hbg
            rw [hσ2 k' g' hk'] at hbg'
            have := hI'.inj k k' _ _ b hok hok' hbg hbg'
            subst this
            rw [hk] at hk'
            exact Option.some.inj hk'
          · exact (cross g g' ob ob' h hns' hnv2 hg2' hbg hbg').elim
        · rcases hlk g' ob' hg' with h' | ⟨h', ⟨hns', _⟩, hnv2, hg2'⟩
          · exact (cross g' g ob' ob h' hns hnv' hg2 hbg' hbg).elim
          · rw [hnv g hnv'] at hbg
            rw [hnv g' hnv2] at hbg'
            exact hI.inj g g' _ _ b hg2 hg2' hbg hbg'
      · simp only [σ2]
        split
        · rename_i k hk
          rcases back_cases hb ((rev_lk h1).1 hk) with ⟨h2, h3⟩ | ⟨h2, _⟩
          · rw [hI'.keep k h3]
            show newσ φ σ k = C.σ0 g
            rw [newσ_src (show whence φ k = .id g by simp [whence, h2])]
            exact hI.keep g hg
          · omega
        · exact hI.keep g hg
    apply hK
    have hInv' : Inv C s2'.own σ2 Z2 w' := hInv.same fun g => by rw [hi.2, hD]
    refine ⟨(put_defers ..).trans q1, by simp [Act.put, hd, q2], σ2, Z2, hInv', ?_⟩
    have htt : Temps σ2 Z2 w' ((d, r') :: s2.t) (a.tmps.setIfInBounds d v) := by
      refine Temps.put (ht.mono hkeep hz1 fun j x hj g hgx => hold g fun hgn => ?_) (by omega) (hr.rep hZ2 hσ2 hrv)
      rw [(hf2 g hgn).1 j x hj] at hgx
      cases hgx
    simp only [Act.put, hd]
    exact fun j x hj => htt j x (by rw [hi.1] at hj; exact hj)
  · have hg : g ∉ vals ν := fun h => by
      rcases hvals g h with h | h
      · exact e4 (List.mem_append_left _ h)
      · exact e3 h
    refine ⟨fun q hq => by obtain rfl := Option.some.inj hq; exact hr.refs hg, fun k ob hk => ?_⟩
    simp only [D, lk_append, lk_mapSome, hDn] at hk
    cases e : lk A k with
    | none =>
      rw [e] at hk
      simp only [Option.map_none] at hk
      split at hk <;> simp at hk
    | some x =>
      rw [e] at hk
      simp at hk
      subst hk
      obtain ⟨k0, ob0, _, _, hrn⟩ := hA.lk h1 e
      cases hrn with
      | row h => exact h.refs hg
      | box h => exact h.refs hg
  · simp only [D, lk_append, lk_mapSome, hDn] at hk
    cases e : lk A k with
    | none =>
      rw [e] at hk
      simp only [Option.map_none] at hk
      split at hk
      · rename_i hm
        rcases List.mem_append.1 hm with h | h
        · rcases List.mem_append.1 h with h | h
          · exact List.mem_append_left _ (List.mem_append_left _ h)
          · rcases hvals k h with h | h
            · exact List.mem_append_left _ (List.mem_append_left _ h)
            · exact List.mem_append_left _ (List.mem_append_right _ h)
        · exact List.mem_append_right _ h
      · cases hk
    | some x =>
      obtain ⟨k0, ob0, hk0, _, _⟩ := hA.lk h1 e
      rcases hvals k (vals_mem hk0) with h | h
      · exact List.mem_append_left _ (List.mem_append_left _ h)
      · exact List.mem_append_left _ (List.mem_append_right _ h)
theorem Ops.callO {l : List Oper} {fps : List Fp} {K : St → Prop} {t : List (Nat × AV)} {H H1 : Own} {f : Operand} {args : Array Operand} {ts : Array TypeId} {fid : FuncId} {cs as0 as : List AV} {r r' : AV} {ownC own' A : Own} (φ : List (Nat × Whence)) (F : List Nat) (ν : List (Nat × Nat)) (L : Bool)
    (hg : o.guard = none) (hd : o.dst = some d) (hn : Nat.blt d n = true) (hop : o.op = .call { callee := .value f, args := args, argTypes := ts }) (hf : evO t f = some (.fn fid cs)) (hev : evL t args.toList = some as0) (hC : FunO P fid as ownC r own') (hto : AV.ToL φ F H (as0 ++ cs) as) (hoc : toH φ F H ownC)
    (hgv : givenB φ ownC = true) (hsrc : srcsB φ F ownC = true) (hr : AV.Rn L ν r r') (hA : OwnRn L ν own' A) (h1 : oneB ν = true) (hb : backB φ ν = true) (hfr : (newsN φ ν).all (fun g => noRefT g t && noRefH g H) = true) (hrest : rest (srcsN φ ++ vals ν ++ dropF L F) H = H1)
    (hK : OpsL P T n ops (i + 1) l fps K ⟨(d, r') :: t, A ++ H1⟩) : OpsL P T n ops i (o :: l) (⟨srcsN φ ++ F, srcsN φ ++ newsN φ ν ++ dropF L F, newsN φ ν⟩ :: fps) K ⟨t, H⟩ := by
  subst hrest
  refine ⟨_, _, rfl, fun ho => ⟨_, Step.callO (st := ⟨t, H⟩) (L := L) ho hg hd (by simpa [Nat.blt_eq] using hn) hop (evO_ev (st := ⟨t, H⟩) hf) (by rw [evL_ev (st := ⟨t, H⟩) hev]; exact hto) hoc hgv hsrc hC hr hA h1 hb (fun g hg => ?_), hK.out⟩⟩
  have := List.all_eq_true.1 hfr g hg
  simp only [Bool.and_eq_true] at this
  exact ⟨noT_of this.1, noH_of this.2⟩
end
mutual
def AV.phi : AV → AV → List (Nat × Whence)
  | .osl g, .osl k => [(k, .id g)]
  | .nil, .osl k => [(k, .nil)]
  | .osb g _ n _, .osl k => [(k, .cut g n)]
  | .optr g _, .optr k _ => [(k, .id g)]
  | .agg as, .agg bs => AV.phiL as bs
  | .tup as, .tup bs => AV.phiL as bs
  | .fn _ as, .fn _ bs => AV.phiL as bs
  | _, _ => []
def AV.phiL : List AV → List AV → List (Nat × Whence)
  | a :: as, b :: bs => AV.phi a b ++ AV.phiL as bs
  | _, _ => []
end
mutual
def AV.lent : AV → AV → List Nat
  | .osl g, .fv _ => [g]
  | .osb g _ _ _, .fv _ => [g]
  | .optr g _, .fptr _ => [g]
  | .agg as, .agg bs => AV.lentL as bs
  | .tup as, .tup bs => AV.lentL as bs
  | .fn _ as, .fn _ bs => AV.lentL as bs
  | _, _ => []
def AV.lentL : List AV → List AV → List Nat
  | a :: as, b :: bs => AV.lent a b ++ AV.lentL as bs
  | _, _ => []
end
def phiO (H : Own) : List (Nat × Whence) → Own → List (Nat × Whence)
  | φ, [] => φ
  | φ, (k, .box _ cs) :: l => match lk φ k with
    | some (.id g) => match lk H g with
      | some (.box _ c0) => phiO H (φ ++ AV.phiL c0 cs) l
      | _ => phiO H φ l
    | _ => phiO H φ l
  | φ, (_, .row _ _ _ _) :: l => phiO H φ l
def lentO (H : Own) (φ : List (Nat × Whence)) : List Nat → Own → List Nat
  | F, [] => F
  | F, (k, .box _ cs) :: l => match lk φ k with
    | some (.id g) => match lk H g with
      | some (.box _ c0) => lentO H φ (F ++ AV.lentL c0 cs) l
      | _ => lentO H φ F l
    | _ => lentO H φ F l
  | F, (_, .row _ _ _ _) :: l => lentO H φ F l
def nuA (φ : List (Nat × Whence)) : Nat → Own → List (Nat × Nat)
  | _, [] => []
  | d, (k, _) :: l => match lk φ k with
    | some (.id g) => (k, g) :: nuA φ d l
    | _ => (k, d) :: nuA φ (d + 300) l
def freeNs : List Nat → List (Nat × AV) → Own → Bool
  | [], _, _ => true
  | g :: l, t, H => noRefT g t && noRefH g H && freeNs l t H
theorem freeNs_all : ∀ {N : List Nat} {t : List (Nat × AV)} {H : Own}, freeNs N t H = true → N.all (fun g => noRefT g t && noRefH g H) = true
  | [], _, _, _ => rfl
  | g :: l, t, H, h => by
    simp only [freeNs, Bool.and_eq_true] at h
    simp only [List.all_cons, Bool.and_eq_true]
    exact ⟨h.1, freeNs_all h.2⟩
section
variable {P : Program} {T : Tbl} {n i : Nat} {ops : Array Oper} {o : Oper} {d : Nat}
theorem Ops.callA (L : Bool) {l : List Oper} {fps : List Fp} {K : St → Prop} {t : List (Nat × AV)} {H H1 : Own} {N : List Nat} {f : Operand} {args : Array Operand} {ts : Array TypeId} {fid : FuncId} {cs as0 as : List AV} {r r' : AV} {ownC own' A : Own}
    (hg : o.guard = none) (hd : o.dst = some d) (hn : Nat.blt d n = true) (hop : o.op = .call { callee := .value f, args := args, argTypes := ts }) (hf : evO t f = some (.fn fid cs)) (hev : evL t args.toList = some as0) (hC : FunO P fid as ownC r own')
    (hto : AV.ToL (phiO H (AV.phiL (as0 ++ cs) as) ownC) (lentO H (phiO H (AV.phiL (as0 ++ cs) as) ownC) (AV.lentL (as0 ++ cs) as) ownC) H (as0 ++ cs) as) (hoc : toH (phiO H (AV.phiL (as0 ++ cs) as) ownC) (lentO H (phiO H (AV.phiL (as0 ++ cs) as) ownC) (AV.lentL (as0 ++ cs) as) ownC) H ownC)
    (hgv : givenB (phiO H (AV.phiL (as0 ++ cs) as) ownC) ownC = true) (hsrc : srcsB (phiO H (AV.phiL (as0 ++ cs) as) ownC) (lentO H (phiO H (AV.phiL (as0 ++ cs) as) ownC) (AV.lentL (as0 ++ cs) as) ownC) ownC = true)
    (hr : AV.Rn L (nuA (phiO H (AV.phiL (as0 ++ cs) as) ownC) d own') r r') (hA : OwnRn L (nuA (phiO H (AV.phiL (as0 ++ cs) as) ownC) d own') own' A)
    (h1 : oneB (nuA (phiO H (AV.phiL (as0 ++ cs) as) ownC) d own') = true) (hb : backB (phiO H (AV.phiL (as0 ++ cs) as) ownC) (nuA (phiO H (AV.phiL (as0 ++ cs) as) ownC) d own') = true)
    (hN : newsN (phiO H (AV.phiL (as0 ++ cs) as) ownC) (nuA (phiO H (AV.phiL (as0 ++ cs) as) ownC) d own') = N) (hfr : freeNs N t H = true) (hH1 : A ++ rest (srcsN (phiO H (AV.phiL (as0 ++ cs) as) ownC) ++ vals (nuA (phiO H (AV.phiL (as0 ++ cs) as) ownC) d own') ++ dropF L (lentO H (phiO H (AV.phiL (as0 ++ cs) as) ownC) (AV.lentL (as0 ++ cs) as) ownC)) H = H1)
    (hK : OpsL P T n ops (i + 1) l fps K ⟨(d, r') :: t, H1⟩) :
    OpsL P T n ops i (o :: l) (⟨srcsN (phiO H (AV.phiL (as0 ++ cs) as) ownC) ++ lentO H (phiO H (AV.phiL (as0 ++ cs) as) ownC) (AV.lentL (as0 ++ cs) as) ownC, srcsN (phiO H (AV.phiL (as0 ++ cs) as) ownC) ++ N ++ dropF L (lentO H (phiO H (AV.phiL (as0 ++ cs) as) ownC) (AV.lentL (as0 ++ cs) as) ownC), N⟩ :: fps) K ⟨t, H⟩ := by
  subst hN hH1
  exact Ops.callO _ _ _ _ hg hd hn hop hf hev hC hto hoc hgv hsrc hr hA h1 hb (freeNs_all hfr) rfl hK
end
end Go.Proofs.YtmidechdlbcepaaGreat